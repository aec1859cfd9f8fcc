import Derived.Test.YthdaimoankaciaaGreatDoorPo
import Derived.Test.YthdaimoankaciaaGreatDoorPp
/- The reference's Parse of fractions. -/
set_option linter.unusedSimpArgs false
set_option linter.unusedVariables false
namespace Go.Proofs.YthdaimoankaciaaGreatDoor
open Go Go.RowKit Go.Sy
open Vi
theorem slH2 {s : ByteArray} {k : Int} {x z : Operand} (h0 : 0 ≤ k) (h1 : k ≤ s.size) : ∀ (o : Oper), o.op = .slice 9 x none (some z) none → ∀ (ρ : Operand → Value) (w : World), (Op.operands (.slice 9 x none (some z) none)).toList.map ρ = [.string s, .int .i64 k] → (execOp ρ o).run Tryz.prog w = .ok (.value (.string (s.extract 0 k.toNat))) w := by
 intro o ho ρ w hl
 simp [Op.operands] at hl
 unfold execOp
 rw [ho]
 have h := run_slice_string_h (P := Tryz.prog) w 9 s (by kernel_rfl) .i64 k h0 h1
 have h2 := run_sliceAt_string (P := Tryz.prog) (w := w) 9 (.string s) none (some (.int .i64 k)) none (by kernel_rfl)
 simp [hl, h, h2]
theorem slL2 {s : ByteArray} {k : Int} {x z : Operand} (h0 : 0 ≤ k) (h1 : k ≤ s.size) : ∀ (o : Oper), o.op = .slice 9 x (some z) none none → ∀ (ρ : Operand → Value) (w : World), (Op.operands (.slice 9 x (some z) none none)).toList.map ρ = [.string s, .int .i64 k] → (execOp ρ o).run Tryz.prog w = .ok (.value (.string (s.extract k.toNat s.size))) w := by
 intro o ho ρ w hl
 simp [Op.operands] at hl
 unfold execOp
 rw [ho]
 have h := run_slice_string_l (P := Tryz.prog) w 9 s (by kernel_rfl) .i64 k h0 h1
 have h2 := run_sliceAt_string (P := Tryz.prog) (w := w) 9 (.string s) (some (.int .i64 k)) none none (by kernel_rfl)
 simp [hl, h, h2]
def stCt (T : ByteArray) (neg : Bool) (k : Nat) : St := ⟨73, 0, [(0, .string T), (2, ptr 0 0), (4, .bool neg), (5, nV k)], junk, [(0, blk 25 [.bool false, .string ⟨#[]⟩, .bool false, .string ⟨#[]⟩])], 1⟩
theorem cut_loopT (T : ByteArray) (neg : Bool) (hT : T.size ≤ 5000) (K : Nat) (hK : K = T.size ∨ ∃ h : K < T.size, (T[K]'h).toNat = 47) : ∀ m k, k + m = K → (∀ j (h : j < T.size), j < K → (T[j]'h).toNat ≠ 47) →
    RoundsOk Tryz.prog (nthLoop 0 (Tryz.f77.body.getD .skip)) (stCt T neg k) (.exit 0) (stCt T neg K)
 | 0, k, hk, hn => by
  obtain rfl : k = K := by omega
  refine .out (by simp) ?_
  rcases hK with rfl | ⟨h, hb⟩
  ·have c1 : decide ((T.size : Int) < (T.size : Int)) = false := decide_eq_false (by omega)
   clear hn hk hT
   unfold stCt
   exact piece [(0, 0)] [L, eb c1] fol (by kernel_rfl)
  ·have c1 : decide ((k : Int) < (T.size : Int)) = true := decide_eq_true (by omega)
   have g1 := @idxG T k (.tmp 29) (.tmp 30) h
   rw [hb] at g1
   clear hn hk hT hb
   unfold stCt
   exact piece [(0, 0)] [L, eb c1, gx _ 5 _ _ g1] fol (by kernel_rfl)
 | m + 1, k, hk, hn => by
  have hlt : k < T.size := by rcases hK with h | ⟨h, _⟩ <;> omega
  have c1 : decide ((k : Int) < (T.size : Int)) = true := decide_eq_true (by omega)
  have w1 : IntKind.i64.wrap ((k : Int) + 1) = ((k + 1 : Nat) : Int) := by rw [w64 (by omega) (by omega)]; omega
  have g1 := @idxG T k (.tmp 29) (.tmp 30) hlt
  have hb := hn k hlt (by omega)
  have c2 : ((((T[k]'hlt).toNat : Nat) : Int) != 47) = true := by simp; omega
  have ih := cut_loopT T neg hT K hK m (k + 1) (by omega) hn
  refine .more ?_ ih
  clear ih hn hb hK hk hT
  generalize (((T[k]'hlt).toNat : Nat) : Int) = b at *
  unfold stCt
  exact piece [(0, 0)] [L, eb c1, gx _ 5 _ _ g1, eb c2, Go.Sy.e (congrArg (Value.int IntKind.i64) w1)] fol (by kernel_rfl)
theorem cut_at (T : ByteArray) : ∃ K : Nat, (K = T.size ∨ ∃ h : K < T.size, (T[K]'h).toNat = 47) ∧ (∀ j (h : j < T.size), j < K → (T[j]'h).toNat ≠ 47) ∧ K ≤ T.size ∧ T.extract 0 K = cutA T ∧
    ((cutH T = false ∧ K = T.size) ∨ (cutH T = true ∧ K < T.size ∧ T.extract (K + 1) T.size = cutB T)) := by
 have hget : ∀ j (h : j < T.size), T.data.toList[j]? = some (T[j]'h) := fun j h => by
  rw [List.getElem?_eq_getElem (by simpa using h)]; rfl
 by_cases hc : cutI T = -1
 ·refine ⟨T.size, .inl rfl, fun j h _ e => ?_, Nat.le_refl _, ?_, .inl ⟨by unfold cutH; rw [hc]; decide, rfl⟩⟩
  ·have h1 : (47 : UInt8) ∈ T.data.toList := by
     have e2 : T[j]'h = 47 := UInt8.toNat_inj.1 (by rw [e]; rfl)
     rw [← e2]
     exact List.mem_of_getElem? (hget j h)
   have h2 : ∀ l : List UInt8, (47 : UInt8) ∈ l → Lib.indexByte l 47 ≠ -1 := by
    intro l
    induction l with
    | nil => intro h; cases h
    | cons a l ih =>
     intro h
     unfold Lib.indexByte
     split
     ·decide
     ·rename_i ha
      rcases List.mem_cons.1 h with e3 | h
      ·exact absurd (by rw [← e3]; simp) ha
      ·have := ih h
       have h5 := Lib.indexByte_ge l 47
       split
       ·rename_i h4; exact absurd (by simpa using h4) this
       ·omega
   exact h2 _ h1 hc
  ·unfold cutA
   rw [if_pos hc]
   apply ByteArray.ext
   simp
 ·obtain ⟨i, h1, h2⟩ := cutI_lt T hc
  have h3 := Lib.indexByte_some (l := T.data.toList) (c := 47) (o := i) (by have : Lib.indexByte T.data.toList 47 = cutI T := rfl
                                                                            rw [this, h1])
  have e : (cutI T).toNat = i := by omega
  refine ⟨i, .inr ⟨h2, ?_⟩, fun j h hj e2 => ?_, by omega, by unfold cutA; rw [if_neg hc, e], .inr ⟨by unfold cutH; exact decide_eq_true hc, h2, by unfold cutB; rw [if_neg hc, e]⟩⟩
  ·have := h3.1
   rw [hget i h2] at this
   rw [Option.some.inj this]; rfl
  ·have h4 := h3.2 j hj
   rw [hget j h] at h4
   exact h4 (by rw [show T[j]'h = 47 from UInt8.toNat_inj.1 (by rw [e2]; rfl)])
theorem dCan1 (neg : Bool) (x : Nat) (sx : nd 256 x ≤ 100000) : Sp Tryz.prog 131 [rD x, (1, [nV 1])] [.agg #[.bool neg, row 0 (nd 256 x), row 1 1]] (rV (Rat.divInt (sgd neg x) 1)) [] := by
 have := fCan neg x 1 (by omega) (by omega) (by rw [nd_small 1 (by omega) (by omega)]; omega)
 unfold fV at this
 rw [nd_small 1 (by omega) (by omega), rD_small 1 (by omega) (by omega)] at this
 exact this
theorem pv_nd5 (s : ByteArray) (h : okD s = true) (hs : s.size ≤ 5000) : nd 256 (pv s s.size) ≤ 5000 := by
 unfold okD at h
 simp only [Bool.and_eq_true] at h
 have hd := (digS_iff s).2 h.1
 exact Nat.le_trans (pv_nd s s.size fun i hi => (dgt_le s i hi (by have := hd i hi; unfold isD; simp; omega)).1) hs
theorem rParse (s : ByteArray) : Sp Tryz.prog 77 [] [.string s] (.tuple #[rV (parseQ s).1, nV (parseQ s).2]) [] := by
 unfold parseQ
 by_cases hl : 4096 < s.size
 ·rw [if_pos hl, rV0]
  have l2 : decide ((s.size : Int) > 4096) = true := decide_eq_true (by omega)
  clear hl
  exact walk (code := Tryz.f77.body.getD .skip) [L, eb l2] fol Tryz.func77 (by kernel_rfl) (fun xs w => Tryz.call77 xs w) (by kernel_rfl)
 rw [if_neg hl]
 have l2 : decide ((s.size : Int) > 4096) = false := decide_eq_false (by omega)
 have hT := qrest_size s
 have hneg : (qneg s = false ∧ s.size = 0 ∧ qrest s = s) ∨ (∃ h : 0 < s.size, (qneg s = false ∧ (s[0]'h).toNat ≠ 45 ∧ qrest s = s) ∨ (qneg s = true ∧ (s[0]'h).toNat = 45 ∧ qrest s = s.extract 1 s.size)) := by
  obtain ⟨⟨l⟩⟩ := s
  cases l with
  | nil => exact .inl ⟨rfl, rfl, rfl⟩
  | cons a l =>
   refine .inr ⟨by show 0 < (a :: l).length; simp, ?_⟩
   by_cases ha : a = 45
   ·subst ha
    obtain ⟨h1, h2⟩ := qneg_yes l
    refine .inr ⟨h1, rfl, ?_⟩
    rw [Lib.extract_mk]
    refine h2.trans ?_
    show _ = (⟨(((45 :: l).drop 1).take ((45 :: l).length - 1)).toArray⟩ : ByteArray)
    simp
   ·obtain ⟨h1, h2⟩ := qneg_no (l := a :: l) (by simpa using ha)
    exact .inl ⟨h1, fun e => ha (UInt8.toNat_inj.1 (by show a.toNat = _; rw [show a.toNat = 45 from e]; rfl)), h2⟩
 obtain ⟨T, eT⟩ : ∃ T, T = qrest s := ⟨_, rfl⟩
 obtain ⟨ng, eng⟩ : ∃ ng, ng = qneg s := ⟨_, rfl⟩
 rw [← eT] at hT
 rw [← eT, ← eng] at hneg ⊢
 obtain ⟨K, k1, k2, k3, k4, k5⟩ := cut_at T
 have hlp := (cut_loopT T ng (by omega) K k1 K 0 (by omega) k2).loop
 unfold stCt at hlp
 have g1 := @slH2 T K (.tmp 37) (.tmp 38) (by omega) (by omega)
 rw [Int.toNat_natCast, k4] at g1
 have hA := cutA_size T
 have hB := cutB_size T
 have NA := rNumber (cutA T) (by omega)
 have c0 : ∀ b : Bool, K = T.size → decide ((K : Int) < (T.size : Int)) = false := fun _ h => decide_eq_false (by omega)
 have c1 : ∀ b : Bool, K < T.size → decide ((K : Int) < (T.size : Int)) = true := fun _ h => decide_eq_true (by omega)
 have wK : IntKind.i64.wrap ((K : Int) + 1) = ((K + 1 : Nat) : Int) := by rw [w64 (by omega) (by omega)]; omega
 have cond : (qneg s = qneg s) := rfl
 clear eng eT cond
 rcases NA with ⟨oA, NA⟩ | ⟨oA, NA⟩
 ·have zA := pv_nd5 _ oA (by omega)
  rw [oA]
  rcases k5 with ⟨hH, hK⟩ | ⟨hH, hK, hBx⟩
  ·have cK := c0 true hK
   rw [hH]
   simp only [Bool.not_true, Bool.false_or, Bool.false_and, Bool.false_eq_true, if_false]
   rw [if_neg (by decide)]
   generalize pv (cutA T) (cutA T).size = X at *
   have C := dCan1 ng X (by omega)
   have e1 : (if ng = true then -((X : Nat) : Int) else ((X : Nat) : Int)) = sgd ng X := rfl
   rw [e1]
   show Sp Tryz.prog 77 [] [.string s] (.tuple #[rV (Rat.divInt (sgd ng X) 1), nV 0]) []
   generalize Rat.divInt (sgd ng X) 1 = q at *
   clear e1 zA oA hK hH c0 c1 wK
   rcases hneg with ⟨rfl, h0, rfl⟩ | ⟨h0, ⟨rfl, hb, rfl⟩ | ⟨rfl, hb, hx⟩⟩
   ·have l3 : decide ((T.size : Int) > 0) = false := decide_eq_false (by omega)
    clear h0 hA hB hT hl k1 k2 k3 k4
    exact walk (code := Tryz.f77.body.getD .skip) [L, eb l2, L, eb l3, lp [(0, 0)] hlp, gx _ 9 _ _ g1, cr NA, L, eb cK, cr C] fol Tryz.func77 (by kernel_rfl) (fun xs w => Tryz.call77 xs w) (by kernel_rfl)
   ·have l3 : decide ((T.size : Int) > 0) = true := decide_eq_true (by omega)
    have g0 := @idxG T 0 (.tmp 17) (.const (.int .i64 0)) h0
    have c2 : decide ((((T[0]'h0).toNat : Nat) : Int) = 45) = false := decide_eq_false (by omega)
    generalize (((T[0]'h0).toNat : Nat) : Int) = b at *
    clear hb hA hB hT hl k1 k2 k3 k4
    exact walk (code := Tryz.f77.body.getD .skip) [L, eb l2, L, eb l3, gx _ 5 _ _ g0, eb c2, lp [(0, 0)] hlp, gx _ 9 _ _ g1, cr NA, L, eb cK, cr C] fol Tryz.func77 (by kernel_rfl) (fun xs w => Tryz.call77 xs w) (by kernel_rfl)
   ·have l3 : decide ((s.size : Int) > 0) = true := decide_eq_true (by omega)
    have g0 := @idxG s 0 (.tmp 17) (.const (.int .i64 0)) h0
    rw [hb] at g0
    have gs := @slL2 s 1 (.tmp 22) (.const (.int .i64 1)) (by omega) (by omega)
    rw [show (1 : Int).toNat = 1 from rfl, ← hx] at gs
    clear hx hb hA hB hT hl k1 k2 k3 k4
    exact walk (code := Tryz.f77.body.getD .skip) [L, eb l2, L, eb l3, gx _ 5 _ _ g0, L, gx _ 9 _ _ gs, lp [(0, 0)] hlp, gx _ 9 _ _ g1, cr NA, L, eb cK, cr C] fol Tryz.func77 (by kernel_rfl) (fun xs w => Tryz.call77 xs w) (by kernel_rfl)
  ·have cK := c1 true hK
   rw [hH]
   have g2 := @slL2 T ((K + 1 : Nat) : Int) (.tmp 52) (.tmp 54) (by omega) (by omega)
   rw [Int.toNat_natCast, hBx] at g2
   have NB := rNumber (cutB T) (by omega)
   rcases NB with ⟨oB, NB⟩ | ⟨oB, NB⟩
   ·have zB := pv_nd5 _ oB (by omega)
    rw [oB]
    simp only [Bool.not_true, Bool.false_or, Bool.and_false, Bool.false_eq_true, if_false, if_true]
    generalize pv (cutA T) (cutA T).size = X at *
    generalize pv (cutB T) (cutB T).size = Y at *
    by_cases hY : Y = 0
    ·subst hY
     rw [if_pos rfl, rV0]
     have cz : decide (((nd 256 0 : Nat) : Int) = 0) = true := rfl
     clear zA zB oA oB hK hH hBx c0 c1
     rcases hneg with ⟨rfl, h0, rfl⟩ | ⟨h0, ⟨rfl, hb, rfl⟩ | ⟨rfl, hb, hx⟩⟩
     ·have l3 : decide ((T.size : Int) > 0) = false := decide_eq_false (by omega)
      clear h0 hA hB hT hl k1 k2 k3 k4
      exact walk (code := Tryz.f77.body.getD .skip) [L, eb l2, L, eb l3, lp [(0, 0)] hlp, gx _ 9 _ _ g1, cr NA, L, eb cK, Go.Sy.e (congrArg (Value.int IntKind.i64) wK), gx _ 9 _ _ g2, cr NB] fol Tryz.func77 (by kernel_rfl) (fun xs w => Tryz.call77 xs w) (by kernel_rfl)
     ·have l3 : decide ((T.size : Int) > 0) = true := decide_eq_true (by omega)
      have g0 := @idxG T 0 (.tmp 17) (.const (.int .i64 0)) h0
      have c2 : decide ((((T[0]'h0).toNat : Nat) : Int) = 45) = false := decide_eq_false (by omega)
      generalize (((T[0]'h0).toNat : Nat) : Int) = b at *
      clear hb hA hB hT hl k1 k2 k3 k4
      exact walk (code := Tryz.f77.body.getD .skip) [L, eb l2, L, eb l3, gx _ 5 _ _ g0, eb c2, lp [(0, 0)] hlp, gx _ 9 _ _ g1, cr NA, L, eb cK, Go.Sy.e (congrArg (Value.int IntKind.i64) wK), gx _ 9 _ _ g2, cr NB] fol Tryz.func77 (by kernel_rfl) (fun xs w => Tryz.call77 xs w) (by kernel_rfl)
     ·have l3 : decide ((s.size : Int) > 0) = true := decide_eq_true (by omega)
      have g0 := @idxG s 0 (.tmp 17) (.const (.int .i64 0)) h0
      rw [hb] at g0
      have gs := @slL2 s 1 (.tmp 22) (.const (.int .i64 1)) (by omega) (by omega)
      rw [show (1 : Int).toNat = 1 from rfl, ← hx] at gs
      clear hx hb hA hB hT hl k1 k2 k3 k4
      exact walk (code := Tryz.f77.body.getD .skip) [L, eb l2, L, eb l3, gx _ 5 _ _ g0, L, gx _ 9 _ _ gs, lp [(0, 0)] hlp, gx _ 9 _ _ g1, cr NA, L, eb cK, Go.Sy.e (congrArg (Value.int IntKind.i64) wK), gx _ 9 _ _ g2, cr NB] fol Tryz.func77 (by kernel_rfl) (fun xs w => Tryz.call77 xs w) (by kernel_rfl)
    ·rw [if_neg hY]
     have C := fCan ng X Y (by omega) (by omega) (by omega)
     have e1 : (if ng = true then -((X : Nat) : Int) else ((X : Nat) : Int)) = sgd ng X := rfl
     rw [e1]
     have cz : decide (((nd 256 Y : Nat) : Int) = 0) = false := by
      have := nd_pos 256 (by omega) Y (by omega)
      exact decide_eq_false (by omega)
     show Sp Tryz.prog 77 [] [.string s] (.tuple #[rV (Rat.divInt (sgd ng X) (Y : Int)), nV 0]) []
     generalize Rat.divInt (sgd ng X) (Y : Int) = q at *
     clear e1 zA zB oA oB hK hH hBx c0 c1 hY
     rcases hneg with ⟨rfl, h0, rfl⟩ | ⟨h0, ⟨rfl, hb, rfl⟩ | ⟨rfl, hb, hx⟩⟩
     ·have l3 : decide ((T.size : Int) > 0) = false := decide_eq_false (by omega)
      clear h0 hA hB hT hl k1 k2 k3 k4
      exact walk (code := Tryz.f77.body.getD .skip) [L, eb l2, L, eb l3, lp [(0, 0)] hlp, gx _ 9 _ _ g1, cr NA, L, eb cK, Go.Sy.e (congrArg (Value.int IntKind.i64) wK), gx _ 9 _ _ g2, cr NB, L, eb cz, cr C] fol Tryz.func77 (by kernel_rfl) (fun xs w => Tryz.call77 xs w) (by kernel_rfl)
     ·have l3 : decide ((T.size : Int) > 0) = true := decide_eq_true (by omega)
      have g0 := @idxG T 0 (.tmp 17) (.const (.int .i64 0)) h0
      have c2 : decide ((((T[0]'h0).toNat : Nat) : Int) = 45) = false := decide_eq_false (by omega)
      generalize (((T[0]'h0).toNat : Nat) : Int) = b at *
      clear hb hA hB hT hl k1 k2 k3 k4
      exact walk (code := Tryz.f77.body.getD .skip) [L, eb l2, L, eb l3, gx _ 5 _ _ g0, eb c2, lp [(0, 0)] hlp, gx _ 9 _ _ g1, cr NA, L, eb cK, Go.Sy.e (congrArg (Value.int IntKind.i64) wK), gx _ 9 _ _ g2, cr NB, L, eb cz, cr C] fol Tryz.func77 (by kernel_rfl) (fun xs w => Tryz.call77 xs w) (by kernel_rfl)
     ·have l3 : decide ((s.size : Int) > 0) = true := decide_eq_true (by omega)
      have g0 := @idxG s 0 (.tmp 17) (.const (.int .i64 0)) h0
      rw [hb] at g0
      have gs := @slL2 s 1 (.tmp 22) (.const (.int .i64 1)) (by omega) (by omega)
      rw [show (1 : Int).toNat = 1 from rfl, ← hx] at gs
      clear hx hb hA hB hT hl k1 k2 k3 k4
      exact walk (code := Tryz.f77.body.getD .skip) [L, eb l2, L, eb l3, gx _ 5 _ _ g0, L, gx _ 9 _ _ gs, lp [(0, 0)] hlp, gx _ 9 _ _ g1, cr NA, L, eb cK, Go.Sy.e (congrArg (Value.int IntKind.i64) wK), gx _ 9 _ _ g2, cr NB, L, eb cz, cr C] fol Tryz.func77 (by kernel_rfl) (fun xs w => Tryz.call77 xs w) (by kernel_rfl)
   ·rw [oB]
    simp only [Bool.not_true, Bool.false_or, Bool.not_false, Bool.and_true, if_true]
    rw [rV0]
    clear zA oA oB hK hH hBx c0 c1
    rcases hneg with ⟨rfl, h0, rfl⟩ | ⟨h0, ⟨rfl, hb, rfl⟩ | ⟨rfl, hb, hx⟩⟩
    ·have l3 : decide ((T.size : Int) > 0) = false := decide_eq_false (by omega)
     clear h0 hA hB hT hl k1 k2 k3 k4
     exact walk (code := Tryz.f77.body.getD .skip) [L, eb l2, L, eb l3, lp [(0, 0)] hlp, gx _ 9 _ _ g1, cr NA, L, eb cK, Go.Sy.e (congrArg (Value.int IntKind.i64) wK), gx _ 9 _ _ g2, c NB] fol Tryz.func77 (by kernel_rfl) (fun xs w => Tryz.call77 xs w) (by kernel_rfl)
    ·have l3 : decide ((T.size : Int) > 0) = true := decide_eq_true (by omega)
     have g0 := @idxG T 0 (.tmp 17) (.const (.int .i64 0)) h0
     have c2 : decide ((((T[0]'h0).toNat : Nat) : Int) = 45) = false := decide_eq_false (by omega)
     generalize (((T[0]'h0).toNat : Nat) : Int) = b at *
     clear hb hA hB hT hl k1 k2 k3 k4
     exact walk (code := Tryz.f77.body.getD .skip) [L, eb l2, L, eb l3, gx _ 5 _ _ g0, eb c2, lp [(0, 0)] hlp, gx _ 9 _ _ g1, cr NA, L, eb cK, Go.Sy.e (congrArg (Value.int IntKind.i64) wK), gx _ 9 _ _ g2, c NB] fol Tryz.func77 (by kernel_rfl) (fun xs w => Tryz.call77 xs w) (by kernel_rfl)
    ·have l3 : decide ((s.size : Int) > 0) = true := decide_eq_true (by omega)
     have g0 := @idxG s 0 (.tmp 17) (.const (.int .i64 0)) h0
     rw [hb] at g0
     have gs := @slL2 s 1 (.tmp 22) (.const (.int .i64 1)) (by omega) (by omega)
     rw [show (1 : Int).toNat = 1 from rfl, ← hx] at gs
     clear hx hb hA hB hT hl k1 k2 k3 k4
     exact walk (code := Tryz.f77.body.getD .skip) [L, eb l2, L, eb l3, gx _ 5 _ _ g0, L, gx _ 9 _ _ gs, lp [(0, 0)] hlp, gx _ 9 _ _ g1, cr NA, L, eb cK, Go.Sy.e (congrArg (Value.int IntKind.i64) wK), gx _ 9 _ _ g2, c NB] fol Tryz.func77 (by kernel_rfl) (fun xs w => Tryz.call77 xs w) (by kernel_rfl)
 ·rw [oA]
  simp only [Bool.not_false, Bool.true_or, if_true]
  rw [rV0]
  clear oA k5 c0 c1 wK
  rcases hneg with ⟨rfl, h0, rfl⟩ | ⟨h0, ⟨rfl, hb, rfl⟩ | ⟨rfl, hb, hx⟩⟩
  ·have l3 : decide ((T.size : Int) > 0) = false := decide_eq_false (by omega)
   clear h0 hA hB hT hl k1 k2 k3 k4
   exact walk (code := Tryz.f77.body.getD .skip) [L, eb l2, L, eb l3, lp [(0, 0)] hlp, gx _ 9 _ _ g1, c NA] fol Tryz.func77 (by kernel_rfl) (fun xs w => Tryz.call77 xs w) (by kernel_rfl)
  ·have l3 : decide ((T.size : Int) > 0) = true := decide_eq_true (by omega)
   have g0 := @idxG T 0 (.tmp 17) (.const (.int .i64 0)) h0
   have c2 : decide ((((T[0]'h0).toNat : Nat) : Int) = 45) = false := decide_eq_false (by omega)
   generalize (((T[0]'h0).toNat : Nat) : Int) = b at *
   clear hb hA hB hT hl k1 k2 k3 k4
   exact walk (code := Tryz.f77.body.getD .skip) [L, eb l2, L, eb l3, gx _ 5 _ _ g0, eb c2, lp [(0, 0)] hlp, gx _ 9 _ _ g1, c NA] fol Tryz.func77 (by kernel_rfl) (fun xs w => Tryz.call77 xs w) (by kernel_rfl)
  ·have l3 : decide ((s.size : Int) > 0) = true := decide_eq_true (by omega)
   have g0 := @idxG s 0 (.tmp 17) (.const (.int .i64 0)) h0
   rw [hb] at g0
   have gs := @slL2 s 1 (.tmp 22) (.const (.int .i64 1)) (by omega) (by omega)
   rw [show (1 : Int).toNat = 1 from rfl, ← hx] at gs
   clear hx hb hA hB hT hl k1 k2 k3 k4
   exact walk (code := Tryz.f77.body.getD .skip) [L, eb l2, L, eb l3, gx _ 5 _ _ g0, L, gx _ 9 _ _ gs, lp [(0, 0)] hlp, gx _ 9 _ _ g1, c NA] fol Tryz.func77 (by kernel_rfl) (fun xs w => Tryz.call77 xs w) (by kernel_rfl)
end Go.Proofs.YthdaimoankaciaaGreatDoor
