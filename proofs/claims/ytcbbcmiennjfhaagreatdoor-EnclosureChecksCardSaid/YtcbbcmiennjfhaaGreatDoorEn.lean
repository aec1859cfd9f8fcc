import Derived.Test.YtcbbcmiennjfhaaGreatDoorEB
/- Chapter 5's law about checks. -/
set_option linter.unusedSimpArgs false
set_option linter.unusedVariables false
namespace Go.Proofs.YtcbbcmiennjfhaaGreatDoor
open Go Go.RowKit Go.Sy
open Vi
theorem slH {s : ByteArray} {k : Int} {x z : Operand} (h0 : 0 ≤ k) (h1 : k ≤ s.size) : ∀ (o : Oper), o.op = .slice 9 x none (some z) none → ∀ (ρ : Operand → Value) (w : World), (Op.operands (.slice 9 x none (some z) none)).toList.map ρ = [.string s, .int .i64 k] → (execOp ρ o).run Tryz.prog w = .ok (.value (.string (s.extract 0 k.toNat))) w := by
 intro o ho ρ w hl
 simp [Op.operands] at hl
 unfold execOp
 rw [ho]
 have h := run_slice_string_h (P := Tryz.prog) w 9 s (by kernel_rfl) .i64 k h0 h1
 have h2 := run_sliceAt_string (P := Tryz.prog) (w := w) 9 (.string s) none (some (.int .i64 k)) none (by kernel_rfl)
 simp [hl, h, h2]
theorem mnG {n : Int} {x z : Operand} {ats : Array TypeId} {m : Int} : ∀ (o : Oper), o.op = .call {callee := .builtin .min, args := #[x, z], argTypes := ats} → ∀ (ρ : Operand → Value) (w : World), (Op.operands (.call {callee := .builtin .min, args := #[x, z], argTypes := ats})).toList.map ρ = [.int .i64 n, .int .i64 m] → (execOp ρ o).run Tryz.prog w = .ok (.value (.int .i64 (if m < n then m else n))) w := by
 intro o ho ρ w hl
 simp [Op.operands, Call.operands] at hl
 unfold execOp
 rw [ho]
 simp [hl, resolve, invoke, builtin, run_min_int2, Result.andThen]
def cut20 (s : ByteArray) : ByteArray := s.extract 0 (min s.size 20)
theorem cut20_size (s : ByteArray) : (cut20 s).size ≤ 20 := by unfold cut20; rw [ByteArray.size_extract]; omega
theorem lSmall (b1 b2 : Bool) (s1 s2 : ByteArray) : Sp Tryz.prog 63 [] [.agg #[.bool b1, .string s1, .bool b2, .string s2]] (.agg #[.bool b1, .string (cut20 s1), .bool b2, .string (cut20 s2)]) [] := by
 have cut : ∀ s : ByteArray, ∃ k : Int, (if (20 : Int) < (s.size : Int) then (20 : Int) else (s.size : Int)) = k ∧ 0 ≤ k ∧ k ≤ s.size ∧ s.extract 0 k.toNat = cut20 s := fun s => by
  refine ⟨_, rfl, by split <;> omega, by split <;> omega, ?_⟩
  have e : (if (20 : Int) < (s.size : Int) then (20 : Int) else (s.size : Int)).toNat = min s.size 20 := by split <;> omega
  rw [e]; rfl
 obtain ⟨k1, a1, a2, a3, a4⟩ := cut s1
 obtain ⟨k2, b1', b2', b3', b4'⟩ := cut s2
 have m1 := @mnG s1.size (.tmp 9) (.const (.int .i64 20)) #[3, 3] 20
 have m2 := @mnG s2.size (.tmp 18) (.const (.int .i64 20)) #[3, 3] 20
 have g1 := @slH s1 k1 (.tmp 5) (.tmp 10) a2 a3
 have g2 := @slH s2 k2 (.tmp 14) (.tmp 19) b2' b3'
 rw [a4] at g1
 rw [b4'] at g2
 clear a2 a3 a4 b2' b3' b4' cut m1 m2
 generalize cut20 s1 = t1 at *
 generalize cut20 s2 = t2 at *
 exact walk (code := Tryz.f63.body.getD .skip) [L, Go.Sy.e (congrArg (Value.int IntKind.i64) a1), gx _ 9 _ _ g1, L, Go.Sy.e (congrArg (Value.int IntKind.i64) b1'), gx _ 9 _ _ g2] fol Tryz.func63 (by kernel_rfl) (fun xs w => Tryz.call63 xs w) (by kernel_rfl)
theorem iCheck (b : Bool) (s : ByteArray) (hs : s.size ≤ 4294967296) : Sp Tryz.prog 158 [] [.agg #[.bool b, .string s]] (nV (if okInt b s then 0 else 5)) [] := Sp.of (fun xs w => Tryz.call158 xs w) (by kernel_rfl) (by kernel_rfl) (fun w => Check_c b s w hs)
theorem pCheck (b1 : Bool) (s1 : ByteArray) (b2 : Bool) (s2 : ByteArray) (h1 : s1.size ≤ 131000) (h2 : s2.size ≤ 131000) : Sp Tryz.prog 121 [] [.agg #[.bool b1, .string s1, .bool b2, .string s2]] (nV (if okRat b1 s1 b2 s2 then 0 else 5)) [] := by
 have c1 := iCheck b1 s1 (by omega)
 have c2 := iCheck b2 s2 (by omega)
 unfold okRat
 cases k1 : okInt b1 s1 <;> rw [k1] at c1
 ·exact walk (code := Tryz.f121.body.getD .skip) [c c1] fol Tryz.func121 (by kernel_rfl) (fun xs w => Tryz.call121 xs w) (by kernel_rfl)
 cases k2 : okInt b2 s2 <;> rw [k2] at c2
 ·exact walk (code := Tryz.f121.body.getD .skip) [c c1, c c2] fol Tryz.func121 (by kernel_rfl) (fun xs w => Tryz.call121 xs w) (by kernel_rfl)
 obtain ⟨x, rfl, rfl⟩ := okInt_num b1 s1 k1
 obtain ⟨y, rfl, rfl⟩ := okInt_num b2 s2 k2
 rw [mg_isEmpty, num_mg, num_mg]
 by_cases h0 : y = 0
 ·subst h0
  rw [show (if (true && true && !sg 0 && ((0 : Int) == 0 || ((0 : Int).natAbs != 1 && Nat.gcd x.natAbs (0 : Int).natAbs == 1))) = true then (0 : Int) else 5) = 0 from rfl]
  have hx := binI0 0 (b := true) rfl
  rw [iV0] at hx
  rw [sg0, mg0] at c2 ⊢
  exact walk (code := Tryz.f121.body.getD .skip) [c c1, c c2, L, x2 hx] fol Tryz.func121 (by kernel_rfl) (fun xs w => Tryz.call121 xs w) (by kernel_rfl)
 ·have hx := binI0 y (b := false) (by simpa using h0)
  have hC := iCompare y 1 (by omega) (by rw [mg1]; show 1 ≤ _; omega)
  rw [show ((y == 0) : Bool) = false by simpa using h0, Bool.false_or]
  by_cases hy : y ≤ 1
  ·have e : (true && true && !sg y && (y.natAbs != 1 && Nat.gcd x.natAbs y.natAbs == 1)) = false := by
     unfold sg
     by_cases hn : y < 0
     ·simp [hn]
     ·have : y.natAbs = 1 := by omega
      simp [this]
   rw [e]
   have ec : decide (cmpI y 1 ≤ 0) = true := decide_eq_true (by unfold cmpI; split; omega; split <;> omega)
   exact walk (code := Tryz.f121.body.getD .skip) [c c1, c c2, L, x2 hx, c pOne, c hC, eb ec] fol Tryz.func121 (by kernel_rfl) (fun xs w => Tryz.call121 xs w) (by kernel_rfl)
  ·have ec : decide (cmpI y 1 ≤ 0) = false := decide_eq_false (by unfold cmpI; rw [if_neg (by omega), if_neg (by omega)]; omega)
   have hG := iGcd x y (by omega) (by omega)
   have e : (true && true && !sg y && (y.natAbs != 1 && Nat.gcd x.natAbs y.natAbs == 1)) = decide ((Nat.gcd x.natAbs y.natAbs : Nat) = 1) := by
    have : sg y = false := by unfold sg; simp; omega
    rw [this]
    have : (y.natAbs != 1) = true := by simp; omega
    rw [this, Bool.eq_iff_iff]
    simp
   rw [e]
   by_cases hg : Nat.gcd x.natAbs y.natAbs = 1
   ·rw [decide_eq_true hg]
    have hx2 := binI1' ((Nat.gcd x.natAbs y.natAbs : Nat) : Int) 1 (b := false) (by rw [hg]; rfl)
    generalize ((Nat.gcd x.natAbs y.natAbs : Nat) : Int) = G at *
    exact walk (code := Tryz.f121.body.getD .skip) [c c1, c c2, L, x2 hx, c pOne, c hC, eb ec, c hG, c pOne, x2 hx2] fol Tryz.func121 (by kernel_rfl) (fun xs w => Tryz.call121 xs w) (by kernel_rfl)
   ·rw [decide_eq_false hg]
    have hx2 := binI1' ((Nat.gcd x.natAbs y.natAbs : Nat) : Int) 1 (b := true) (by simp; omega)
    generalize ((Nat.gcd x.natAbs y.natAbs : Nat) : Int) = G at *
    exact walk (code := Tryz.f121.body.getD .skip) [c c1, c c2, L, x2 hx, c pOne, c hC, eb ec, c hG, c pOne, x2 hx2] fol Tryz.func121 (by kernel_rfl) (fun xs w => Tryz.call121 xs w) (by kernel_rfl)
theorem fits20 (q : Rat) (h1 : (mg q.num).size ≤ 20) (h2 : (mg (dn q)).size ≤ 20) : Fits q := by
 refine ⟨by rw [mg_nd] at h1; omega, ?_⟩
 rw [mg_nd] at h2
 unfold dn at h2
 split at h2
 ·next e => rw [e]; show nd 256 1 ≤ _; decide
 ·simp at h2; omega
theorem eCheckA (b1 b2 b3 b4 : Bool) (s1 s2 s3 s4 : ByteArray) (h1 : s1.size ≤ 20) (h2 : s2.size ≤ 20) (k1 : okRat b1 s1 b2 s2 = false) : Sp Tryz.prog 65 [] [.agg #[.bool b1, .string s1, .bool b2, .string s2, .bool b3, .string s3, .bool b4, .string s4]] (nV 5) [] := by
 have A := pCheck b1 s1 b2 s2 (by omega) (by omega)
 rw [k1] at A
 exact walk (code := Tryz.f65.body.getD .skip) [c A] fol Tryz.func65 (by kernel_rfl) (fun xs w => Tryz.call65 xs w) (by kernel_rfl)
theorem eCheckB (b1 b2 b3 b4 : Bool) (s1 s2 s3 s4 : ByteArray) (h1 : s1.size ≤ 20) (h2 : s2.size ≤ 20) (h3 : s3.size ≤ 20) (h4 : s4.size ≤ 20) (k1 : okRat b1 s1 b2 s2 = true) (k2 : okRat b3 s3 b4 s4 = false) : Sp Tryz.prog 65 [] [.agg #[.bool b1, .string s1, .bool b2, .string s2, .bool b3, .string s3, .bool b4, .string s4]] (nV 5) [] := by
 have A := pCheck b1 s1 b2 s2 (by omega) (by omega)
 have B := pCheck b3 s3 b4 s4 (by omega) (by omega)
 rw [k1] at A
 rw [k2] at B
 exact walk (code := Tryz.f65.body.getD .skip) [c A, c B] fol Tryz.func65 (by kernel_rfl) (fun xs w => Tryz.call65 xs w) (by kernel_rfl)
theorem pCheckQ (q : Rat) (hq : Fits q) : Sp Tryz.prog 121 [] [rV q] (nV 0) [] := by
 have h := pCheck (sg q.num) (mg q.num) (sg (dn q)) (mg (dn q)) hq.mn hq.md
 rw [okRat_of q] at h
 exact h
theorem eCheckQ (p q : Rat) (hp : Fits p) (hq : Fits q) : Sp Tryz.prog 65 [] [oV p q] (nV (if q < p then 7 else 0)) [] := by
 have A := pCheckQ p hp
 have B := pCheckQ q hq
 have C := pCompare p q hp hq
 by_cases h : q < p
 ·rw [if_pos h]
  have e := cmpQ_gtr (decide_eq_true h)
  clear h
  generalize cmpQ p q = z at *
  exact walk (code := Tryz.f65.body.getD .skip) [c A, c B, c C, eb e] fol Tryz.func65 (by kernel_rfl) (fun xs w => Tryz.call65 xs w) (by kernel_rfl)
 ·rw [if_neg h]
  have e := cmpQ_gtr (decide_eq_false h)
  clear h
  generalize cmpQ p q = z at *
  exact walk (code := Tryz.f65.body.getD .skip) [c A, c B, c C, eb e] fol Tryz.func65 (by kernel_rfl) (fun xs w => Tryz.call65 xs w) (by kernel_rfl)
theorem EnclosureChecks_s (b1 b2 b3 b4 : Bool) (t1 t2 t3 t4 : ByteArray) (n d : Int) (hp : PartOk n d) : Sp Tryz.prog 11 [] [.agg #[.bool b1, .string t1, .bool b2, .string t2], .agg #[.bool b3, .string t3, .bool b4, .string t4], .agg #[.int .i32 n, .int .u16 d]] (.bool true) [] := by
 obtain ⟨x, sx, _, kx⟩ := vPart n d hp.1 hp.2
 have K := vKnown5
 have X := eExact x
 have SA := lSmall b1 b2 t1 t2
 have SB := lSmall b3 b4 t3 t4
 have h1 := cut20_size t1
 have h2 := cut20_size t2
 have h3 := cut20_size t3
 have h4 := cut20_size t4
 generalize cut20 t1 = s1 at *
 generalize cut20 t2 = s2 at *
 generalize cut20 t3 = s3 at *
 generalize cut20 t4 = s4 at *
 have A := rCheck b1 s1 b2 s2 (by omega) (by omega)
 cases k1 : okRat b1 s1 b2 s2
 ·have E := eCheckA b1 b2 b3 b4 s1 s2 s3 s4 h1 h2 k1
  rw [k1] at A
  clear h1 h2 h3 h4 k1
  exact walk (code := Tryz.f11.body.getD .skip) [c SA, c SB, c A, c kx, c X, c K, c E, c kx, x2 (same x), c kx, x2 (same x)] fol Tryz.func11 (by kernel_rfl) (fun xs w => Tryz.call11 xs w) (by kernel_rfl)
 ·have B := rCheck b3 s3 b4 s4 (by omega) (by omega)
  rw [k1] at A
  cases k2 : okRat b3 s3 b4 s4
  ·have E := eCheckB b1 b2 b3 b4 s1 s2 s3 s4 h1 h2 h3 h4 k1 k2
   rw [k2] at B
   clear h1 h2 h3 h4 k1 k2
   exact walk (code := Tryz.f11.body.getD .skip) [c SA, c SB, c A, c B, c kx, c X, c K, c E, c kx, x2 (same x), c kx, x2 (same x)] fol Tryz.func11 (by kernel_rfl) (fun xs w => Tryz.call11 xs w) (by kernel_rfl)
  ·rw [k2] at B
   obtain ⟨p, rfl, rfl, rfl, rfl⟩ := okRat_rat b1 s1 b2 s2 k1
   obtain ⟨q, rfl, rfl, rfl, rfl⟩ := okRat_rat b3 s3 b4 s4 k2
   have fp : Fits p := fits20 p h1 h2
   have fq : Fits q := fits20 q h3 h4
   have E := eCheckQ p q fp fq
   have C := rCompare p q fp fq
   by_cases h : q < p
   ·rw [if_pos h] at E
    have e := cmpQ_gtr (decide_eq_true h)
    clear h1 h2 h3 h4 k1 k2 h
    generalize cmpQ p q = z at *
    exact walk (code := Tryz.f11.body.getD .skip) [c SA, c SB, c A, c B, c C, eb e, c kx, c X, c K, c E, c kx, x2 (same x), c kx, x2 (same x)] fol Tryz.func11 (by kernel_rfl) (fun xs w => Tryz.call11 xs w) (by kernel_rfl)
   ·rw [if_neg h] at E
    have e := cmpQ_gtr (decide_eq_false h)
    clear h1 h2 h3 h4 k1 k2 h
    generalize cmpQ p q = z at *
    exact walk (code := Tryz.f11.body.getD .skip) [c SA, c SB, c A, c B, c C, eb e, c kx, c X, c K, c E, c kx, x2 (same x), c kx, x2 (same x)] fol Tryz.func11 (by kernel_rfl) (fun xs w => Tryz.call11 xs w) (by kernel_rfl)
theorem EnclosureChecks_c (b1 : Bool) (t1 : ByteArray) (b2 : Bool) (t2 : ByteArray) (b3 : Bool) (t3 : ByteArray) (b4 : Bool) (t4 : ByteArray) (n d : Int) (w : World) (h1 : t1.size ≤ 9223372036854775807) (h2 : t2.size ≤ 9223372036854775807) (h3 : t3.size ≤ 9223372036854775807) (h4 : t4.size ≤ 9223372036854775807) (hp : PartOk n d) : Calls Tryz.prog 11 #[.agg #[.bool b1, .string t1, .bool b2, .string t2], .agg #[.bool b3, .string t3, .bool b4, .string t4], .agg #[.int .i32 n, .int .u16 d]] w fun e w' => e = .returned (.bool true) ∧ Below w.heap.size w w' := (EnclosureChecks_s b1 b2 b3 b4 t1 t2 t3 t4 n d hp).calls rfl rfl w
end Go.Proofs.YtcbbcmiennjfhaaGreatDoor
