import Derived.Test.YthdaimoankaciaaGreatDoorPn
import Derived.Test.YthdaimoankaciaaGreatDoorPr
/- The reference's number and Parse. -/
set_option linter.unusedSimpArgs false
set_option linter.unusedVariables false
namespace Go.Proofs.YthdaimoankaciaaGreatDoor
open Go Go.RowKit Go.Sy
open Vi
def stN (X i : Nat) (s : ByteArray) : St := ⟨37, 0, [(0, .string s), (4, row 0 (nd 256 X)), (5, nV i)], junk, [(0, rws (rD X).1 (rD X).2)], 1⟩
def stN0 (s : ByteArray) : St := ⟨37, 0, [(0, .string s), (4, .slice none 0 0), (5, nV 0)], junk, [], 0⟩
def stNr : St := ⟨37, 0, [(2, .slice none 0 0), (3, .bool false)], junk, [], 0⟩
def stNr1 : St := ⟨37, 0, [(2, .slice none 0 0), (3, .bool false)], junk, [], 1⟩
theorem dTimes10 (x : Nat) (hx : nd 256 x ≤ 100000) : Sp Tryz.prog 138 [rD x, (1, [nV 10])] [row 0 (nd 256 x), row 1 1] (row 2 (nd 256 (x * 10))) [rD (x * 10)] := by
 have := dTimes x 10 (by omega) (by rw [nd_small 10 (by omega) (by omega)]; omega)
 rw [nd_small 10 (by omega) (by omega), rD_small 10 (by omega) (by omega)] at this
 exact this
theorem dTimes0 : Sp Tryz.prog 138 [(1, [nV 10])] [.slice none 0 0, row 0 1] (row 1 (nd 256 0)) [rD 0] := by
 have := dTimes10 0 (by rw [nd_zero]; omega)
 exact Sp.nil2 this
theorem pv_nd (s : ByteArray) (k : Nat) (h : ∀ i, i < k → dgt s i ≤ 9) : nd 256 (pv s k) ≤ k :=
 nd_le 256 (by omega) _ k (Nat.lt_of_lt_of_le (pv_lt s k h) (Nat.pow_le_pow_left (by decide : 10 ≤ 256) k))
theorem num_step (s : ByteArray) (i : Nat) (hi : i < s.size) (hs : s.size ≤ 5000) (hd : ∀ j, j < i → dgt s j ≤ 9) (h1 : 48 ≤ (s[i]'hi).toNat) (h2 : (s[i]'hi).toNat ≤ 57) :
    CodeOk Tryz.prog (nthLoop 0 (Tryz.f130.body.getD .skip)) (stN (pv s i) i s) .normal (stN (pv s (i + 1)) (i + 1) s) := by
 have g1 := @idxG s i (.tmp 12) (.tmp 13) hi
 have g2 := @idxG s i (.tmp 17) (.tmp 18) hi
 have g3 := @idxG s i (.tmp 25) (.tmp 26) hi
 have e := (dgt_le s i hi (by unfold isD; simp; omega)).2
 have d9 := (dgt_le s i hi (by unfold isD; simp; omega)).1
 have c1 : decide ((i : Int) < (s.size : Int)) = true := decide_eq_true (by omega)
 have c2 : decide ((((s[i]'hi).toNat : Nat) : Int) < 48) = false := decide_eq_false (by omega)
 have c3 : decide ((((s[i]'hi).toNat : Nat) : Int) > 57) = false := decide_eq_false (by omega)
 have w1 : IntKind.u8.wrap ((((s[i]'hi).toNat : Nat) : Int) - 48) = (dgt s i : Int) := by rw [e]; rw [show ((48 + dgt s i : Nat) : Int) - 48 = (dgt s i : Int) by omega]; exact w8 (by omega)
 have w2 : IntKind.i64.wrap (dgt s i : Int) = (dgt s i : Int) := w64 (by omega) (by omega)
 have w3 : IntKind.i64.wrap ((i : Int) + 1) = ((i + 1 : Nat) : Int) := by rw [w64 (by omega) (by omega)]; omega
 have zX := pv_nd s i hd
 have T := dTimes10 (pv s i) (by omega)
 have M := dTrim1 (dgt s i) (by omega)
 have zY := nd_mul (pv s i) 10
 rw [nd_small 10 (by omega) (by omega)] at zY
 have zd : nd 256 (dgt s i) ≤ 1 := nd_le 256 (by omega) _ 1 (by omega)
 have A := dPlus (pv s i * 10) (dgt s i) (by omega) (by omega)
 rw [← pv_succ] at A
 generalize pv s (i + 1) = X2 at *
 generalize pv s i * 10 = X1 at *
 generalize pv s i = X at *
 clear e d9 h1 h2 hd zX zY zd hs
 generalize dgt s i = d at *
 generalize (((s[i]'hi).toNat : Nat) : Int) = b at *
 unfold stN
 exact piece [(0, 5)] [L, eb c1, gx _ 5 _ _ g1, eb c2, gx _ 5 _ _ g2, eb c3, cr T, gx _ 5 _ _ g3, Go.Sy.e (congrArg (Value.int IntKind.u8) w1), Go.Sy.e (congrArg (Value.int IntKind.i64) w2), cr M, cr A, Go.Sy.e (congrArg (Value.int IntKind.i64) w3)] fol (by kernel_rfl)
theorem num_first (s : ByteArray) (hi : 0 < s.size) (hs : s.size ≤ 5000) (h1 : 48 ≤ (s[0]'hi).toNat) (h2 : (s[0]'hi).toNat ≤ 57) :
    CodeOk Tryz.prog (nthLoop 0 (Tryz.f130.body.getD .skip)) (stN0 s) .normal (stN (pv s 1) 1 s) := by
 have g1 := @idxG s 0 (.tmp 12) (.tmp 13) hi
 have g2 := @idxG s 0 (.tmp 17) (.tmp 18) hi
 have g3 := @idxG s 0 (.tmp 25) (.tmp 26) hi
 have e := (dgt_le s 0 hi (by unfold isD; simp; omega)).2
 have d9 := (dgt_le s 0 hi (by unfold isD; simp; omega)).1
 have c1 : decide ((0 : Int) < (s.size : Int)) = true := decide_eq_true (by omega)
 have c2 : decide ((((s[0]'hi).toNat : Nat) : Int) < 48) = false := decide_eq_false (by omega)
 have c3 : decide ((((s[0]'hi).toNat : Nat) : Int) > 57) = false := decide_eq_false (by omega)
 have w1 : IntKind.u8.wrap ((((s[0]'hi).toNat : Nat) : Int) - 48) = (dgt s 0 : Int) := by rw [e]; rw [show ((48 + dgt s 0 : Nat) : Int) - 48 = (dgt s 0 : Int) by omega]; exact w8 (by omega)
 have w2 : IntKind.i64.wrap (dgt s 0 : Int) = (dgt s 0 : Int) := w64 (by omega) (by omega)
 have T := dTimes0
 have M := dTrim1 (dgt s 0) (by omega)
 have zd : nd 256 (dgt s 0) ≤ 1 := nd_le 256 (by omega) _ 1 (by omega)
 have A := dPlus 0 (dgt s 0) (by rw [nd_zero]; omega) (by omega)
 rw [show 0 + dgt s 0 = pv s 1 by rw [pv_succ]; show _ = 0 * 10 + _; omega] at A
 generalize pv s 1 = X2 at *
 clear e d9 h1 h2 zd hs
 generalize dgt s 0 = d at *
 generalize (((s[0]'hi).toNat : Nat) : Int) = b at *
 unfold stN0 stN
 exact piece [(0, 4)] [L, eb c1, gx _ 5 _ _ g1, eb c2, gx _ 5 _ _ g2, eb c3, cr T, gx _ 5 _ _ g3, Go.Sy.e (congrArg (Value.int IntKind.u8) w1), Go.Sy.e (congrArg (Value.int IntKind.i64) w2), cr M, cr A] fol (by kernel_rfl)
theorem num_bad0 (s : ByteArray) (hi : 0 < s.size) (h : (s[0]'hi).toNat < 48 ∨ 57 < (s[0]'hi).toNat) : CodeOk Tryz.prog (nthLoop 0 (Tryz.f130.body.getD .skip)) (stN0 s) .ret stNr := by
 have g1 := @idxG s 0 (.tmp 12) (.tmp 13) hi
 have g2 := @idxG s 0 (.tmp 17) (.tmp 18) hi
 have c1 : decide ((0 : Int) < (s.size : Int)) = true := decide_eq_true (by omega)
 by_cases h1 : (s[0]'hi).toNat < 48
 ·have c2 : decide ((((s[0]'hi).toNat : Nat) : Int) < 48) = true := decide_eq_true (by omega)
  clear h h1
  generalize (((s[0]'hi).toNat : Nat) : Int) = b at *
  unfold stN0 stNr
  exact piece [] [L, eb c1, gx _ 5 _ _ g1, eb c2] fol (by kernel_rfl)
 ·have c2 : decide ((((s[0]'hi).toNat : Nat) : Int) < 48) = false := decide_eq_false (by omega)
  have c3 : decide ((((s[0]'hi).toNat : Nat) : Int) > 57) = true := decide_eq_true (by omega)
  clear h h1
  generalize (((s[0]'hi).toNat : Nat) : Int) = b at *
  unfold stN0 stNr
  exact piece [] [L, eb c1, gx _ 5 _ _ g1, eb c2, gx _ 5 _ _ g2, eb c3] fol (by kernel_rfl)
theorem num_bad (s : ByteArray) (i : Nat) (hi : i < s.size) (h : (s[i]'hi).toNat < 48 ∨ 57 < (s[i]'hi).toNat) : CodeOk Tryz.prog (nthLoop 0 (Tryz.f130.body.getD .skip)) (stN (pv s i) i s) .ret stNr1 := by
 have g1 := @idxG s i (.tmp 12) (.tmp 13) hi
 have g2 := @idxG s i (.tmp 17) (.tmp 18) hi
 have c1 : decide ((i : Int) < (s.size : Int)) = true := decide_eq_true (by omega)
 generalize pv s i = X at *
 by_cases h1 : (s[i]'hi).toNat < 48
 ·have c2 : decide ((((s[i]'hi).toNat : Nat) : Int) < 48) = true := decide_eq_true (by omega)
  clear h h1
  generalize (((s[i]'hi).toNat : Nat) : Int) = b at *
  unfold stN stNr1
  exact piece [] [L, eb c1, gx _ 5 _ _ g1, eb c2] fol (by kernel_rfl)
 ·have c2 : decide ((((s[i]'hi).toNat : Nat) : Int) < 48) = false := decide_eq_false (by omega)
  have c3 : decide ((((s[i]'hi).toNat : Nat) : Int) > 57) = true := decide_eq_true (by omega)
  clear h h1
  generalize (((s[i]'hi).toNat : Nat) : Int) = b at *
  unfold stN stNr1
  exact piece [] [L, eb c1, gx _ 5 _ _ g1, eb c2, gx _ 5 _ _ g2, eb c3] fol (by kernel_rfl)
theorem num_end (s : ByteArray) (X : Nat) : CodeOk Tryz.prog (nthLoop 0 (Tryz.f130.body.getD .skip)) (stN X s.size s) (.exit 0) (stN X s.size s) := by
 have c1 : decide ((s.size : Int) < (s.size : Int)) = false := decide_eq_false (by omega)
 unfold stN
 exact piece [(0, 0)] [L, eb c1] fol (by kernel_rfl)
theorem num_end0 (s : ByteArray) (h : s.size = 0) : CodeOk Tryz.prog (nthLoop 0 (Tryz.f130.body.getD .skip)) (stN0 s) (.exit 0) (stN0 s) := by
 have c1 : decide ((0 : Int) < (s.size : Int)) = false := decide_eq_false (by omega)
 unfold stN0
 exact piece [] [L, eb c1] fol (by kernel_rfl)
theorem num_loop (s : ByteArray) (hs : s.size ≤ 5000) : ∀ m i, i + m = s.size → (∀ j (h : j < s.size), j < i → 48 ≤ (s[j]'h).toNat ∧ (s[j]'h).toNat ≤ 57) →
    (DigS s ∧ RoundsOk Tryz.prog (nthLoop 0 (Tryz.f130.body.getD .skip)) (stN (pv s i) i s) (.exit 0) (stN (pv s s.size) s.size s)) ∨ (¬ DigS s ∧ RoundsOk Tryz.prog (nthLoop 0 (Tryz.f130.body.getD .skip)) (stN (pv s i) i s) .ret stNr1)
 | 0, i, hi, hd => by
  obtain rfl : i = s.size := by omega
  exact .inl ⟨fun j hj => hd j hj hj, .out (by simp) (num_end s _)⟩
 | m + 1, i, hi, hd => by
  have hlt : i < s.size := by omega
  by_cases hb : 48 ≤ (s[i]'hlt).toNat ∧ (s[i]'hlt).toNat ≤ 57
  ·have st := num_step s i hlt hs (fun j hj => (dgt_le s j (by omega) (by have := hd j (by omega) hj; unfold isD; simp; omega)).1) hb.1 hb.2
   rcases num_loop s hs m (i + 1) (by omega) (fun j hj h => by
    rcases (by omega : j < i ∨ j = i) with h1 | rfl
    ·exact hd j hj h1
    ·exact hb) with ⟨h1, h2⟩ | ⟨h1, h2⟩
   ·exact .inl ⟨h1, .more st h2⟩
   ·exact .inr ⟨h1, .more st h2⟩
  ·exact .inr ⟨fun h => hb (h i hlt), .out (by simp) (num_bad s i hlt (by omega))⟩
theorem rNumber (s : ByteArray) (hs : s.size ≤ 5000) : (okD s = true ∧ Sp Tryz.prog 130 [] [.string s] (.tuple #[row 0 (nd 256 (pv s s.size)), .bool true]) [rD (pv s s.size)]) ∨
    (okD s = false ∧ Sp Tryz.prog 130 [] [.string s] (.tuple #[.slice none 0 0, .bool false]) []) := by
 unfold okD
 by_cases h0 : 0 < s.size
 ·have c0 : decide ((s.size : Int) > 0) = true := decide_eq_true (by omega)
  have key : (DigS s ∧ RoundsOk Tryz.prog (nthLoop 0 (Tryz.f130.body.getD .skip)) (stN0 s) (.exit 0) (stN (pv s s.size) s.size s)) ∨ (¬ DigS s ∧ RoundsOk Tryz.prog (nthLoop 0 (Tryz.f130.body.getD .skip)) (stN0 s) .ret stNr) ∨ (¬ DigS s ∧ RoundsOk Tryz.prog (nthLoop 0 (Tryz.f130.body.getD .skip)) (stN0 s) .ret stNr1) := by
   by_cases hb : 48 ≤ (s[0]'h0).toNat ∧ (s[0]'h0).toNat ≤ 57
   ·have st := num_first s h0 hs hb.1 hb.2
    rcases num_loop s hs (s.size - 1) 1 (by omega) (fun j hj h => by obtain rfl : j = 0 := by omega
                                                                     exact hb) with ⟨h1, h2⟩ | ⟨h1, h2⟩
    ·exact .inl ⟨h1, .more st h2⟩
    ·exact .inr (.inr ⟨h1, .more st h2⟩)
   ·exact .inr (.inl ⟨fun h => hb (h 0 h0), .out (by simp) (num_bad0 s h0 (by omega))⟩)
  rcases key with ⟨h1, h2⟩ | ⟨h1, h2⟩ | ⟨h1, h2⟩
  ·left
   refine ⟨by rw [(digS_iff s).1 h1, decide_eq_true h0]; rfl, ?_⟩
   have hl := h2.loop
   unfold stN0 stN at hl
   clear h1 h2 hs h0
   generalize pv s s.size = X at *
   exact walk (code := Tryz.f130.body.getD .skip) [lp [] hl, L, eb c0] fol Tryz.func130 (by kernel_rfl) (fun xs w => Tryz.call130 xs w) (by kernel_rfl)
  ·right
   refine ⟨by rw [show s.data.toList.all isD = false by cases e : s.data.toList.all isD; rfl; exact absurd ((digS_iff s).2 e) h1]; rfl, ?_⟩
   have hl := h2.loop
   unfold stN0 stNr at hl
   clear h1 h2 hs h0
   exact walk (code := Tryz.f130.body.getD .skip) [lp [] hl] fol Tryz.func130 (by kernel_rfl) (fun xs w => Tryz.call130 xs w) (by kernel_rfl)
  ·right
   refine ⟨by rw [show s.data.toList.all isD = false by cases e : s.data.toList.all isD; rfl; exact absurd ((digS_iff s).2 e) h1]; rfl, ?_⟩
   have hl := h2.loop
   unfold stN0 stNr1 at hl
   clear h1 h2 hs h0
   exact walk (code := Tryz.f130.body.getD .skip) [lp [] hl] fol Tryz.func130 (by kernel_rfl) (fun xs w => Tryz.call130 xs w) (by kernel_rfl)
 ·right
  have c0 : decide ((s.size : Int) > 0) = false := decide_eq_false (by omega)
  refine ⟨by rw [decide_eq_false h0, Bool.and_false], ?_⟩
  have hl := (RoundsOk.out (by simp) (num_end0 s (by omega))).loop
  unfold stN0 at hl
  clear h0 hs
  exact walk (code := Tryz.f130.body.getD .skip) [lp [] hl, L, eb c0] fol Tryz.func130 (by kernel_rfl) (fun xs w => Tryz.call130 xs w) (by kernel_rfl)
end Go.Proofs.YthdaimoankaciaaGreatDoor
