import Derived.Test.YtcbbcmiennjfhaaGreatDoorQa
import Derived.Test.YtcbbcmiennjfhaaGreatDoorIntL
/- The program's Simplest and Root. -/
set_option linter.unusedSimpArgs false
set_option linter.unusedVariables false
namespace Go.Proofs.YtcbbcmiennjfhaaGreatDoor
open Go Go.RowKit Go.Sy
open Vi
def rC (q : Rat) : List Value := [.bool (sg q.num), .string (mg q.num), .bool (sg (dn q)), .string (mg (dn q))]
theorem same (q : Rat) : Bin .eql 28 (rV q) (rV q) (.bool true) := binR1 q q (by simp)
theorem same' (q : Rat) : Bin .neq 28 (rV q) (rV q) (.bool false) := binR1' q q (by simp)
theorem eq1 {f : FuncId} {args : List Value} {p q : Rat} (h : Sp Tryz.prog f [] args (rV p) []) (e : p = q) : Sp Tryz.prog f [] args (rV q) [] := e ▸ h
theorem eq2 {f : FuncId} {args : List Value} {p q : Rat} {v : Value} (h : Sp Tryz.prog f [] args (.tuple #[rV p, v]) []) (e : p = q) : Sp Tryz.prog f [] args (.tuple #[rV q, v]) [] := e ▸ h
theorem pSimplestNone (a b : Rat) (oa ob : Bool) (h : b < a ∨ (a = b ∧ (oa = true ∨ ob = true))) (ha : Fits a) (hb : Fits b) : Sp Tryz.prog 17 [] [rV a, rV b, .bool oa, .bool ob] (.tuple #[rZ, nV 10]) [] := by
 have H1 := pCompare a b ha hb
 rcases cmpQ_cases a b with ⟨h1, h2⟩ | ⟨h1, h2⟩ | ⟨h1, h2⟩ <;> rw [h1] at H1
 ·exfalso
  rcases h with h | ⟨h, _⟩
  ·exact Rat.lt_irrefl (lt_of_lt_of_le' h (Rat.le_of_lt h2))
  ·rw [h] at h2; exact Rat.lt_irrefl h2
 ·have hoo : oa = true ∨ ob = true := by
    rcases h with h | ⟨_, h⟩
    ·rw [h2] at h; exact absurd h Rat.lt_irrefl
    ·exact h
  cases oa <;> cases ob
  ·simp at hoo
  ·exact walk (code := Tryz.f17.body.getD .skip) [c H1] fol Tryz.func17 (by kernel_rfl) (fun xs w => Tryz.call17 xs w) (by kernel_rfl)
  ·exact walk (code := Tryz.f17.body.getD .skip) [c H1] fol Tryz.func17 (by kernel_rfl) (fun xs w => Tryz.call17 xs w) (by kernel_rfl)
  ·exact walk (code := Tryz.f17.body.getD .skip) [c H1] fol Tryz.func17 (by kernel_rfl) (fun xs w => Tryz.call17 xs w) (by kernel_rfl)
 ·cases oa <;> cases ob <;> exact walk (code := Tryz.f17.body.getD .skip) [c H1] fol Tryz.func17 (by kernel_rfl) (fun xs w => Tryz.call17 xs w) (by kernel_rfl)
theorem pSimplestSome (a b : Rat) (oa ob : Bool) (h : a < b ∨ (a = b ∧ oa = false ∧ ob = false)) (k : Nat) (hk : k ≤ 130000) (ha : Sz k a) (hb : Sz k b) : ∃ q, Best a b oa ob q ∧ Sp Tryz.prog 17 [] [rV a, rV b, .bool oa, .bool ob] (.tuple #[rV q, nV 0]) [] := by
 have H1 := pCompare a b (ha.fits (by omega)) (hb.fits (by omega))
 have H2 := pSign a
 have H3 := pSign b
 have hc : cmpQ a b = -1 ∨ (cmpQ a b = 0 ∧ oa = false ∧ ob = false) := by
  rcases cmpQ_cases a b with ⟨h1, h2⟩ | ⟨h1, h2⟩ | ⟨h1, h2⟩
  ·exact .inl h1
  ·refine .inr ⟨h1, ?_⟩
   rcases h with h | h
   ·rw [h2] at h; exact absurd h Rat.lt_irrefl
   ·exact h.2
  ·exfalso
   rcases h with h | ⟨h, _⟩
   ·exact Rat.lt_irrefl (lt_of_lt_of_le' h (Rat.le_of_lt h2))
   ·rw [h] at h2; exact Rat.lt_irrefl h2
 have hle : a ≤ b := by
  rcases h with h | ⟨h, _⟩
  ·exact Rat.le_of_lt h
  ·rw [h]; exact Rat.le_refl
 have lower : b ≤ 0 → ∃ s : Rat, Best a b oa ob (-s) ∧ Sp Tryz.prog 84 [] [rV (-b), rV (-a), .bool ob, .bool oa] (rV s) [] := by
  intro hb0
  have h0 : 0 ≤ -b := by have := Rat.neg_le_neg hb0; simpa using this
  obtain ⟨s, hs, hc⟩ := pSimp k hk _ (-b) (-a) ob oa (Nat.le_refl _) hb.neg ha.neg h0 (by
   rcases h with h | ⟨h1, h2, h3⟩
   ·exact .inl (Rat.neg_lt_neg h)
   ·exact .inr ⟨by rw [h1], h3, h2⟩)
  exact ⟨s, best_neg a b oa ob s hs, hc⟩
 have upper : 0 ≤ a → ∃ s : Rat, Best a b oa ob s ∧ Sp Tryz.prog 84 [] [rV a, rV b, .bool oa, .bool ob] (rV s) [] := fun h0 => pSimp k hk _ a b oa ob (Nat.le_refl _) ha hb h0 h
 have mid : InI a b oa ob 0 → Best a b oa ob 0 := best_zero a b oa ob
 rcases sgn_cases a with ⟨s1, t1⟩ | ⟨s1, t1⟩ | ⟨s1, t1⟩ <;> rw [s1] at H2 <;> rcases sgn_cases b with ⟨s2, t2⟩ | ⟨s2, t2⟩ | ⟨s2, t2⟩ <;> rw [s2] at H3
 ·
  obtain ⟨s, hq, hs⟩ := lower (Rat.le_of_lt t2)
  refine ⟨-s, hq, ?_⟩
  rcases hc with h1 | ⟨h1, rfl, rfl⟩ <;> rw [h1] at H1
  ·cases oa <;> cases ob <;> exact walk (code := Tryz.f17.body.getD .skip) [c H1, c H2, c H3, c (pNeg b), c (pNeg a), c hs, c (pNeg s)] fol Tryz.func17 (by kernel_rfl) (fun xs w => Tryz.call17 xs w) (by kernel_rfl)
  ·exact walk (code := Tryz.f17.body.getD .skip) [c H1, c H2, c H3, c (pNeg b), c (pNeg a), c hs, c (pNeg s)] fol Tryz.func17 (by kernel_rfl) (fun xs w => Tryz.call17 xs w) (by kernel_rfl)
 ·cases ob
  ·refine ⟨0, mid ⟨.inl t1, .inr ⟨rfl, t2.symm⟩⟩, ?_⟩
   rw [rV0]
   rcases hc with h1 | ⟨h1, rfl, _⟩ <;> rw [h1] at H1
   ·cases oa <;> exact walk (code := Tryz.f17.body.getD .skip) [c H1, c H2, c H3] fol Tryz.func17 (by kernel_rfl) (fun xs w => Tryz.call17 xs w) (by kernel_rfl)
   ·exact walk (code := Tryz.f17.body.getD .skip) [c H1, c H2, c H3] fol Tryz.func17 (by kernel_rfl) (fun xs w => Tryz.call17 xs w) (by kernel_rfl)
  ·obtain ⟨s, hq, hs⟩ := lower (by rw [t2]; exact Rat.le_refl)
   refine ⟨-s, hq, ?_⟩
   rcases hc with h1 | ⟨h1, _, h3⟩
   ·rw [h1] at H1
    cases oa <;> exact walk (code := Tryz.f17.body.getD .skip) [c H1, c H2, c H3, c (pNeg b), c (pNeg a), c hs, c (pNeg s)] fol Tryz.func17 (by kernel_rfl) (fun xs w => Tryz.call17 xs w) (by kernel_rfl)
   ·cases h3
 ·refine ⟨0, mid ⟨.inl t1, .inl t2⟩, ?_⟩
  rw [rV0]
  rcases hc with h1 | ⟨h1, rfl, rfl⟩ <;> rw [h1] at H1
  ·cases oa <;> cases ob <;> exact walk (code := Tryz.f17.body.getD .skip) [c H1, c H2, c H3] fol Tryz.func17 (by kernel_rfl) (fun xs w => Tryz.call17 xs w) (by kernel_rfl)
  ·exact walk (code := Tryz.f17.body.getD .skip) [c H1, c H2, c H3] fol Tryz.func17 (by kernel_rfl) (fun xs w => Tryz.call17 xs w) (by kernel_rfl)
 ·exfalso
  rw [t1] at hle
  exact Rat.not_le.2 t2 hle
 ·have h3 : oa = false ∧ ob = false := by
    rcases h with h | h
    ·rw [t1, t2] at h; exact absurd h Rat.lt_irrefl
    ·exact h.2
  obtain ⟨rfl, rfl⟩ := h3
  refine ⟨0, mid ⟨.inr ⟨rfl, t1⟩, .inr ⟨rfl, t2.symm⟩⟩, ?_⟩
  rw [rV0]
  rcases hc with h1 | ⟨h1, _, _⟩ <;> rw [h1] at H1
  ·exact walk (code := Tryz.f17.body.getD .skip) [c H1, c H2, c H3] fol Tryz.func17 (by kernel_rfl) (fun xs w => Tryz.call17 xs w) (by kernel_rfl)
  ·exact walk (code := Tryz.f17.body.getD .skip) [c H1, c H2, c H3] fol Tryz.func17 (by kernel_rfl) (fun xs w => Tryz.call17 xs w) (by kernel_rfl)
 ·cases oa
  ·refine ⟨0, mid ⟨.inr ⟨rfl, t1⟩, .inl t2⟩, ?_⟩
   rw [rV0]
   rcases hc with h1 | ⟨h1, _, rfl⟩ <;> rw [h1] at H1
   ·cases ob <;> exact walk (code := Tryz.f17.body.getD .skip) [c H1, c H2, c H3] fol Tryz.func17 (by kernel_rfl) (fun xs w => Tryz.call17 xs w) (by kernel_rfl)
   ·exact walk (code := Tryz.f17.body.getD .skip) [c H1, c H2, c H3] fol Tryz.func17 (by kernel_rfl) (fun xs w => Tryz.call17 xs w) (by kernel_rfl)
  ·obtain ⟨s, hq, hs⟩ := upper (by rw [t1]; exact Rat.le_refl)
   refine ⟨s, hq, ?_⟩
   rcases hc with h1 | ⟨h1, h2, _⟩
   ·rw [h1] at H1
    cases ob <;> exact walk (code := Tryz.f17.body.getD .skip) [c H1, c H2, c H3, c hs] fol Tryz.func17 (by kernel_rfl) (fun xs w => Tryz.call17 xs w) (by kernel_rfl)
   ·cases h2
 ·exfalso
  exact Rat.lt_irrefl (lt_of_lt_of_le' (lt_of_lt_of_le' t1 hle) (Rat.le_of_lt t2))
 ·exfalso
  rw [t2] at hle
  exact Rat.not_le.2 t1 hle
 ·obtain ⟨s, hq, hs⟩ := upper (Rat.le_of_lt t1)
  refine ⟨s, hq, ?_⟩
  rcases hc with h1 | ⟨h1, rfl, rfl⟩ <;> rw [h1] at H1
  ·cases oa <;> cases ob <;> exact walk (code := Tryz.f17.body.getD .skip) [c H1, c H2, c H3, c hs] fol Tryz.func17 (by kernel_rfl) (fun xs w => Tryz.call17 xs w) (by kernel_rfl)
  ·exact walk (code := Tryz.f17.body.getD .skip) [c H1, c H2, c H3, c hs] fol Tryz.func17 (by kernel_rfl) (fun xs w => Tryz.call17 xs w) (by kernel_rfl)
def IsRt (X r : Nat) : Prop := r * r ≤ X ∧ X < (r + 1) * (r + 1)
theorem isRt_ex (X : Nat) : ∃ r, IsRt X r := by
 induction X with
 | zero => exact ⟨0, by unfold IsRt; omega⟩
 | succ X ih =>
  obtain ⟨r, h1, h2⟩ := ih
  by_cases h : X + 1 < (r + 1) * (r + 1)
  ·exact ⟨r, by omega, h⟩
  ·refine ⟨r + 1, by omega, ?_⟩
   have e : (r + 1 + 1) * (r + 1 + 1) = (r + 1) * (r + 1) + 2 * r + 3 := by simp only [Nat.mul_add, Nat.add_mul]; omega
   omega
theorem sq_parts (q : Rat) : (q * q).num = q.num * q.num ∧ (q * q).den = q.den * q.den := by
 have e : q * q = q ^ 2 := by rw [Rat.pow_succ, Rat.pow_one]
 rw [e, Rat.num_pow, Rat.den_pow]
 exact ⟨by rw [Int.pow_succ, Int.pow_succ, Int.pow_zero, Int.one_mul], by rw [Nat.pow_succ, Nat.pow_succ, Nat.pow_zero, Nat.one_mul]⟩
theorem iSquare (x : Int) (hx : (mg x).size ≤ 1048576) : (∃ r : Nat, 0 ≤ x ∧ r * r = x.natAbs ∧ Sp Tryz.prog 131 [] [iV x] (.tuple #[iV (r : Int), .bool true]) []) ∨ ((∀ r : Nat, 0 ≤ x → r * r ≠ x.natAbs) ∧ Sp Tryz.prog 131 [] [iV x] (.tuple #[iZ, .bool false]) []) := by
 by_cases h0 : x < 0
 ·exact .inr ⟨fun r h => by omega, Sp.of (fun xs w => Tryz.call131 xs w) (by kernel_rfl) (by kernel_rfl) (fun w => IsSquare_neg x h0 w)⟩
 ·obtain ⟨r, h1, h2⟩ := isRt_ex x.natAbs
  by_cases h : r * r = x.natAbs
  ·exact .inl ⟨r, by omega, h, Sp.of (fun xs w => Tryz.call131 xs w) (by kernel_rfl) (by kernel_rfl) (fun w => IsSquare_yes x r (by omega) h w hx)⟩
  ·refine .inr ⟨fun s _ hs => ?_, Sp.of (fun xs w => Tryz.call131 xs w) (by kernel_rfl) (by kernel_rfl) (fun w => IsSquare_no x r (by omega) h1 h2 h w hx)⟩
   have h3 : r < s := by
    apply Decidable.byContradiction
    intro hc
    have := Nat.mul_le_mul (show s ≤ r by omega) (show s ≤ r by omega)
    omega
   have := Nat.mul_le_mul (show r + 1 ≤ s by omega) (show r + 1 ≤ s by omega)
   omega
theorem pRoot (p : Rat) (hp : Fits p) : (∃ q : Rat, 0 ≤ q ∧ q * q = p ∧ Sp Tryz.prog 78 [] [rV p] (.tuple #[rV q, .bool true]) []) ∨ ((∀ q : Rat, q * q ≠ p) ∧ Sp Tryz.prog 78 [] [rV p] (.tuple #[rZ, .bool false]) []) := by
 have a1 := hp.1
 have a2 := hp.2
 have z1 : (mg p.num).size ≤ 131000 := by rw [mg_nd]; omega
 have z3 : (mg (p.den : Int)).size ≤ 131000 := by rw [mg_nd]; simpa using a2
 have H2 := pDen p
 obtain ⟨d, hd⟩ : ∃ z : Int, z = (p.den : Int) := ⟨_, rfl⟩
 have dp : 0 < d := by rw [hd]; exact den_pos p
 rw [← hd] at z3 H2
 have notsq : (∀ r : Nat, 0 ≤ p.num → r * r ≠ p.num.natAbs) ∨ (∀ r : Nat, 0 ≤ d → r * r ≠ d.natAbs) → ∀ q : Rat, q * q ≠ p := by
  intro h q hq
  obtain ⟨e1, e2⟩ := sq_parts q
  rw [hq] at e1 e2
  rcases h with h | h
  ·refine h q.num.natAbs ?_ ?_
   ·rw [e1]
    rcases Int.le_total 0 q.num with h0 | h0
    ·exact Int.mul_nonneg h0 h0
    ·exact Int.mul_nonneg_of_nonpos_of_nonpos h0 h0
   ·rw [e1, Int.natAbs_mul]
  ·refine h q.den (by omega) ?_
   rw [hd, Int.natAbs_natCast, e2]
 rcases iSquare p.num (by omega) with ⟨n, n0, n1, g1⟩ | ⟨n1, g1⟩
 ·rcases iSquare d (by omega) with ⟨e, e0, e1, g3⟩ | ⟨e1, g3⟩
  ·left
   have ep : 0 < e := by
    rcases Nat.eq_zero_or_pos e with h | h
    ·rw [h] at e1; omega
    ·exact h
   have hq : (Rat.divInt (n : Int) (e : Int)) * (Rat.divInt (n : Int) (e : Int)) = p := by
    rw [Rat.divInt_mul_divInt]
    have h1 : (n : Int) * n = p.num := by
     have : ((n * n : Nat) : Int) = (p.num.natAbs : Int) := by rw [n1]
     rw [Int.natCast_mul] at this
     omega
    have h2 : (e : Int) * e = (p.den : Int) := by
     have : ((e * e : Nat) : Int) = (d.natAbs : Int) := by rw [e1]
     rw [Int.natCast_mul] at this
     omega
    rw [h1, h2]
    exact Rat.num_divInt_den p
   obtain ⟨q, hqd⟩ : ∃ q, q = Rat.divInt (n : Int) (e : Int) := ⟨_, rfl⟩
   rw [← hqd] at hq
   have sn : (mg (n : Int)).size ≤ 131000 := Nat.le_trans (mg_le (x := n) (y := p.num) (by rw [← n1]; exact Nat.le_mul_self n)) z1
   have se : (mg (e : Int)).size ≤ 131000 := Nat.le_trans (mg_le (x := e) (y := d) (by rw [← e1]; exact Nat.le_mul_self e)) z3
   have hC := pCan (n : Int) (e : Int) (by omega) (by omega) (by omega)
   rw [← hqd] at hC
   refine ⟨q, by rw [hqd]; exact Rat.divInt_nonneg (by omega) (by omega), hq, ?_⟩
   exact walk (code := Tryz.f78.body.getD .skip) [c g1, c H2, c g3, c hC] fol Tryz.func78 (by kernel_rfl) (fun xs w => Tryz.call78 xs w) (by kernel_rfl)
  ·exact .inr ⟨notsq (.inr e1), walk (code := Tryz.f78.body.getD .skip) [c g1, c H2, c g3] fol Tryz.func78 (by kernel_rfl) (fun xs w => Tryz.call78 xs w) (by kernel_rfl)⟩
 ·rcases iSquare d (by omega) with ⟨e, e0, e1, g3⟩ | ⟨e1, g3⟩
  ·exact .inr ⟨notsq (.inl n1), walk (code := Tryz.f78.body.getD .skip) [c g1, c H2, c g3] fol Tryz.func78 (by kernel_rfl) (fun xs w => Tryz.call78 xs w) (by kernel_rfl)⟩
  ·exact .inr ⟨notsq (.inl n1), walk (code := Tryz.f78.body.getD .skip) [c g1, c H2, c g3] fol Tryz.func78 (by kernel_rfl) (fun xs w => Tryz.call78 xs w) (by kernel_rfl)⟩
end Go.Proofs.YtcbbcmiennjfhaaGreatDoor
