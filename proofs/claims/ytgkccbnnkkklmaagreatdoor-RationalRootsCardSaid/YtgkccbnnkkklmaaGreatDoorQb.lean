import Derived.Test.YtgkccbnnkkklmaaGreatDoorQa
import Derived.Test.YtgkccbnnkkklmaaGreatDoorIntL
import Derived.Test.YtgkccbnnkkklmaaGreatDoorIntM
import Derived.Test.YtgkccbnnkkklmaaGreatDoorDigs
/- The program's Simplest and Root. -/
set_option linter.unusedSimpArgs false
set_option linter.unusedVariables false
namespace Go.Proofs.YtgkccbnnkkklmaaGreatDoor
open Go Go.RowKit Go.Sy
open Vi
theorem pSimplestNone (a b : Rat) (oa ob : Bool) (h : b < a ∨ (a = b ∧ (oa = true ∨ ob = true))) (ha : Fits a) (hb : Fits b) : Sp Tryz.prog 31 [] [rV a, rV b, .bool oa, .bool ob] (.tuple #[rZ, nV 10]) [] := by
  have H1 := pCompare a b ha hb
  rcases cmpQ_cases a b with ⟨h1, h2⟩ | ⟨h1, h2⟩ | ⟨h1, h2⟩ <;> rw [h1] at H1
  · exfalso
    rcases h with h | ⟨h, _⟩
    · exact Rat.lt_irrefl (lt_of_lt_of_le' h (Rat.le_of_lt h2))
    · rw [h] at h2; exact Rat.lt_irrefl h2
  · have hoo : oa = true ∨ ob = true := by
      rcases h with h | ⟨_, h⟩
      · rw [h2] at h; exact absurd h Rat.lt_irrefl
      · exact h
    cases oa <;> cases ob
    · simp at hoo
    · exact walk (code := Tryz.f31.body.getD .skip) [c H1] fol Tryz.func31 (by kernel_rfl) (fun xs w => Tryz.call31 xs w) (by kernel_rfl)
    · exact walk (code := Tryz.f31.body.getD .skip) [c H1] fol Tryz.func31 (by kernel_rfl) (fun xs w => Tryz.call31 xs w) (by kernel_rfl)
    · exact walk (code := Tryz.f31.body.getD .skip) [c H1] fol Tryz.func31 (by kernel_rfl) (fun xs w => Tryz.call31 xs w) (by kernel_rfl)
  · cases oa <;> cases ob <;> exact walk (code := Tryz.f31.body.getD .skip) [c H1] fol Tryz.func31 (by kernel_rfl) (fun xs w => Tryz.call31 xs w) (by kernel_rfl)
theorem pSimplestSome (a b : Rat) (oa ob : Bool) (h : a < b ∨ (a = b ∧ oa = false ∧ ob = false)) (k : Nat) (hk : k ≤ 130000) (ha : Sz k a) (hb : Sz k b) : ∃ q, Best a b oa ob q ∧ Sp Tryz.prog 31 [] [rV a, rV b, .bool oa, .bool ob] (.tuple #[rV q, nV 0]) [] := by
  have H1 := pCompare a b (ha.fits (by omega)) (hb.fits (by omega))
  have H2 := pSign a
  have H3 := pSign b
  have hc : cmpQ a b = -1 ∨ (cmpQ a b = 0 ∧ oa = false ∧ ob = false) := by
    rcases cmpQ_cases a b with ⟨h1, h2⟩ | ⟨h1, h2⟩ | ⟨h1, h2⟩
    · exact .inl h1
    · refine .inr ⟨h1, ?_⟩
      rcases h with h | h
      · rw [h2] at h; exact absurd h Rat.lt_irrefl
      · exact h.2
    · exfalso
      rcases h with h | ⟨h, _⟩
      · exact Rat.lt_irrefl (lt_of_lt_of_le' h (Rat.le_of_lt h2))
      · rw [h] at h2; exact Rat.lt_irrefl h2
  have hle : a ≤ b := by
    rcases h with h | ⟨h, _⟩
    · exact Rat.le_of_lt h
    · rw [h]; exact Rat.le_refl
  have lower : b ≤ 0 → ∃ s : Rat, Best a b oa ob (-s) ∧ Sp Tryz.prog 75 [] [rV (-b), rV (-a), .bool ob, .bool oa] (rV s) [] := by
    intro hb0
    have h0 : 0 ≤ -b := by have := Rat.neg_le_neg hb0; simpa using this
    obtain ⟨s, hs, hc⟩ := pSimp k hk _ (-b) (-a) ob oa (Nat.le_refl _) hb.neg ha.neg h0 (by
      rcases h with h | ⟨h1, h2, h3⟩
      · exact .inl (Rat.neg_lt_neg h)
      · exact .inr ⟨by rw [h1], h3, h2⟩)
    exact ⟨s, best_neg a b oa ob s hs, hc⟩
  have upper : 0 ≤ a → ∃ s : Rat, Best a b oa ob s ∧ Sp Tryz.prog 75 [] [rV a, rV b, .bool oa, .bool ob] (rV s) [] := fun h0 => pSimp k hk _ a b oa ob (Nat.le_refl _) ha hb h0 h
  have mid : InI a b oa ob 0 → Best a b oa ob 0 := best_zero a b oa ob
  rcases sgn_cases a with ⟨s1, t1⟩ | ⟨s1, t1⟩ | ⟨s1, t1⟩ <;> rw [s1] at H2 <;> rcases sgn_cases b with ⟨s2, t2⟩ | ⟨s2, t2⟩ | ⟨s2, t2⟩ <;> rw [s2] at H3
  · -- both below zero
    obtain ⟨s, hq, hs⟩ := lower (Rat.le_of_lt t2)
    refine ⟨-s, hq, ?_⟩
    rcases hc with h1 | ⟨h1, rfl, rfl⟩ <;> rw [h1] at H1
    · cases oa <;> cases ob <;> exact walk (code := Tryz.f31.body.getD .skip) [c H1, c H2, c H3, c (pNeg b), c (pNeg a), c hs, c (pNeg s)] fol Tryz.func31 (by kernel_rfl) (fun xs w => Tryz.call31 xs w) (by kernel_rfl)
    · exact walk (code := Tryz.f31.body.getD .skip) [c H1, c H2, c H3, c (pNeg b), c (pNeg a), c hs, c (pNeg s)] fol Tryz.func31 (by kernel_rfl) (fun xs w => Tryz.call31 xs w) (by kernel_rfl)
  · cases ob
    · refine ⟨0, mid ⟨.inl t1, .inr ⟨rfl, t2.symm⟩⟩, ?_⟩
      rw [rV0]
      rcases hc with h1 | ⟨h1, rfl, _⟩ <;> rw [h1] at H1
      · cases oa <;> exact walk (code := Tryz.f31.body.getD .skip) [c H1, c H2, c H3] fol Tryz.func31 (by kernel_rfl) (fun xs w => Tryz.call31 xs w) (by kernel_rfl)
      · exact walk (code := Tryz.f31.body.getD .skip) [c H1, c H2, c H3] fol Tryz.func31 (by kernel_rfl) (fun xs w => Tryz.call31 xs w) (by kernel_rfl)
    · obtain ⟨s, hq, hs⟩ := lower (by rw [t2]; exact Rat.le_refl)
      refine ⟨-s, hq, ?_⟩
      rcases hc with h1 | ⟨h1, _, h3⟩
      · rw [h1] at H1
        cases oa <;> exact walk (code := Tryz.f31.body.getD .skip) [c H1, c H2, c H3, c (pNeg b), c (pNeg a), c hs, c (pNeg s)] fol Tryz.func31 (by kernel_rfl) (fun xs w => Tryz.call31 xs w) (by kernel_rfl)
      · cases h3
  · refine ⟨0, mid ⟨.inl t1, .inl t2⟩, ?_⟩
    rw [rV0]
    rcases hc with h1 | ⟨h1, rfl, rfl⟩ <;> rw [h1] at H1
    · cases oa <;> cases ob <;> exact walk (code := Tryz.f31.body.getD .skip) [c H1, c H2, c H3] fol Tryz.func31 (by kernel_rfl) (fun xs w => Tryz.call31 xs w) (by kernel_rfl)
    · exact walk (code := Tryz.f31.body.getD .skip) [c H1, c H2, c H3] fol Tryz.func31 (by kernel_rfl) (fun xs w => Tryz.call31 xs w) (by kernel_rfl)
  · exfalso
    rw [t1] at hle
    exact Rat.not_le.2 t2 hle
  · have h3 : oa = false ∧ ob = false := by
      rcases h with h | h
      · rw [t1, t2] at h; exact absurd h Rat.lt_irrefl
      · exact h.2
    obtain ⟨rfl, rfl⟩ := h3
    refine ⟨0, mid ⟨.inr ⟨rfl, t1⟩, .inr ⟨rfl, t2.symm⟩⟩, ?_⟩
    rw [rV0]
    rcases hc with h1 | ⟨h1, _, _⟩ <;> rw [h1] at H1
    · exact walk (code := Tryz.f31.body.getD .skip) [c H1, c H2, c H3] fol Tryz.func31 (by kernel_rfl) (fun xs w => Tryz.call31 xs w) (by kernel_rfl)
    · exact walk (code := Tryz.f31.body.getD .skip) [c H1, c H2, c H3] fol Tryz.func31 (by kernel_rfl) (fun xs w => Tryz.call31 xs w) (by kernel_rfl)
  · cases oa
    · refine ⟨0, mid ⟨.inr ⟨rfl, t1⟩, .inl t2⟩, ?_⟩
      rw [rV0]
      rcases hc with h1 | ⟨h1, _, rfl⟩ <;> rw [h1] at H1
      · cases ob <;> exact walk (code := Tryz.f31.body.getD .skip) [c H1, c H2, c H3] fol Tryz.func31 (by kernel_rfl) (fun xs w => Tryz.call31 xs w) (by kernel_rfl)
      · exact walk (code := Tryz.f31.body.getD .skip) [c H1, c H2, c H3] fol Tryz.func31 (by kernel_rfl) (fun xs w => Tryz.call31 xs w) (by kernel_rfl)
    · obtain ⟨s, hq, hs⟩ := upper (by rw [t1]; exact Rat.le_refl)
      refine ⟨s, hq, ?_⟩
      rcases hc with h1 | ⟨h1, h2, _⟩
      · rw [h1] at H1
        cases ob <;> exact walk (code := Tryz.f31.body.getD .skip) [c H1, c H2, c H3, c hs] fol Tryz.func31 (by kernel_rfl) (fun xs w => Tryz.call31 xs w) (by kernel_rfl)
      · cases h2
  · exfalso
    exact Rat.lt_irrefl (lt_of_lt_of_le' (lt_of_lt_of_le' t1 hle) (Rat.le_of_lt t2))
  · exfalso
    rw [t2] at hle
    exact Rat.not_le.2 t1 hle
  · obtain ⟨s, hq, hs⟩ := upper (Rat.le_of_lt t1)
    refine ⟨s, hq, ?_⟩
    rcases hc with h1 | ⟨h1, rfl, rfl⟩ <;> rw [h1] at H1
    · cases oa <;> cases ob <;> exact walk (code := Tryz.f31.body.getD .skip) [c H1, c H2, c H3, c hs] fol Tryz.func31 (by kernel_rfl) (fun xs w => Tryz.call31 xs w) (by kernel_rfl)
    · exact walk (code := Tryz.f31.body.getD .skip) [c H1, c H2, c H3, c hs] fol Tryz.func31 (by kernel_rfl) (fun xs w => Tryz.call31 xs w) (by kernel_rfl)
def IsRt (X r : Nat) : Prop := r * r ≤ X ∧ X < (r + 1) * (r + 1)
theorem isRt_ex (X : Nat) : ∃ r, IsRt X r := by
  induction X with
  | zero => exact ⟨0, by unfold IsRt; omega⟩
  | succ X ih =>
    obtain ⟨r, h1, h2⟩ := ih
    by_cases h : X + 1 < (r + 1) * (r + 1)
    · exact ⟨r, by omega, h⟩
    · refine ⟨r + 1, by omega, ?_⟩
      have e : (r + 1 + 1) * (r + 1 + 1) = (r + 1) * (r + 1) + 2 * r + 3 := by simp only [Nat.mul_add, Nat.add_mul]; omega
      omega
theorem sq_parts (q : Rat) : (q * q).num = q.num * q.num ∧ (q * q).den = q.den * q.den := by
  have e : q * q = q ^ 2 := by rw [Rat.pow_succ, Rat.pow_one]
  rw [e, Rat.num_pow, Rat.den_pow]
  exact ⟨by rw [Int.pow_succ, Int.pow_succ, Int.pow_zero, Int.one_mul], by rw [Nat.pow_succ, Nat.pow_succ, Nat.pow_zero, Nat.one_mul]⟩
theorem iSquare (x : Int) (hx : (mg x).size ≤ 1048576) : (∃ r : Nat, 0 ≤ x ∧ r * r = x.natAbs ∧ Sp Tryz.prog 77 [] [iV x] (.tuple #[iV (r : Int), .bool true]) []) ∨ ((∀ r : Nat, 0 ≤ x → r * r ≠ x.natAbs) ∧ Sp Tryz.prog 77 [] [iV x] (.tuple #[iZ, .bool false]) []) := by
  by_cases h0 : x < 0
  · exact .inr ⟨fun r h => by omega, Sp.of (fun xs w => Tryz.call77 xs w) (by kernel_rfl) (by kernel_rfl) (fun w => IsSquare_neg x h0 w)⟩
  · obtain ⟨r, h1, h2⟩ := isRt_ex x.natAbs
    by_cases h : r * r = x.natAbs
    · exact .inl ⟨r, by omega, h, Sp.of (fun xs w => Tryz.call77 xs w) (by kernel_rfl) (by kernel_rfl) (fun w => IsSquare_yes x r (by omega) h w hx)⟩
    · refine .inr ⟨fun s _ hs => ?_, Sp.of (fun xs w => Tryz.call77 xs w) (by kernel_rfl) (by kernel_rfl) (fun w => IsSquare_no x r (by omega) h1 h2 h w hx)⟩
      have h3 : r < s := by
        apply Decidable.byContradiction
        intro hc
        have := Nat.mul_le_mul (show s ≤ r by omega) (show s ≤ r by omega)
        omega
      have := Nat.mul_le_mul (show r + 1 ≤ s by omega) (show r + 1 ≤ s by omega)
      omega
theorem pRoot (p : Rat) (hp : Fits p) : (∃ q : Rat, 0 ≤ q ∧ q * q = p ∧ Sp Tryz.prog 38 [] [rV p] (.tuple #[rV q, .bool true]) []) ∨ ((∀ q : Rat, q * q ≠ p) ∧ Sp Tryz.prog 38 [] [rV p] (.tuple #[rZ, .bool false]) []) := by
  have a1 := hp.1
  have a2 := hp.2
  have z1 : (mg p.num).size ≤ 131000 := by rw [mg_nd]; omega
  have z3 : (mg (p.den : Int)).size ≤ 131000 := by rw [mg_nd]; simpa using a2
  have H2 := pDen p
  obtain ⟨d, hd⟩ : ∃ z : Int, z = (p.den : Int) := ⟨_, rfl⟩
  have dp : 0 < d := by rw [hd]; exact den_pos p
  rw [← hd] at z3 H2
  have notsq : (∀ r : Nat, 0 ≤ p.num → r * r ≠ p.num.natAbs) ∨ (∀ r : Nat, 0 ≤ d → r * r ≠ d.natAbs) → ∀ q : Rat, q * q ≠ p := by
    intro h q hq
    obtain ⟨e1, e2⟩ := sq_parts q
    rw [hq] at e1 e2
    rcases h with h | h
    · refine h q.num.natAbs ?_ ?_
      · rw [e1]
        rcases Int.le_total 0 q.num with h0 | h0
        · exact Int.mul_nonneg h0 h0
        · exact Int.mul_nonneg_of_nonpos_of_nonpos h0 h0
      · rw [e1, Int.natAbs_mul]
    · refine h q.den (by omega) ?_
      rw [hd, Int.natAbs_natCast, e2]
  rcases iSquare p.num (by omega) with ⟨n, n0, n1, g1⟩ | ⟨n1, g1⟩
  · rcases iSquare d (by omega) with ⟨e, e0, e1, g3⟩ | ⟨e1, g3⟩
    · left
      have ep : 0 < e := by
        rcases Nat.eq_zero_or_pos e with h | h
        · rw [h] at e1; omega
        · exact h
      have hq : (Rat.divInt (n : Int) (e : Int)) * (Rat.divInt (n : Int) (e : Int)) = p := by
        rw [Rat.divInt_mul_divInt]
        have h1 : (n : Int) * n = p.num := by
          have : ((n * n : Nat) : Int) = (p.num.natAbs : Int) := by rw [n1]
          rw [Int.natCast_mul] at this
          omega
        have h2 : (e : Int) * e = (p.den : Int) := by
          have : ((e * e : Nat) : Int) = (d.natAbs : Int) := by rw [e1]
          rw [Int.natCast_mul] at this
          omega
        rw [h1, h2]
        exact Rat.num_divInt_den p
      obtain ⟨q, hqd⟩ : ∃ q, q = Rat.divInt (n : Int) (e : Int) := ⟨_, rfl⟩
      rw [← hqd] at hq
      have sn : (mg (n : Int)).size ≤ 131000 := Nat.le_trans (mg_le (x := n) (y := p.num) (by rw [← n1]; exact Nat.le_mul_self n)) z1
      have se : (mg (e : Int)).size ≤ 131000 := Nat.le_trans (mg_le (x := e) (y := d) (by rw [← e1]; exact Nat.le_mul_self e)) z3
      have hC := pCan (n : Int) (e : Int) (by omega) (by omega) (by omega)
      rw [← hqd] at hC
      refine ⟨q, by rw [hqd]; exact Rat.divInt_nonneg (by omega) (by omega), hq, ?_⟩
      exact walk (code := Tryz.f38.body.getD .skip) [c g1, c H2, c g3, c hC] fol Tryz.func38 (by kernel_rfl) (fun xs w => Tryz.call38 xs w) (by kernel_rfl)
    · exact .inr ⟨notsq (.inr e1), walk (code := Tryz.f38.body.getD .skip) [c g1, c H2, c g3] fol Tryz.func38 (by kernel_rfl) (fun xs w => Tryz.call38 xs w) (by kernel_rfl)⟩
  · rcases iSquare d (by omega) with ⟨e, e0, e1, g3⟩ | ⟨e1, g3⟩
    · exact .inr ⟨notsq (.inl n1), walk (code := Tryz.f38.body.getD .skip) [c g1, c H2, c g3] fol Tryz.func38 (by kernel_rfl) (fun xs w => Tryz.call38 xs w) (by kernel_rfl)⟩
    · exact .inr ⟨notsq (.inl n1), walk (code := Tryz.f38.body.getD .skip) [c g1, c H2, c g3] fol Tryz.func38 (by kernel_rfl) (fun xs w => Tryz.call38 xs w) (by kernel_rfl)⟩
end Go.Proofs.YtgkccbnnkkklmaaGreatDoor
/- What chapter 2's laws share: valid, den, short; Print. -/
set_option linter.unusedSimpArgs false
set_option linter.unusedVariables false
namespace Go.Proofs.YtgkccbnnkkklmaaGreatDoor
open Go Go.RowKit Go.Sy
open Vi
def rC (q : Rat) : List Value := [.bool (sg q.num), .string (mg q.num), .bool (sg (dn q)), .string (mg (dn q))]
theorem vValid (p q : Rat) (hp : Fits p) (hq : Fits q) : Sp Tryz.prog 26 [(2, rC p ++ rC q)] [row 0 2] (.bool true) [] :=
  walk (code := Tryz.f26.body.getD .skip) [c (rCheckQ p hp), c (rCheckQ q hq)] fol Tryz.func26 (by kernel_rfl) (fun xs w => Tryz.call26 xs w) (by kernel_rfl)
theorem vDen (p : Rat) : Sp Tryz.prog 34 [] [rV p] (iV p.den) [] := by
  have e := mg_eq0 (dn p)
  by_cases h : p.den = 1
  · rw [show (dn p == 0) = true by unfold dn; rw [if_pos h]; rfl] at e
    rw [h]
    exact walk (code := Tryz.f34.body.getD .skip) [eb e, c (rInt 1 (by omega) (by omega))] fol Tryz.func34 (by kernel_rfl) (fun xs w => Tryz.call34 xs w) (by kernel_rfl)
  · have ed : dn p = (p.den : Int) := by unfold dn; rw [if_neg h]
    rw [show (dn p == 0) = false by rw [ed]; have := p.den_nz; simp; omega] at e
    rw [show iV (p.den : Int) = iV (dn p) by rw [ed]]
    exact walk (code := Tryz.f34.body.getD .skip) [eb e] fol Tryz.func34 (by kernel_rfl) (fun xs w => Tryz.call34 xs w) (by kernel_rfl)
theorem vShort (b1 : Bool) (s1 : ByteArray) (b2 : Bool) (s2 : ByteArray) : Sp Tryz.prog 54 [] [.agg #[.bool b1, .string s1, .bool b2, .string s2]] (.bool (decide (s1.size ≤ 40) && decide (s2.size ≤ 40))) [] := by
  by_cases h1 : s1.size ≤ 40
  · have e1 : decide ((s1.size : Int) ≤ 40) = true := decide_eq_true (by omega)
    rw [decide_eq_true h1]
    by_cases h2 : s2.size ≤ 40
    · rw [decide_eq_true h2]
      exact walk (code := Tryz.f54.body.getD .skip) [L, eb e1, L, eb (show decide ((s2.size : Int) ≤ 40) = true from decide_eq_true (by omega))] fol Tryz.func54 (by kernel_rfl) (fun xs w => Tryz.call54 xs w) (by kernel_rfl)
    · rw [decide_eq_false h2]
      exact walk (code := Tryz.f54.body.getD .skip) [L, eb e1, L, eb (show decide ((s2.size : Int) ≤ 40) = false from decide_eq_false (by omega))] fol Tryz.func54 (by kernel_rfl) (fun xs w => Tryz.call54 xs w) (by kernel_rfl)
  · rw [decide_eq_false h1]
    exact walk (code := Tryz.f54.body.getD .skip) [L, eb (show decide ((s1.size : Int) ≤ 40) = false from decide_eq_false (by omega))] fol Tryz.func54 (by kernel_rfl) (fun xs w => Tryz.call54 xs w) (by kernel_rfl)
theorem printS_size (x : Int) (h : (mg x).size ≤ 1048576) : (printS x).size ≤ 4194304 := by
  have h1 : (decS x.natAbs).length ≤ 3 * 1048576 := decS_len _ _ h
  unfold printS
  split
  · decide
  · split
    · show (45 :: decS x.natAbs).length ≤ _
      rw [List.length_cons]; omega
    · show (decS x.natAbs).length ≤ _
      omega
theorem iPrint (x : Int) (h : (mg x).size ≤ 1048576) : Sp Tryz.prog 79 [] [iV x] (.string (printS x)) [] := Sp.of (fun xs w => Tryz.call79 xs w) (by kernel_rfl) (by kernel_rfl) (fun w => Print_c x w h)
/-- A fraction in decimal digits. -/
def printQ (p : Rat) : ByteArray := if dn p = 0 then printS p.num else printS p.num ++ ⟨#[47]⟩ ++ printS (dn p)
theorem pPrint (p : Rat) (hp : Fits p) : Sp Tryz.prog 42 [] [rV p] (.string (printQ p)) [] := by
  have s1 := hp.mn
  have s2 := hp.md
  have h1 := iPrint p.num (by omega)
  have h2 := iPrint (dn p) (by omega)
  have z1 := printS_size p.num (by omega)
  have z2 := printS_size (dn p) (by omega)
  unfold printQ
  by_cases h : dn p = 0
  · rw [if_pos h]
    exact walk (code := Tryz.f42.body.getD .skip) [x2 (binI0 (dn p) (b := true) (by rw [h]; rfl)), c h1] fol Tryz.func42 (by kernel_rfl) (fun xs w => Tryz.call42 xs w) (by kernel_rfl)
  · rw [if_neg h]
    exact walk (code := Tryz.f42.body.getD .skip) [x2 (binI0 (dn p) (b := false) (by simpa using h)), c h1, x2 (bin_cat (printS p.num) ⟨#[47]⟩ (by show (printS p.num).size + 1 ≤ _; omega)), c h2, x2 (bin_cat (printS p.num ++ ⟨#[47]⟩) (printS (dn p)) (by rw [ByteArray.size_append]; show (printS p.num).size + 1 + _ ≤ _; omega))] fol Tryz.func42 (by kernel_rfl) (fun xs w => Tryz.call42 xs w) (by kernel_rfl)
end Go.Proofs.YtgkccbnnkkklmaaGreatDoor
/- The program's Parse. -/
set_option linter.unusedSimpArgs false
set_option linter.unusedVariables false
namespace Go.Proofs.YtgkccbnnkkklmaaGreatDoor
open Go Go.RowKit Go.Sy
open Vi
def qneg (s : ByteArray) : Bool := Lib.hasPrefix s.data.toList [45]
def qrest (s : ByteArray) : ByteArray := ⟨(Lib.trimPrefix s.data.toList [45]).toArray⟩
def cutI (T : ByteArray) : Int := Lib.indexByte T.data.toList 47
def cutA (T : ByteArray) : ByteArray := if cutI T = -1 then T else T.extract 0 (cutI T).toNat
def cutB (T : ByteArray) : ByteArray := if cutI T = -1 then ⟨#[]⟩ else T.extract ((cutI T).toNat + 1) T.size
def cutH (T : ByteArray) : Bool := decide (cutI T ≠ -1)
/-- Decimal digits, at least one. -/
def okD (s : ByteArray) : Bool := s.data.toList.all isD && decide (0 < s.size)
/-- What Parse returns. -/
def parseQ (s : ByteArray) : Rat × Int :=
  if 4096 < s.size then (0, 28) else
  if !(okD (cutA (qrest s))) || (cutH (qrest s) && !(okD (cutB (qrest s)))) then (0, 15) else
  if (if cutH (qrest s) then pv (cutB (qrest s)) (cutB (qrest s)).size else 1) = 0 then (0, 6) else
  (Rat.divInt (if qneg s then -((pv (cutA (qrest s)) (cutA (qrest s)).size : Nat) : Int) else (pv (cutA (qrest s)) (cutA (qrest s)).size : Nat)) ((if cutH (qrest s) then pv (cutB (qrest s)) (cutB (qrest s)).size else 1 : Nat) : Int), 0)
theorem digS_iff (s : ByteArray) : DigS s ↔ s.data.toList.all isD = true := by
  rw [List.all_eq_true]
  unfold DigS
  constructor
  · intro h b hb
    obtain ⟨i, hi, rfl⟩ := List.getElem_of_mem hb
    have hi2 : i < s.size := by simpa using hi
    have := h i hi2
    unfold isD
    simp only [Bool.and_eq_true, decide_eq_true_eq]
    exact this
  · intro h i hi
    have h1 := h (s[i]'hi) (by
      have : s.data.toList[i]'(by simpa using hi) = s[i]'hi := rfl
      rw [← this]; exact List.getElem_mem _)
    unfold isD at h1
    simpa using h1
theorem trim_len (l p : List UInt8) : (Lib.trimPrefix l p).length ≤ l.length := by
  unfold Lib.trimPrefix
  split <;> simp
theorem qrest_size (s : ByteArray) : (qrest s).size ≤ s.size := by
  have h := trim_len s.data.toList [45]
  show (Lib.trimPrefix s.data.toList [45]).toArray.size ≤ s.data.size
  simpa using h
theorem cutI_lt (T : ByteArray) : cutI T ≠ -1 → ∃ i : Nat, cutI T = (i : Int) ∧ i < T.size := by
  intro h
  have h1 := Lib.indexByte_ge T.data.toList 47
  have e : cutI T = Lib.indexByte T.data.toList 47 := rfl
  refine ⟨(cutI T).toNat, by omega, ?_⟩
  have h2 := Lib.indexByte_some (l := T.data.toList) (c := 47) (o := (cutI T).toNat) (by rw [← e]; omega)
  have h3 := (List.getElem?_eq_some_iff.1 h2.1).1
  simpa using h3
theorem cutA_size (T : ByteArray) : (cutA T).size ≤ T.size := by
  unfold cutA
  split
  · exact Nat.le_refl _
  · rw [ByteArray.size_extract]; omega
theorem cutB_size (T : ByteArray) : (cutB T).size ≤ T.size := by
  unfold cutB
  split
  · exact Nat.zero_le _
  · rw [ByteArray.size_extract]; omega
theorem Cut_c (T : ByteArray) (hT : T.size ≤ 4294967296) (w : World) : Calls Tryz.prog 81 #[.string T, .string ⟨#[47]⟩] w fun e w' => e = .returned (.tuple #[.string (cutA T), .string (cutB T), .bool (cutH T)]) ∧ Below w.heap.size w w' := by
  unfold cutA cutB cutH
  by_cases h : cutI T = -1
  · rw [if_pos h, if_pos h, decide_eq_false (by simpa using h)]
    exact cut1_no T h w
  · rw [if_neg h, if_neg h, decide_eq_true h]
    obtain ⟨i, h1, h2⟩ := cutI_lt T h
    have e : (cutI T).toNat = i := by omega
    rw [e]
    exact cut1_yes T i h1 h2 hT w
/-- digits, by its two answers. -/
def dvl (s : ByteArray) : Int := if s.data.toList.all isD then ((pv s s.size : Nat) : Int) else 0
theorem qDigits_c2 (s : ByteArray) (hs : s.size ≤ 4096) (w : World) : Calls Tryz.prog 82 #[.string s] w fun z w' => z = .returned (.tuple #[.agg #[.bool (sg (dvl s)), .string (mg (dvl s))], .bool (okD s)]) ∧ Below w.heap.size w w' := by
  refine qDigits_c s hs (dvl s) (okD s) ?_ w
  unfold dvl okD
  by_cases h : s.data.toList.all isD = true
  · exact .inl ⟨(digS_iff s).2 h, by rw [if_pos h], by rw [h]; simp⟩
  · exact .inr ⟨fun h2 => h ((digS_iff s).1 h2), by rw [if_neg h], by simp [h]⟩
theorem dvl_ok (s : ByteArray) (h : okD s = true) : dvl s = ((pv s s.size : Nat) : Int) := by
  unfold okD at h
  simp only [Bool.and_eq_true] at h
  unfold dvl
  rw [if_pos h.1]
theorem pv_size (s : ByteArray) (h : okD s = true) (hs : s.size ≤ 4096) : (mg ((pv s s.size : Nat) : Int)).size ≤ 4096 := by
  unfold okD at h
  simp only [Bool.and_eq_true] at h
  have hd := (digS_iff s).2 h.1
  rw [mg_nat]
  refine Nat.le_trans (size_mag_le _ s.size (Nat.lt_of_lt_of_le (pv_lt s s.size (fun i hi => ?_)) (Nat.pow_le_pow_left (by decide : 10 ≤ 256) s.size))) hs
  have h1 := hd i hi
  exact (dgt_le s i hi (by unfold isD; simp; omega)).1
theorem pDigits (s : ByteArray) (hs : s.size ≤ 4096) : Sp Tryz.prog 82 [] [.string s] (.tuple #[iV (dvl s), .bool (okD s)]) [] := Sp.of (fun xs w => Tryz.call82 xs w) (by kernel_rfl) (by kernel_rfl) (fun w => qDigits_c2 s hs w)
theorem lCut (T : ByteArray) (hT : T.size ≤ 4294967296) : Sp Tryz.prog 81 [] [.string T, .string ⟨#[47]⟩] (.tuple #[.string (cutA T), .string (cutB T), .bool (cutH T)]) [] := Sp.of (fun xs w => Tryz.call81 xs w) (by kernel_rfl) (by kernel_rfl) (fun w => Cut_c T hT w)
theorem lCutPrefix (s : ByteArray) : Sp Tryz.prog 80 [] [.string s, .string ⟨#[45]⟩] (.tuple #[.string (qrest s), .bool (qneg s)]) [] := Sp.of (fun xs w => Tryz.call80 xs w) (by kernel_rfl) (by kernel_rfl) (fun w => (Tryz.strings_CutPrefix s ⟨#[45]⟩ w).mono fun e w' h => ⟨h.1, by rw [h.2]; exact Below.refl _ _⟩)
theorem pMakeN (n : Int) (d : Nat) (hn : (mg n).size ≤ 5000) (hd : (mg (d : Int)).size ≤ 5000) : Sp Tryz.prog 19 [] [iV n, iV d] (.tuple #[rV (if d = 0 then (0, 6) else (Rat.divInt n d, 0) : Rat × Int).1, nV (if d = 0 then (0, 6) else (Rat.divInt n d, 0) : Rat × Int).2]) [] := by
  by_cases h : d = 0
  · subst h
    simp only [if_true]
    rw [rV0]
    exact pMake0 n
  · rw [if_neg h]
    exact pMake n d (by omega) (by omega) (by omega)
theorem neg_size (n : Nat) : (mg (-(n : Int))).size = (mg (n : Int)).size := by rw [mg_nd, mg_nd, Int.natAbs_neg]
theorem pParse (s : ByteArray) : Sp Tryz.prog 43 [] [.string s] (.tuple #[rV (parseQ s).1, nV (parseQ s).2]) [] := by
  unfold parseQ
  by_cases hl : 4096 < s.size
  · rw [if_pos hl, rV0]
    have l2 : decide ((s.size : Int) > 4096) = true := decide_eq_true (by omega)
    exact walk (code := Tryz.f43.body.getD .skip) [L, eb l2] fol Tryz.func43 (by kernel_rfl) (fun xs w => Tryz.call43 xs w) (by kernel_rfl)
  · rw [if_neg hl]
    have l2 : decide ((s.size : Int) > 4096) = false := decide_eq_false (by omega)
    have hT := qrest_size s
    have H1 := lCutPrefix s
    obtain ⟨T, eT⟩ : ∃ T, T = qrest s := ⟨_, rfl⟩
    rw [← eT] at hT H1 ⊢
    have hA := cutA_size T
    have hB := cutB_size T
    have H2 := lCut T (by omega)
    have H3 := pDigits (cutA T) (by omega)
    have H4 := pOne
    have H5 := pDigits (cutB T) (by omega)
    have one5 : (mg ((1 : Nat) : Int)).size ≤ 5000 := by rw [mg_nd, show ((1 : Nat) : Int).natAbs = 1 from rfl, nd_small 1 (by omega) (by omega)]; omega
    cases e1 : okD (cutA T) <;> rw [e1] at H3
    · simp only [Bool.not_false, Bool.true_or, if_true]
      rw [rV0]
      cases e2 : cutH T <;> rw [e2] at H2
      · exact walk (code := Tryz.f43.body.getD .skip) [L, eb l2, c H1, c H2, c H3, c H4] fol Tryz.func43 (by kernel_rfl) (fun xs w => Tryz.call43 xs w) (by kernel_rfl)
      · cases e4 : okD (cutB T) <;> rw [e4] at H5 <;> exact walk (code := Tryz.f43.body.getD .skip) [L, eb l2, c H1, c H2, c H3, c H4, c H5] fol Tryz.func43 (by kernel_rfl) (fun xs w => Tryz.call43 xs w) (by kernel_rfl)
    · have v1 := dvl_ok _ e1
      have z1 := pv_size _ e1 (by omega)
      rw [v1] at H3
      obtain ⟨N, hN⟩ : ∃ D, D = pv (cutA T) (cutA T).size := ⟨_, rfl⟩
      rw [← hN] at H3 z1 ⊢
      have z1' : (mg (-(N : Int))).size ≤ 5000 := by rw [neg_size]; omega
      cases e2 : cutH T <;> rw [e2] at H2
      · simp only [Bool.not_true, Bool.false_or, Bool.false_and, Bool.false_eq_true, if_false]
        cases e3 : qneg s <;> rw [e3] at H1
        · exact walk (code := Tryz.f43.body.getD .skip) [L, eb l2, c H1, c H2, c H3, c H4, c (pMakeN N 1 (by omega) one5)] fol Tryz.func43 (by kernel_rfl) (fun xs w => Tryz.call43 xs w) (by kernel_rfl)
        · exact walk (code := Tryz.f43.body.getD .skip) [L, eb l2, c H1, c H2, c H3, c H4, c (iNegate N), c (pMakeN (-(N : Int)) 1 z1' one5)] fol Tryz.func43 (by kernel_rfl) (fun xs w => Tryz.call43 xs w) (by kernel_rfl)
      · cases e4 : okD (cutB T) <;> rw [e4] at H5
        · simp only [Bool.not_true, Bool.false_or, Bool.not_false, Bool.and_true, if_true]
          rw [rV0]
          exact walk (code := Tryz.f43.body.getD .skip) [L, eb l2, c H1, c H2, c H3, c H4, c H5] fol Tryz.func43 (by kernel_rfl) (fun xs w => Tryz.call43 xs w) (by kernel_rfl)
        · have v2 := dvl_ok _ e4
          have z2 := pv_size _ e4 (by omega)
          rw [v2] at H5
          simp only [Bool.not_true, Bool.false_or, Bool.and_false, if_true, Bool.false_eq_true, if_false]
          obtain ⟨D, hD⟩ : ∃ D, D = pv (cutB T) (cutB T).size := ⟨_, rfl⟩
          rw [← hD] at H5 z2 ⊢
          cases e3 : qneg s <;> rw [e3] at H1
          · exact walk (code := Tryz.f43.body.getD .skip) [L, eb l2, c H1, c H2, c H3, c H4, c H5, c (pMakeN N D (by omega) (by omega))] fol Tryz.func43 (by kernel_rfl) (fun xs w => Tryz.call43 xs w) (by kernel_rfl)
          · exact walk (code := Tryz.f43.body.getD .skip) [L, eb l2, c H1, c H2, c H3, c H4, c H5, c (iNegate N), c (pMakeN (-(N : Int)) D z1' (by omega))] fol Tryz.func43 (by kernel_rfl) (fun xs w => Tryz.call43 xs w) (by kernel_rfl)
end Go.Proofs.YtgkccbnnkkklmaaGreatDoor
/- Chapter 2: what its laws know, and the fractions that they describe. -/
set_option linter.unusedSimpArgs false
set_option linter.unusedVariables false
namespace Go.Proofs.YtgkccbnnkkklmaaGreatDoor
open Go Go.RowKit Go.Sy
open Vi
theorem kn1 : Rat.divInt 6 (-4) = Rat.divInt (-3) 2 := by decide +kernel
theorem kn2 : parseQ ⟨#[45, 48, 54, 47, 52]⟩ = (Rat.divInt (-3) 2, 0) := by decide +kernel
theorem kn3 : printQ (Rat.divInt (-3) 2) = ⟨#[45, 51, 47, 50]⟩ := by decide +kernel
theorem kn4 : cmpQ (Rat.divInt (-3) 2) (Rat.divInt 3 2) = -1 := by decide +kernel
theorem kn5 : Best (Rat.divInt 1 3) (Rat.divInt 1 2) true true (Rat.divInt 2 5) := by
  refine ⟨⟨.inl (by decide +kernel), .inl (by decide +kernel)⟩, fun r hr => ?_⟩
  have h1 : Rat.divInt 1 3 < r := by
    rcases hr.1 with h | ⟨h, _⟩
    · exact h
    · cases h
  have h2 : r < Rat.divInt 1 2 := by
    rcases hr.2 with h | ⟨h, _⟩
    · exact h
    · cases h
  have e1 : (Rat.divInt 1 3).num = 1 ∧ (Rat.divInt 1 3).den = 3 := by decide +kernel
  have e2 : (Rat.divInt 1 2).num = 1 ∧ (Rat.divInt 1 2).den = 2 := by decide +kernel
  have e3 : (Rat.divInt 2 5).num = 2 ∧ (Rat.divInt 2 5).den = 5 := by decide +kernel
  rw [Rat.lt_iff, e1.1, e1.2] at h1
  rw [Rat.lt_iff, e2.1, e2.2] at h2
  rw [e3.1, e3.2]
  omega
theorem kn6 (q : Rat) (h0 : 0 ≤ q) (h : q * q = Rat.divInt 9 4) : q = Rat.divInt 3 2 := by
  obtain ⟨h1, h2⟩ := sq_parts q
  have e1 : (Rat.divInt 9 4).num = 9 ∧ (Rat.divInt 9 4).den = 4 := by decide +kernel
  have e2 : (Rat.divInt 3 2).num = 3 ∧ (Rat.divInt 3 2).den = 2 := by decide +kernel
  rw [h, e1.1] at h1
  rw [h, e1.2] at h2
  have hn : 0 ≤ q.num := Rat.num_nonneg.2 h0
  have hn3 : q.num = 3 := by
    have : q.num ≤ 3 := by
      apply Decidable.byContradiction
      intro hc
      have := Int.mul_le_mul (show 4 ≤ q.num by omega) (show 4 ≤ q.num by omega) (by omega) hn
      omega
    have hc : q.num = 0 ∨ q.num = 1 ∨ q.num = 2 ∨ q.num = 3 := by omega
    rcases hc with e | e | e | e <;> rw [e] at h1 <;> first | exact e | (exact absurd h1 (by decide))
  have hd2 : q.den = 2 := by
    have : q.den ≤ 2 := by
      apply Decidable.byContradiction
      intro hc
      have := Nat.mul_le_mul (show 3 ≤ q.den by omega) (show 3 ≤ q.den by omega)
      omega
    have hc : q.den = 0 ∨ q.den = 1 ∨ q.den = 2 := by omega
    rcases hc with e | e | e <;> rw [e] at h2 <;> first | exact e | (exact absurd h2 (by decide))
  exact Rat.ext (by rw [hn3, e2.1]) (by rw [hd2, e2.2])
theorem szk (q : Rat) (h1 : q.num.natAbs < 256) (h2 : q.den < 256) : Sz 1 q := ⟨by simpa using h1, by simpa using h2⟩
theorem strEq : (!((⟨#[45, 51, 47, 50]⟩ : ByteArray).toList == (⟨#[45, 51, 47, 50]⟩ : ByteArray).toList)) = false := by rw [beq_self_eq_true]; rfl
theorem vKnown : Sp Tryz.prog 14 [] [] (.bool true) [] := by
  have sx : Sz 1 (Rat.divInt 1 3) := szk _ (by decide +kernel) (by decide +kernel)
  have sy : Sz 1 (Rat.divInt 1 2) := szk _ (by decide +kernel) (by decide +kernel)
  have sz : Sz 1 (Rat.divInt 9 4) := szk _ (by decide +kernel) (by decide +kernel)
  have sa : Sz 1 (Rat.divInt (-3) 2) := szk _ (by decide +kernel) (by decide +kernel)
  have sc : Sz 1 (Rat.divInt 3 2) := szk _ (by decide +kernel) (by decide +kernel)
  obtain ⟨b, hb, hbc⟩ := pSimplestSome (Rat.divInt 1 3) (Rat.divInt 1 2) true true (.inl (by decide +kernel)) 1 (by decide) sx sy
  have eb := best_unique _ _ _ _ _ _ hb kn5
  subst eb
  rcases pRoot (Rat.divInt 9 4) (sz.fits (by omega)) with ⟨q, q0, q1, hq⟩ | ⟨hno, _⟩
  · have eq := kn6 q q0 q1
    subst eq
    have H1 := pFromInts 6 (-4) (by omega) (by omega) (by omega) (by omega) (by omega)
    rw [kn1] at H1
    have H2 := rOf 1 3 (by omega) (by omega) (by omega) (by omega) (by omega)
    have H3 := rOf 1 2 (by omega) (by omega) (by omega) (by omega) (by omega)
    have H4 := rOf 9 4 (by omega) (by omega) (by omega) (by omega) (by omega)
    have H5 := rOf (-3) 2 (by omega) (by omega) (by omega) (by omega) (by omega)
    have H6 := rOf 2 5 (by omega) (by omega) (by omega) (by omega) (by omega)
    have H8 := rOf 3 2 (by omega) (by omega) (by omega) (by omega) (by omega)
    have H7 := pParse ⟨#[45, 48, 54, 47, 52]⟩
    rw [kn2] at H7
    have H9 := pPrint (Rat.divInt (-3) 2) (sa.fits (by omega))
    rw [kn3] at H9
    have H12 := pCompare (Rat.divInt (-3) 2) (Rat.divInt 3 2) (sa.fits (by omega)) (sc.fits (by omega))
    rw [kn4] at H12
    generalize Rat.divInt 1 3 = q13 at *
    generalize Rat.divInt 1 2 = q12 at *
    generalize Rat.divInt 9 4 = q94 at *
    generalize Rat.divInt (-3) 2 = q32 at *
    generalize Rat.divInt 2 5 = q25 at *
    generalize Rat.divInt 3 2 = p32 at *
    exact walk (code := Tryz.f14.body.getD .skip) [c H1, c H2, c H3, c hbc, c H4, c hq, c H7, c H5, x2 (binR1 q32 q32 (b := true) (by simp)), c H9, c H6, x2 (binR1 q25 q25 (b := true) (by simp)), c H8, x2 (binR1 p32 p32 (b := true) (by simp)), L, x2 (binR1 q32 q32 (b := true) (by simp)), c H12] fol Tryz.func14 (by kernel_rfl) (fun xs w => Tryz.call14 xs w) (by kernel_rfl)
  · exact absurd (by decide +kernel) (hno (Rat.divInt 3 2))
def FracOk (n d u v : Int) : Prop := (-9223372036854775808 ≤ n ∧ n ≤ 9223372036854775807) ∧ (-9223372036854775808 ≤ d ∧ d ≤ 9223372036854775807) ∧ (0 ≤ u ∧ u ≤ 255) ∧ (0 ≤ v ∧ v ≤ 255)
theorem vFrac (n d u v : Int) (h : FracOk n d u v) : ∃ q : Rat, Sz 16 q ∧ Sp Tryz.prog 21 [] [.agg #[.int .i64 n, .int .i64 d, .int .u8 u, .int .u8 v]] (rV q) [] := by
  obtain ⟨⟨n1, n2⟩, ⟨d1, d2⟩, ⟨u1, u2⟩, v1, v2⟩ := h
  have hc := vRat n d u.toNat v.toNat n1 n2 d1 d2 (by omega) (by omega)
  unfold bV at hc
  rw [show ((u.toNat : Nat) : Int) = u by omega, show ((v.toNat : Nat) : Int) = v by omega] at hc
  refine ⟨_, ?_, hc⟩
  unfold fracQ
  have sn := s64 n n1 n2
  have se := s64 (if d = 0 then 1 else d) (by split <;> omega) (by split <;> omega)
  have z1 := sz256 n (u.toNat % 9) sn (by omega)
  have z2 := sz256 (if d = 0 then 1 else d) (v.toNat % 9) se (by omega)
  rw [mg_nd] at z1 z2
  refine Sz.of _ _ 16 (z256 _ (by split <;> omega) _) ?_ ?_
  · exact Nat.lt_of_lt_of_le (lt_pow_nd 256 (by omega) _) (Nat.pow_le_pow_right (by omega) z1)
  · exact Nat.lt_of_lt_of_le (lt_pow_nd 256 (by omega) _) (Nat.pow_le_pow_right (by omega) z2)
end Go.Proofs.YtgkccbnnkkklmaaGreatDoor
