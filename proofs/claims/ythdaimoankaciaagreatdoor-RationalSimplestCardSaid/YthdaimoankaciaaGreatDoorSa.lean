import Derived.Test.YthdaimoankaciaaGreatDoorQs
/- No program in sight: the search of the simplest fraction, denominator by denominator. -/
set_option linter.unusedSimpArgs false
set_option linter.unusedVariables false
namespace Go.Proofs.YthdaimoankaciaaGreatDoor
open Go Go.RowKit Go.Sy
open Vi
theorem none_below {a b q : Rat} {oa ob : Bool} (hB : Best a b oa ob q) (d : Nat) (hd : 0 < d) (hlt : d < q.den) (n : Int) : ¬ InI a b oa ob (Rat.divInt n d) := fun h => by
 have := (hB.2 _ h).1
 have h2 := (divInt_small n d (by omega)).1
 omega
theorem div_nat (n : Int) (d : Nat) : (n : Rat) / ((d : Int) : Rat) = Rat.divInt n d := (Rat.divInt_eq_div ..).symm
theorem divInt_lt {n m : Int} {d : Nat} (hd : 0 < d) (h : n < m) : Rat.divInt n d < Rat.divInt m d := by
 rw [← div_nat, ← div_nat]
 have hp : (0 : Rat) < ((d : Int) : Rat) := by exact_mod_cast hd
 have hi : (n : Rat) < (m : Rat) := by exact_mod_cast h
 rw [Rat.div_def, Rat.div_def]
 exact Rat.mul_lt_mul_of_pos_right hi (Rat.inv_pos.2 hp)
theorem mul_floor {a : Rat} {d : Nat} {k : Int} (hd : 0 < d) (h1 : Rat.divInt k d ≤ a) (h2 : a < Rat.divInt (k + 1) d) : (a * ((d : Int) : Rat)).floor = k := by
 have hp : (0 : Rat) < ((d : Int) : Rat) := by exact_mod_cast hd
 have e1 : Rat.divInt k d * ((d : Int) : Rat) = (k : Rat) := by rw [← div_nat, Rat.div_mul_cancel (by grind)]
 have e2 : Rat.divInt (k + 1) d * ((d : Int) : Rat) = ((k + 1 : Int) : Rat) := by rw [← div_nat, Rat.div_mul_cancel (by grind)]
 have g1 : (k : Rat) ≤ a * ((d : Int) : Rat) := by rw [← e1]; exact Rat.mul_le_mul_of_nonneg_right h1 (Rat.le_of_lt hp)
 have g2 : a * ((d : Int) : Rat) < ((k + 1 : Int) : Rat) := by rw [← e2]; exact Rat.mul_lt_mul_of_pos_right h2 hp
 have f1 := Rat.floor_le (a * ((d : Int) : Rat))
 have f2 := Rat.lt_floor_add_one (a * ((d : Int) : Rat))
 generalize (a * ((d : Int) : Rat)).floor = m at *
 have a1 : (m : Rat) < ((k + 1 : Int) : Rat) := by grind
 have a2 : (k : Rat) < ((m + 1 : Int) : Rat) := by
  rw [Rat.intCast_add]; have : ((1 : Int) : Rat) = 1 := rfl
  grind
 have b1 : m < k + 1 := by exact_mod_cast a1
 have b2 : k < m + 1 := by exact_mod_cast a2
 omega
theorem tried {a b q : Rat} {oa ob : Bool} (hB : Best a b oa ob q) : q.num = 0 ∨ q.num = (a * ((q.den : Int) : Rat)).floor ∨ q.num = (a * ((q.den : Int) : Rat)).floor + 1 ∨ q.num = (b * ((q.den : Int) : Rat)).floor ∨ q.num = (b * ((q.den : Int) : Rat)).floor - 1 := by
 have hd : 0 < q.den := by have := q.den_nz; omega
 have eq : q = Rat.divInt q.num q.den := (Rat.num_divInt_den q).symm
 obtain ⟨⟨i1, i2⟩, hmin⟩ := hB
 have ha : a ≤ q := by rcases i1 with h | ⟨_, h⟩ <;> grind
 have hb : q ≤ b := by rcases i2 with h | ⟨_, h⟩ <;> grind
 rcases Int.lt_trichotomy q.num 0 with hk | hk | hk
 ·
  have lt := divInt_lt hd (show q.num < q.num + 1 by omega)
  rw [← eq] at lt
  have out : b ≤ Rat.divInt (q.num + 1) q.den := by
   apply Rat.not_lt.1
   intro h
   have := (hmin (Rat.divInt (q.num + 1) q.den) ⟨.inl (by grind), .inl h⟩).2
   have h2 := (divInt_small (q.num + 1) q.den (by omega)).2
   omega
  rcases (by grind : b < Rat.divInt (q.num + 1) q.den ∨ b = Rat.divInt (q.num + 1) q.den) with h | h
  ·right; right; right; left
   exact (mul_floor hd (by rw [← eq]; exact hb) h).symm
  ·right; right; right; right
   rw [mul_floor hd (k := q.num + 1) (by rw [h]; exact Rat.le_refl) (by rw [h]; exact divInt_lt hd (by omega))]
   omega
 ·exact .inl hk
 ·have lt := divInt_lt hd (show q.num - 1 < q.num by omega)
  rw [← eq] at lt
  have out : Rat.divInt (q.num - 1) q.den ≤ a := by
   apply Rat.not_lt.1
   intro h
   have := (hmin (Rat.divInt (q.num - 1) q.den) ⟨.inl h, .inl (by grind)⟩).2
   have h2 := (divInt_small (q.num - 1) q.den (by omega)).2
   omega
  rcases (by grind : a < q ∨ a = q) with h | h
  ·right; right; left
   rw [mul_floor hd (k := q.num - 1) out (by rw [show q.num - 1 + 1 = q.num by omega, ← eq]; exact h)]
   omega
  ·right; left
   exact (mul_floor hd (by rw [← eq, h]; exact Rat.le_refl) (by rw [h]; have := divInt_lt hd (show q.num < q.num + 1 by omega); rwa [← eq] at this)).symm
def fs (w : Bool) (x : Rat) (s : Rat × Bool) : Rat × Bool := if w then (if s.2 = false ∨ x * x < s.1 * s.1 then (x, true) else s) else s
def Fnd (P : Rat → Prop) (l : List Rat) (s : Rat × Bool) : Prop := (s.2 = false ∧ ∀ x ∈ l, ¬ P x) ∨ (s.2 = true ∧ P s.1 ∧ s.1 ∈ l ∧ ∀ x ∈ l, P x → s.1 * s.1 ≤ x * x)
theorem Fnd.step {P : Rat → Prop} {l : List Rat} {s : Rat × Bool} (h : Fnd P l s) {w : Bool} {x : Rat} (hw : w = true ↔ P x) : Fnd P (l ++ [x]) (fs w x s) := by
 unfold fs
 cases w
 ·have hx : ¬ P x := fun h => by simpa using hw.2 h
  rw [if_neg (by simp)]
  rcases h with ⟨h1, h2⟩ | ⟨h1, h2, h3, h4⟩
  ·exact .inl ⟨h1, fun y hy => by rcases List.mem_append.1 hy with hy | hy; exact h2 y hy; rw [List.mem_singleton.1 hy]; exact hx⟩
  ·exact .inr ⟨h1, h2, List.mem_append_left _ h3, fun y hy hp => by
     rcases List.mem_append.1 hy with hy | hy
     ·exact h4 y hy hp
     ·rw [List.mem_singleton.1 hy] at hp; exact absurd hp hx⟩
 ·have hx : P x := hw.1 rfl
  rw [if_pos rfl]
  rcases h with ⟨h1, h2⟩ | ⟨h1, h2, h3, h4⟩
  ·rw [if_pos (.inl h1)]
   exact .inr ⟨rfl, hx, by simp, fun y hy hp => by
    rcases List.mem_append.1 hy with hy | hy
    ·exact absurd hp (h2 y hy)
    ·rw [List.mem_singleton.1 hy]; exact Rat.le_refl⟩
  ·by_cases hlt : x * x < s.1 * s.1
   ·rw [if_pos (.inr hlt)]
    exact .inr ⟨rfl, hx, by simp, fun y hy hp => by
     rcases List.mem_append.1 hy with hy | hy
     ·exact Rat.le_trans (Rat.le_of_lt hlt) (h4 y hy hp)
     ·rw [List.mem_singleton.1 hy]; exact Rat.le_refl⟩
   ·rw [if_neg (by rintro (h | h); rw [h1] at h; cases h; exact hlt h)]
    exact .inr ⟨h1, h2, List.mem_append_left _ h3, fun y hy hp => by
     rcases List.mem_append.1 hy with hy | hy
     ·exact h4 y hy hp
     ·rw [List.mem_singleton.1 hy]; exact Rat.not_lt.1 hlt⟩
theorem sq_nat {x y : Rat} (hx : x.den = y.den) (h : x * x ≤ y * y) : x.num.natAbs ≤ y.num.natAbs := by
 have hd : 0 < y.den := by have := y.den_nz; omega
 apply Nat.le_of_not_lt
 intro hlt
 have e1 : x * ((y.den : Int) : Rat) = (x.num : Rat) := by
  have e : x = Rat.divInt x.num x.den := (Rat.num_divInt_den x).symm
  rw [← hx]
  conv => lhs; lhs; rw [e]
  rw [← div_nat, Rat.div_mul_cancel (by have : (0 : Rat) < ((x.den : Int) : Rat) := by rw [hx]; exact_mod_cast hd
                                        grind)]
 have e2 : y * ((y.den : Int) : Rat) = (y.num : Rat) := by
  have e : y = Rat.divInt y.num y.den := (Rat.num_divInt_den y).symm
  conv => lhs; lhs; rw [e]
  rw [← div_nat, Rat.div_mul_cancel (by have : (0 : Rat) < ((y.den : Int) : Rat) := by exact_mod_cast hd
                                        grind)]
 have hp : (0 : Rat) < ((y.den : Int) : Rat) := by exact_mod_cast hd
 have h2 : x * x * (((y.den : Int) : Rat) * ((y.den : Int) : Rat)) ≤ y * y * (((y.den : Int) : Rat) * ((y.den : Int) : Rat)) := Rat.mul_le_mul_of_nonneg_right h (Rat.le_of_lt (Rat.mul_pos hp hp))
 have e3 : x * x * (((y.den : Int) : Rat) * ((y.den : Int) : Rat)) = ((x.num * x.num : Int) : Rat) := by rw [Rat.intCast_mul, ← e1]; grind
 have e4 : y * y * (((y.den : Int) : Rat) * ((y.den : Int) : Rat)) = ((y.num * y.num : Int) : Rat) := by rw [Rat.intCast_mul, ← e2]; grind
 rw [e3, e4] at h2
 have h3 : x.num * x.num ≤ y.num * y.num := by exact_mod_cast h2
 have h4 : (x.num.natAbs : Int) * x.num.natAbs ≤ y.num.natAbs * y.num.natAbs := by
  rw [← Int.natAbs_mul_self (a := x.num), ← Int.natAbs_mul_self (a := y.num)] at h3
  exact_mod_cast h3
 have h5 : x.num.natAbs * x.num.natAbs ≤ y.num.natAbs * y.num.natAbs := by exact_mod_cast h4
 have := Nat.mul_self_lt_mul_self hlt
 omega
theorem found_best {a b q : Rat} {oa ob : Bool} (hB : Best a b oa ob q) {l : List Rat} (hl : ∀ x ∈ l, x.den ≤ q.den) (hq : q ∈ l) {s : Rat × Bool} (h : Fnd (InI a b oa ob) l s) : s = (q, true) := by
 rcases h with ⟨_, h2⟩ | ⟨h1, h2, h3, h4⟩
 ·exact absurd hB.1 (h2 q hq)
 ·obtain ⟨x, f⟩ := s
  dsimp only at h1 h2 h3 h4
  subst h1
  have hm := hB.2 x h2
  have hd : x.den = q.den := by have := hl x h3; omega
  have hs := sq_nat hd (h4 q hq hB.1)
  have hn : x.num.natAbs = q.num.natAbs := by omega
  have : x = q := by
   rcases Int.natAbs_eq_natAbs_iff.1 hn with h | h
   ·exact Rat.ext h hd
   ·
    have e : x = -q := Rat.ext (by rw [h, Rat.neg_num]) (by rw [hd, Rat.neg_den])
    by_cases h0 : q = 0
    ·rw [e, h0]; rfl
    ·have hz : InI a b oa ob 0 := by
       obtain ⟨⟨i1, i2⟩, _⟩ := hB
       obtain ⟨j1, j2⟩ := h2
       rw [e] at j1 j2
       refine ⟨.inl ?_, .inl ?_⟩
       ·rcases i1 with i1 | ⟨_, i1⟩ <;> rcases j1 with j1 | ⟨_, j1⟩ <;> grind
       ·rcases i2 with i2 | ⟨_, i2⟩ <;> rcases j2 with j2 | ⟨_, j2⟩ <;> grind
     have := (hB.2 0 hz).2
     have h6 : q.num = 0 := by
      have : (0 : Rat).num.natAbs = 0 := rfl
      omega
     exact absurd (Rat.num_eq_zero.1 h6) h0
  rw [this]
end Go.Proofs.YthdaimoankaciaaGreatDoor
