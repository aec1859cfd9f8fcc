/- Plain numbers, no program in sight: numbers as lists of digits, the lowest one first, to any base; their bytes with the highest one first. -/
namespace Vi
def val (b : Nat) : List Nat → Nat
 | [] => 0
 | d :: l => d + b * val b l
def digF (b : Nat) : Nat → Nat → List Nat
 | 0, _ => []
 | f + 1, n => if n = 0 then [] else n % b :: digF b f (n / b)
def dig (b n : Nat) : List Nat := digF b n n
theorem digF_fuel (b : Nat) (hb : 2 ≤ b) : ∀ (f g n : Nat), n ≤ f → n ≤ g → digF b f n = digF b g n := by
 intro f
 induction f with
 | zero =>
  intro g n hf _
  have : n = 0 := by omega
  subst this
  cases g <;> simp [digF]
 | succ f ih =>
  intro g n hf hg
  cases g with
  | zero =>
   have : n = 0 := by omega
   subst this
   simp [digF]
  | succ g =>
   by_cases h : n = 0
   ·simp [digF, h]
   ·have hlt : n / b < n := Nat.div_lt_self (by omega) (by omega)
    simp only [digF, if_neg h]
    rw [ih g (n / b) (by omega) (by omega)]
theorem dig_zero (b : Nat) : dig b 0 = [] := rfl
theorem dig_pos (b n : Nat) (hb : 2 ≤ b) (hn : 0 < n) : dig b n = n % b :: dig b (n / b) := by
 cases n with
 | zero => omega
 | succ m =>
  show digF b (m + 1) (m + 1) = _
  have hlt : (m + 1) / b < m + 1 := Nat.div_lt_self (by omega) (by omega)
  simp only [digF]
  rw [if_neg (by omega), digF_fuel b hb m ((m + 1) / b) ((m + 1) / b) (by omega) (Nat.le_refl _)]
  rfl
theorem val_dig (b : Nat) (hb : 2 ≤ b) (n : Nat) : val b (dig b n) = n := by
 induction n using Nat.strongRecOn with
 | _ n ih =>
  by_cases h : n = 0
  ·subst h; rfl
  ·rw [dig_pos b n hb (by omega)]
   simp only [val]
   rw [ih (n / b) (Nat.div_lt_self (by omega) (by omega))]
   exact Nat.mod_add_div n b
theorem dig_lt (b : Nat) (hb : 2 ≤ b) (n : Nat) : ∀ d ∈ dig b n, d < b := by
 induction n using Nat.strongRecOn with
 | _ n ih =>
  by_cases h : n = 0
  ·subst h; simp [dig_zero]
  ·rw [dig_pos b n hb (by omega)]
   intro d hd
   rcases List.mem_cons.1 hd with rfl | hd
   ·exact Nat.mod_lt _ (by omega)
   ·exact ih (n / b) (Nat.div_lt_self (by omega) (by omega)) d hd
theorem val_append (b : Nat) (l m : List Nat) : val b (l ++ m) = val b l + b ^ l.length * val b m := by
 induction l with
 | nil => simp [val]
 | cons d l ih =>
  simp only [List.cons_append, val, ih, List.length_cons, Nat.pow_succ, Nat.mul_add]
  rw [Nat.add_assoc, Nat.mul_comm (b ^ l.length) b, Nat.mul_assoc]
theorem val_lt (b : Nat) (l : List Nat) (h : ∀ d ∈ l, d < b) : val b l < b ^ l.length := by
 induction l with
 | nil => simp [val]
 | cons d l ih =>
  have h1 := h d (List.mem_cons_self)
  have h2 := ih (fun e he => h e (List.mem_cons_of_mem _ he))
  simp only [val, List.length_cons, Nat.pow_succ]
  have h3 : b * (val b l + 1) ≤ b * b ^ l.length := Nat.mul_le_mul_left b h2
  rw [Nat.mul_comm (b ^ l.length) b]
  rw [Nat.mul_add] at h3
  omega
theorem val_snoc (b : Nat) (l : List Nat) (d : Nat) : val b (l ++ [d]) = val b l + b ^ l.length * d := by
 rw [val_append]; simp [val]
theorem val_replicate_zero (b n : Nat) : val b (List.replicate n 0) = 0 := by
 induction n with
 | zero => rfl
 | succ n ih => simp [List.replicate_succ, val, ih]
theorem dig_val (b : Nat) (hb : 2 ≤ b) (l : List Nat) (h : ∀ d ∈ l, d < b) (ht : l.getLast? ≠ some 0) : dig b (val b l) = l := by
 induction l with
 | nil => rfl
 | cons d l ih =>
  have h1 := h d (List.mem_cons_self)
  have h2 : ∀ e ∈ l, e < b := fun e he => h e (List.mem_cons_of_mem _ he)
  have hpos : 0 < val b (d :: l) := by
   cases l with
   | nil =>
    simp only [val]
    simp at ht
    omega
   | cons e l =>
    have ht' : (e :: l).getLast? ≠ some 0 := by simpa using ht
    have hne : val b (e :: l) ≠ 0 := by
     intro h0
     have := ih h2 ht'
     rw [h0, dig_zero] at this
     cases this
    simp only [val] at hne ⊢
    have : 0 < b * (e + b * val b l) := Nat.mul_pos (by omega) (by omega)
    omega
  rw [dig_pos b _ hb hpos]
  have hm : val b (d :: l) % b = d := by
   simp only [val]
   rw [Nat.add_mul_mod_self_left, Nat.mod_eq_of_lt h1]
  have hd : val b (d :: l) / b = val b l := by
   simp only [val]
   rw [Nat.add_mul_div_left _ _ (by omega), Nat.div_eq_of_lt h1, Nat.zero_add]
  rw [hm, hd]
  by_cases hl : l = []
  ·subst hl; rfl
  ·rw [ih h2]
   cases l with
   | nil => exact absurd rfl hl
   | cons e l => simpa using ht
theorem dig_getLast (b : Nat) (hb : 2 ≤ b) (n : Nat) : (dig b n).getLast? ≠ some 0 := by
 induction n using Nat.strongRecOn with
 | _ n ih =>
  by_cases h : n = 0
  ·subst h; simp [dig_zero]
  ·rw [dig_pos b n hb (by omega)]
   by_cases h2 : n / b = 0
   ·rw [h2, dig_zero]
    have hlt : n < b := by
     rcases Nat.div_eq_zero_iff.1 h2 with h3 | h3 <;> omega
    simp only [List.getLast?_singleton, ne_eq, Option.some.injEq]
    rw [Nat.mod_eq_of_lt hlt]
    exact h
   ·have hne : dig b (n / b) ≠ [] := by
      rw [dig_pos b (n / b) hb (Nat.pos_of_ne_zero h2)]; simp
    rw [List.getLast?_cons_of_ne_nil hne]
    exact ih (n / b) (Nat.div_lt_self (by omega) (by omega))
theorem val_getD (b : Nat) (hb : 2 ≤ b) (l : List Nat) (h : ∀ d ∈ l, d < b) (i : Nat) : l.getD i 0 = val b l / b ^ i % b := by
 induction l generalizing i with
 | nil => simp [val]
 | cons d l ih =>
  have h1 := h d (List.mem_cons_self)
  have h2 : ∀ e ∈ l, e < b := fun e he => h e (List.mem_cons_of_mem _ he)
  cases i with
  | zero =>
   simp only [List.getD_cons_zero, val, Nat.pow_zero, Nat.div_one]
   rw [Nat.add_mul_mod_self_left, Nat.mod_eq_of_lt h1]
  | succ i =>
   simp only [List.getD_cons_succ, val]
   rw [ih h2 i, Nat.pow_succ, Nat.mul_comm (b ^ i) b, ← Nat.div_div_eq_div_mul, Nat.add_mul_div_left _ _ (by omega), Nat.div_eq_of_lt h1, Nat.zero_add]
theorem val_take (b : Nat) (hb : 2 ≤ b) (l : List Nat) (h : ∀ d ∈ l, d < b) (i : Nat) : val b (l.take i) = val b l % b ^ i := by
 by_cases hi : i ≤ l.length
 ·have e : val b l = val b (l.take i) + b ^ i * val b (l.drop i) := by
    have := val_append b (l.take i) (l.drop i)
    rw [List.take_append_drop, List.length_take, Nat.min_eq_left hi] at this
    exact this
  have hlt := val_lt b (l.take i) (fun d hd => h d (List.mem_of_mem_take hd))
  rw [List.length_take, Nat.min_eq_left hi] at hlt
  rw [e, Nat.add_mul_mod_self_left, Nat.mod_eq_of_lt hlt]
 ·rw [List.take_of_length_le (by omega)]
  have hlt := val_lt b l h
  have : b ^ l.length ≤ b ^ i := Nat.pow_le_pow_right (by omega) (by omega)
  rw [Nat.mod_eq_of_lt (by omega)]
theorem val_take_succ (b : Nat) (l : List Nat) (i : Nat) : val b (l.take (i + 1)) = val b (l.take i) + b ^ i * l.getD i 0 := by
 by_cases hi : i < l.length
 ·rw [List.take_succ_eq_append_getElem hi, val_snoc, List.length_take, Nat.min_eq_left (by omega)]
  rw [List.getD_eq_getElem?_getD, List.getElem?_eq_getElem hi]; rfl
 ·rw [List.take_of_length_le (by omega), List.take_of_length_le (by omega), List.getD_eq_getElem?_getD, List.getElem?_eq_none (by omega)]
  simp
def nd (b n : Nat) : Nat := (dig b n).length
theorem nd_zero (b : Nat) : nd b 0 = 0 := rfl
theorem lt_pow_nd (b : Nat) (hb : 2 ≤ b) (n : Nat) : n < b ^ nd b n := by
 have := val_lt b (dig b n) (dig_lt b hb n)
 rwa [val_dig b hb] at this
theorem nd_pos (b : Nat) (hb : 2 ≤ b) (n : Nat) (h : 0 < n) : 0 < nd b n := by
 unfold nd; rw [dig_pos b n hb h]; simp
theorem nd_succ (b : Nat) (hb : 2 ≤ b) (n : Nat) (h : 0 < n) : nd b n = nd b (n / b) + 1 := by
 unfold nd; rw [dig_pos b n hb h]; simp
theorem pow_nd_le (b : Nat) (hb : 2 ≤ b) (n : Nat) (h : 0 < n) : b ^ (nd b n - 1) ≤ n := by
 induction n using Nat.strongRecOn with
 | _ n ih =>
  rw [nd_succ b hb n h, Nat.add_sub_cancel]
  by_cases h2 : n / b = 0
  ·rw [h2, nd_zero, Nat.pow_zero]; exact h
  ·have h6 := Nat.pos_of_ne_zero h2
   have h3 := ih (n / b) (Nat.div_lt_self (by omega) (by omega)) h6
   have h4 := nd_pos b hb (n / b) h6
   have h5 : b ^ nd b (n / b) = b ^ (nd b (n / b) - 1) * b := by
    rw [← Nat.pow_succ]; congr 1; omega
   rw [h5]
   calc b ^ (nd b (n / b) - 1) * b ≤ n / b * b := Nat.mul_le_mul_right b h3
    _ ≤ n := Nat.div_mul_le_self n b
theorem nd_le (b : Nat) (hb : 2 ≤ b) (n k : Nat) (h : n < b ^ k) : nd b n ≤ k := by
 by_cases h0 : n = 0
 ·subst h0; simp [nd_zero]
 ·have h1 := pow_nd_le b hb n (by omega)
  have h2 : b ^ (nd b n - 1) < b ^ k := by omega
  have h3 := (Nat.pow_lt_pow_iff_right (show 1 < b by omega)).1 h2
  omega
theorem nd_mono (b : Nat) (hb : 2 ≤ b) (m n : Nat) (h : m ≤ n) : nd b m ≤ nd b n :=
 nd_le b hb m _ (Nat.lt_of_le_of_lt h (lt_pow_nd b hb n))
theorem lt_of_nd_lt (b : Nat) (hb : 2 ≤ b) (m n : Nat) (h : nd b m < nd b n) : m < n := by
 apply Nat.lt_of_not_le
 intro h2
 have := nd_mono b hb n m h2
 omega
theorem nd_of_bounds (b : Nat) (hb : 2 ≤ b) (n k : Nat) (h1 : b ^ k ≤ n) (h2 : n < b ^ (k + 1)) : nd b n = k + 1 := by
 have h3 := nd_le b hb n (k + 1) h2
 have h4 := lt_pow_nd b hb n
 have h5 : b ^ k < b ^ nd b n := by omega
 have h6 := (Nat.pow_lt_pow_iff_right (show 1 < b by omega)).1 h5
 omega
theorem dig_getD (b : Nat) (hb : 2 ≤ b) (n i : Nat) : (dig b n).getD i 0 = n / b ^ i % b := by
 rw [val_getD b hb _ (dig_lt b hb n), val_dig b hb]
end Vi
