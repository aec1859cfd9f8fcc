import Derived.Test.YthdaimoankaciaaGreatDoorNum
/- No program in sight: a number as the bytes of its magnitude, the highest one first, and back. -/
namespace Vi
def mag (n : Nat) : ByteArray := ⟨((dig 256 n).map UInt8.ofNat).reverse.toArray⟩
def low (s : ByteArray) : List Nat := (s.data.toList.map UInt8.toNat).reverse
def num (s : ByteArray) : Nat := val 256 (low s)
def Can (s : ByteArray) : Prop := s.data.toList.head? ≠ some 0
def sg (z : Int) : Bool := decide (z < 0)
def mg (z : Int) : ByteArray := mag z.natAbs
theorem toList_data (s : ByteArray) : s.toList = s.data.toList := by
 have h : ∀ (k i : Nat) (r : List UInt8), k = s.size - i → ByteArray.toList.loop s i r = r.reverse ++ s.data.toList.drop i := by
  intro k
  induction k with
  | zero =>
   intro i r hk
   unfold ByteArray.toList.loop
   have hi : ¬ i < s.size := by omega
   have h2 : s.data.toList.length ≤ i := by show s.data.size ≤ i; have : s.size = s.data.size := rfl; omega
   rw [if_neg hi, List.drop_of_length_le h2, List.append_nil]
  | succ k ih =>
   intro i r hk
   unfold ByteArray.toList.loop
   have hi : i < s.size := by omega
   have h2 : i < s.data.toList.length := hi
   rw [if_pos hi, ih (i + 1) _ (by omega), List.drop_eq_getElem_cons h2]
   have e : s.get! i = s.data.toList[i] := by
    show s.data[i]! = _
    have h3 : i < s.data.size := hi
    rw [getElem!_pos s.data i h3, Array.getElem_toList]
   rw [e]; simp
 have := h s.size 0 [] (by omega)
 simpa [ByteArray.toList] using this
theorem size_mag (n : Nat) : (mag n).size = nd 256 n := by
 show ((List.map UInt8.ofNat (dig 256 n)).reverse.toArray).size = _
 simp [nd]
theorem data_mag (n : Nat) : (mag n).data.toList = ((dig 256 n).map UInt8.ofNat).reverse := rfl
theorem low_mag (n : Nat) : low (mag n) = dig 256 n := by
 unfold low
 rw [data_mag, List.map_reverse, List.reverse_reverse, List.map_map]
 have : ∀ d ∈ dig 256 n, (UInt8.toNat ∘ UInt8.ofNat) d = d := by
  intro d hd
  have := dig_lt 256 (by omega) n d hd
  simp; omega
 rw [List.map_congr_left this, List.map_id'']
 intro x; rfl
theorem num_mag (n : Nat) : num (mag n) = n := by
 unfold num; rw [low_mag, val_dig 256 (by omega)]
theorem low_lt (s : ByteArray) : ∀ d ∈ low s, d < 256 := by
 intro d hd
 unfold low at hd
 rw [List.mem_reverse, List.mem_map] at hd
 obtain ⟨b, _, rfl⟩ := hd
 exact b.toNat_lt
theorem low_length (s : ByteArray) : (low s).length = s.size := by
 unfold low; rw [List.length_reverse, List.length_map]; rfl
theorem can_mag (n : Nat) : Can (mag n) := by
 unfold Can
 rw [data_mag, List.head?_reverse, List.getLast?_map]
 intro h
 have h2 := dig_getLast 256 (by omega) n
 cases h3 : (dig 256 n).getLast? with
 | none => rw [h3] at h; cases h
 | some d =>
  rw [h3] at h
  simp only [Option.map_some, Option.some.injEq] at h
  have h4 := dig_lt 256 (by omega) n d (List.mem_of_getLast? h3)
  have h5 : (UInt8.ofNat d).toNat = 0 := by rw [h]; rfl
  rw [UInt8.toNat_ofNat', Nat.mod_eq_of_lt h4] at h5
  rw [h3, h5] at h2
  exact h2 rfl
theorem mag_num (s : ByteArray) (h : Can s) : mag (num s) = s := by
 have h1 : dig 256 (num s) = low s := by
  apply dig_val 256 (by omega) _ (low_lt s)
  unfold low
  rw [List.getLast?_reverse, List.head?_map]
  intro h2
  unfold Can at h
  cases h3 : s.data.toList.head? with
  | none => rw [h3] at h2; cases h2
  | some b =>
   rw [h3] at h2 h
   simp only [Option.map_some, Option.some.injEq] at h2
   apply h
   congr 1
   exact UInt8.toNat_inj.1 (by rw [h2]; rfl)
 have h2 : (mag (num s)).data = s.data := by
  apply Array.toList_inj.1
  rw [data_mag, h1]
  unfold low
  rw [List.map_reverse, List.reverse_reverse, List.map_map]
  have : ∀ b ∈ s.data.toList, (UInt8.ofNat ∘ UInt8.toNat) b = b := fun b _ => by simp
  rw [List.map_congr_left this, List.map_id'']
  intro x; rfl
 cases s; cases hm : mag _; rw [hm] at h2; simp at h2; rw [h2]
theorem mag_inj {a b : Nat} (h : mag a = mag b) : a = b := by
 have := congrArg num h
 rwa [num_mag, num_mag] at this
theorem mag_zero : mag 0 = ⟨#[]⟩ := rfl
theorem mag_isEmpty (n : Nat) : (mag n).toList.isEmpty = (n == 0) := by
 rw [toList_data, data_mag]
 by_cases h : n = 0
 ·subst h; rfl
 ·rw [dig_pos 256 n (by omega) (by omega), beq_eq_false_iff_ne.2 h]
  simp
theorem byte_inj {s t : ByteArray} (h : s.toList = t.toList) : s = t := by
 rw [toList_data, toList_data] at h
 have := Array.toList_inj.1 h
 cases s; cases t; simp at this; rw [this]
theorem mag_beq (a b : Nat) : ((mag a).toList == (mag b).toList) = (a == b) := by
 by_cases h : a = b
 ·subst h; simp
 ·rw [beq_eq_false_iff_ne.2 h, beq_eq_false_iff_ne]
  intro h2; exact h (mag_inj (byte_inj h2))
theorem get_low (s : ByteArray) (k : Nat) (h : k < s.size) : (s[k]'h).toNat = (low s).getD (s.size - 1 - k) 0 := by
 have hl : s.data.toList.length = s.size := rfl
 have e : (s[k]'h) = s.data.toList[k]'h := rfl
 unfold low
 rw [List.getD_eq_getElem?_getD, List.getElem?_reverse (by rw [List.length_map]; omega), List.length_map, hl]
 rw [List.getElem?_map, show s.size - 1 - (s.size - 1 - k) = k by omega, List.getElem?_eq_getElem (by omega), e]
 rfl
theorem get_num (s : ByteArray) (k : Nat) (h : k < s.size) : (s[k]'h).toNat = num s / 256 ^ (s.size - 1 - k) % 256 := by
 rw [get_low s k h, val_getD 256 (by omega) _ (low_lt s)]; rfl
theorem get_mag (n k : Nat) (h : k < (mag n).size) : ((mag n)[k]'h).toNat = n / 256 ^ ((mag n).size - 1 - k) % 256 := by
 rw [get_num, num_mag]
theorem num_lt (s : ByteArray) : num s < 256 ^ s.size := by
 have := val_lt 256 (low s) (low_lt s)
 rwa [low_length] at this
theorem size_mag_le (n k : Nat) (h : n < 256 ^ k) : (mag n).size ≤ k := by
 rw [size_mag]; exact nd_le 256 (by omega) n k h
theorem lt_of_size_mag (n k : Nat) (h : (mag n).size ≤ k) : n < 256 ^ k := by
 rw [size_mag] at h
 have := lt_pow_nd 256 (by omega) n
 exact Nat.lt_of_lt_of_le this (Nat.pow_le_pow_right (by omega) h)
theorem mg_nat (n : Nat) : mg (n : Int) = mag n := rfl
theorem mg_neg (n : Nat) : mg (-(n : Int)) = mag n := by unfold mg; rw [Int.natAbs_neg]; rfl
theorem sg_nat (n : Nat) : sg (n : Int) = false := by unfold sg; simp
theorem mg_zero : mg 0 = ⟨#[]⟩ := rfl
theorem sg_zero : sg 0 = false := rfl
theorem mg_isEmpty (z : Int) : (mg z).toList.isEmpty = (z == 0) := by
 unfold mg; rw [mag_isEmpty]
 by_cases h : z = 0
 ·subst h; rfl
 ·rw [beq_eq_false_iff_ne.2 h, beq_eq_false_iff_ne]; omega
theorem int_inj {x y : Int} (h1 : sg x = sg y) (h2 : mg x = mg y) : x = y := by
 have := mag_inj h2
 unfold sg at h1
 simp only [decide_eq_decide] at h1
 omega
theorem int_beq (x y : Int) : (sg x == sg y && (mg x).toList == (mg y).toList) = (x == y) := by
 by_cases h : x = y
 ·subst h; simp
 ·rw [beq_eq_false_iff_ne.2 h]
  cases h1 : (sg x == sg y) with
  | false => simp
  | true =>
   simp only [Bool.true_and, beq_eq_false_iff_ne]
   intro h2; exact h (int_inj (by simpa using h1) (byte_inj h2))
end Vi
