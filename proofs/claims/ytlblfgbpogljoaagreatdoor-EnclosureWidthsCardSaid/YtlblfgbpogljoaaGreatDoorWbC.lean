/- Part 3 of the proof; what it holds is said text by text. -/
import Derived.Shelf.Strings.Builder1
import Derived.Shelf.Strings.Builder2
import Derived.Shelf.Strings.Trim
import Derived.Shelf.Small.Utf8
import Derived.Shelf.Small.Bits
import Derived.Shelf.Small.Strs
import Derived.Shelf.Small.Wraps
import Derived.Shelf.Strings.BuilderF
import Derived.Shelf.Strings.BuilderK
import Derived.Shelf.Strings.Builder2Cap
import Derived.Shelf.Strconv.Itoa0
import Derived.Shelf.Strings.Search1
import Derived.Shelf.Strings.Prefix
import Derived.Shelf.Strings.Runes
import Derived.Shelf.Strings.AsciiSet
import Derived.Shelf.Bits.Mul64
import Derived.Shelf.Strings.Repeat
import Derived.Shelf.Unicode.DecodeSlow
import Derived.Shelf.Strings.BuilderCap
import Derived.Test.YtlblfgbpogljoaaGreatDoorProg
import Derived.StillTail
import Derived.Deep.QuietTactic
import Derived.BigQuiet
import Derived.WalkKit
import Derived.WalkLawsBesides
import Derived.WalkSpells
import Derived.Handy
import Derived.Outline
import Derived.Lib.Hide
import Derived.Lib.BitFns
import Derived.Lib.Bytealg
import Derived.Lib.Small
import Derived.Laws.CopyOwn
import Derived.Test.YtlblfgbpogljoaaGreatDoorWbB
set_option linter.unusedSimpArgs false
set_option linter.unusedVariables false
section
/- Plain numbers, no program in sight: numbers as lists of digits, the lowest one first, to any base; their bytes with the highest one first. -/
namespace Vi
def val (b : Nat) : List Nat → Nat
 | [] => 0
 | d :: l => d + b * val b l
def digF (b : Nat) : Nat → Nat → List Nat
 | 0, _ => []
 | f + 1, n => if n = 0 then [] else n % b :: digF b f (n / b)
def dig (b n : Nat) : List Nat := digF b n n
theorem digF_fuel (b : Nat) (hb : 2 ≤ b) : ∀ (f g n : Nat), n ≤ f → n ≤ g → digF b f n = digF b g n := by
 intro f
 induction f with
 | zero =>
  intro g n hf _
  have : n = 0 := by omega
  subst this
  cases g <;> simp [digF]
 | succ f ih =>
  intro g n hf hg
  cases g with
  | zero =>
   have : n = 0 := by omega
   subst this
   simp [digF]
  | succ g =>
   by_cases h : n = 0
   ·simp [digF, h]
   ·have hlt : n / b < n := Nat.div_lt_self (by omega) (by omega)
    simp only [digF, if_neg h]
    rw [ih g (n / b) (by omega) (by omega)]
theorem dig_zero (b : Nat) : dig b 0 = [] := rfl
theorem dig_pos (b n : Nat) (hb : 2 ≤ b) (hn : 0 < n) : dig b n = n % b :: dig b (n / b) := by
 cases n with
 | zero => omega
 | succ m =>
  show digF b (m + 1) (m + 1) = _
  have hlt : (m + 1) / b < m + 1 := Nat.div_lt_self (by omega) (by omega)
  simp only [digF]
  rw [if_neg (by omega), digF_fuel b hb m ((m + 1) / b) ((m + 1) / b) (by omega) (Nat.le_refl _)]
  rfl
theorem val_dig (b : Nat) (hb : 2 ≤ b) (n : Nat) : val b (dig b n) = n := by
 induction n using Nat.strongRecOn with
 | _ n ih =>
  by_cases h : n = 0
  ·subst h; rfl
  ·rw [dig_pos b n hb (by omega)]
   simp only [val]
   rw [ih (n / b) (Nat.div_lt_self (by omega) (by omega))]
   exact Nat.mod_add_div n b
theorem dig_lt (b : Nat) (hb : 2 ≤ b) (n : Nat) : ∀ d ∈ dig b n, d < b := by
 induction n using Nat.strongRecOn with
 | _ n ih =>
  by_cases h : n = 0
  ·subst h; simp [dig_zero]
  ·rw [dig_pos b n hb (by omega)]
   intro d hd
   rcases List.mem_cons.1 hd with rfl | hd
   ·exact Nat.mod_lt _ (by omega)
   ·exact ih (n / b) (Nat.div_lt_self (by omega) (by omega)) d hd
theorem val_append (b : Nat) (l m : List Nat) : val b (l ++ m) = val b l + b ^ l.length * val b m := by
 induction l with
 | nil => simp [val]
 | cons d l ih =>
  simp only [List.cons_append, val, ih, List.length_cons, Nat.pow_succ, Nat.mul_add]
  rw [Nat.add_assoc, Nat.mul_comm (b ^ l.length) b, Nat.mul_assoc]
theorem val_lt (b : Nat) (l : List Nat) (h : ∀ d ∈ l, d < b) : val b l < b ^ l.length := by
 induction l with
 | nil => simp [val]
 | cons d l ih =>
  have h1 := h d (List.mem_cons_self)
  have h2 := ih (fun e he => h e (List.mem_cons_of_mem _ he))
  simp only [val, List.length_cons, Nat.pow_succ]
  have h3 : b * (val b l + 1) ≤ b * b ^ l.length := Nat.mul_le_mul_left b h2
  rw [Nat.mul_comm (b ^ l.length) b]
  rw [Nat.mul_add] at h3
  omega
theorem val_snoc (b : Nat) (l : List Nat) (d : Nat) : val b (l ++ [d]) = val b l + b ^ l.length * d := by
 rw [val_append]; simp [val]
theorem dig_val (b : Nat) (hb : 2 ≤ b) (l : List Nat) (h : ∀ d ∈ l, d < b) (ht : l.getLast? ≠ some 0) : dig b (val b l) = l := by
 induction l with
 | nil => rfl
 | cons d l ih =>
  have h1 := h d (List.mem_cons_self)
  have h2 : ∀ e ∈ l, e < b := fun e he => h e (List.mem_cons_of_mem _ he)
  have hpos : 0 < val b (d :: l) := by
   cases l with
   | nil =>
    simp only [val]
    simp at ht
    omega
   | cons e l =>
    have ht' : (e :: l).getLast? ≠ some 0 := by simpa using ht
    have hne : val b (e :: l) ≠ 0 := by
     intro h0
     have := ih h2 ht'
     rw [h0, dig_zero] at this
     cases this
    simp only [val] at hne ⊢
    have : 0 < b * (e + b * val b l) := Nat.mul_pos (by omega) (by omega)
    omega
  rw [dig_pos b _ hb hpos]
  have hm : val b (d :: l) % b = d := by
   simp only [val]
   rw [Nat.add_mul_mod_self_left, Nat.mod_eq_of_lt h1]
  have hd : val b (d :: l) / b = val b l := by
   simp only [val]
   rw [Nat.add_mul_div_left _ _ (by omega), Nat.div_eq_of_lt h1, Nat.zero_add]
  rw [hm, hd]
  by_cases hl : l = []
  ·subst hl; rfl
  ·rw [ih h2]
   cases l with
   | nil => exact absurd rfl hl
   | cons e l => simpa using ht
theorem val_getD (b : Nat) (hb : 2 ≤ b) (l : List Nat) (h : ∀ d ∈ l, d < b) (i : Nat) : l.getD i 0 = val b l / b ^ i % b := by
 induction l generalizing i with
 | nil => simp [val]
 | cons d l ih =>
  have h1 := h d (List.mem_cons_self)
  have h2 : ∀ e ∈ l, e < b := fun e he => h e (List.mem_cons_of_mem _ he)
  cases i with
  | zero =>
   simp only [List.getD_cons_zero, val, Nat.pow_zero, Nat.div_one]
   rw [Nat.add_mul_mod_self_left, Nat.mod_eq_of_lt h1]
  | succ i =>
   simp only [List.getD_cons_succ, val]
   rw [ih h2 i, Nat.pow_succ, Nat.mul_comm (b ^ i) b, ← Nat.div_div_eq_div_mul, Nat.add_mul_div_left _ _ (by omega), Nat.div_eq_of_lt h1, Nat.zero_add]
def nd (b n : Nat) : Nat := (dig b n).length
theorem nd_zero (b : Nat) : nd b 0 = 0 := rfl
theorem lt_pow_nd (b : Nat) (hb : 2 ≤ b) (n : Nat) : n < b ^ nd b n := by
 have := val_lt b (dig b n) (dig_lt b hb n)
 rwa [val_dig b hb] at this
theorem nd_pos (b : Nat) (hb : 2 ≤ b) (n : Nat) (h : 0 < n) : 0 < nd b n := by
 unfold nd; rw [dig_pos b n hb h]; simp
theorem nd_succ (b : Nat) (hb : 2 ≤ b) (n : Nat) (h : 0 < n) : nd b n = nd b (n / b) + 1 := by
 unfold nd; rw [dig_pos b n hb h]; simp
theorem pow_nd_le (b : Nat) (hb : 2 ≤ b) (n : Nat) (h : 0 < n) : b ^ (nd b n - 1) ≤ n := by
 induction n using Nat.strongRecOn with
 | _ n ih =>
  rw [nd_succ b hb n h, Nat.add_sub_cancel]
  by_cases h2 : n / b = 0
  ·rw [h2, nd_zero, Nat.pow_zero]; exact h
  ·have h6 := Nat.pos_of_ne_zero h2
   have h3 := ih (n / b) (Nat.div_lt_self (by omega) (by omega)) h6
   have h4 := nd_pos b hb (n / b) h6
   have h5 : b ^ nd b (n / b) = b ^ (nd b (n / b) - 1) * b := by
    rw [← Nat.pow_succ]; congr 1; omega
   rw [h5]
   calc b ^ (nd b (n / b) - 1) * b ≤ n / b * b := Nat.mul_le_mul_right b h3
    _ ≤ n := Nat.div_mul_le_self n b
theorem nd_le (b : Nat) (hb : 2 ≤ b) (n k : Nat) (h : n < b ^ k) : nd b n ≤ k := by
 by_cases h0 : n = 0
 ·subst h0; simp [nd_zero]
 ·have h1 := pow_nd_le b hb n (by omega)
  have h2 : b ^ (nd b n - 1) < b ^ k := by omega
  have h3 := (Nat.pow_lt_pow_iff_right (show 1 < b by omega)).1 h2
  omega
theorem nd_mono (b : Nat) (hb : 2 ≤ b) (m n : Nat) (h : m ≤ n) : nd b m ≤ nd b n :=
 nd_le b hb m _ (Nat.lt_of_le_of_lt h (lt_pow_nd b hb n))
theorem lt_of_nd_lt (b : Nat) (hb : 2 ≤ b) (m n : Nat) (h : nd b m < nd b n) : m < n := by
 apply Nat.lt_of_not_le
 intro h2
 have := nd_mono b hb n m h2
 omega
theorem nd_of_bounds (b : Nat) (hb : 2 ≤ b) (n k : Nat) (h1 : b ^ k ≤ n) (h2 : n < b ^ (k + 1)) : nd b n = k + 1 := by
 have h3 := nd_le b hb n (k + 1) h2
 have h4 := lt_pow_nd b hb n
 have h5 : b ^ k < b ^ nd b n := by omega
 have h6 := (Nat.pow_lt_pow_iff_right (show 1 < b by omega)).1 h5
 omega
theorem dig_getD (b : Nat) (hb : 2 ≤ b) (n i : Nat) : (dig b n).getD i 0 = n / b ^ i % b := by
 rw [val_getD b hb _ (dig_lt b hb n), val_dig b hb]
end Vi

end
section
/- No program in sight: a number as the bytes of its magnitude, the highest one first, and back. -/
namespace Vi
def mag (n : Nat) : ByteArray := ⟨((dig 256 n).map UInt8.ofNat).reverse.toArray⟩
def low (s : ByteArray) : List Nat := (s.data.toList.map UInt8.toNat).reverse
def num (s : ByteArray) : Nat := val 256 (low s)
def Can (s : ByteArray) : Prop := s.data.toList.head? ≠ some 0
def sg (z : Int) : Bool := decide (z < 0)
def mg (z : Int) : ByteArray := mag z.natAbs
theorem toList_data (s : ByteArray) : s.toList = s.data.toList := by
 have h : ∀ (k i : Nat) (r : List UInt8), k = s.size - i → ByteArray.toList.loop s i r = r.reverse ++ s.data.toList.drop i := by
  intro k
  induction k with
  | zero =>
   intro i r hk
   unfold ByteArray.toList.loop
   have hi : ¬ i < s.size := by omega
   have h2 : s.data.toList.length ≤ i := by show s.data.size ≤ i; have : s.size = s.data.size := rfl; omega
   rw [if_neg hi, List.drop_of_length_le h2, List.append_nil]
  | succ k ih =>
   intro i r hk
   unfold ByteArray.toList.loop
   have hi : i < s.size := by omega
   have h2 : i < s.data.toList.length := hi
   rw [if_pos hi, ih (i + 1) _ (by omega), List.drop_eq_getElem_cons h2]
   have e : s.get! i = s.data.toList[i] := by
    show s.data[i]! = _
    have h3 : i < s.data.size := hi
    rw [getElem!_pos s.data i h3, Array.getElem_toList]
   rw [e]; simp
 have := h s.size 0 [] (by omega)
 simpa [ByteArray.toList] using this
theorem size_mag (n : Nat) : (mag n).size = nd 256 n := by
 show ((List.map UInt8.ofNat (dig 256 n)).reverse.toArray).size = _
 simp [nd]
theorem data_mag (n : Nat) : (mag n).data.toList = ((dig 256 n).map UInt8.ofNat).reverse := rfl
theorem low_mag (n : Nat) : low (mag n) = dig 256 n := by
 unfold low
 rw [data_mag, List.map_reverse, List.reverse_reverse, List.map_map]
 have : ∀ d ∈ dig 256 n, (UInt8.toNat ∘ UInt8.ofNat) d = d := by
  intro d hd
  have := dig_lt 256 (by omega) n d hd
  simp; omega
 rw [List.map_congr_left this, List.map_id'']
 intro x; rfl
theorem num_mag (n : Nat) : num (mag n) = n := by
 unfold num; rw [low_mag, val_dig 256 (by omega)]
theorem low_lt (s : ByteArray) : ∀ d ∈ low s, d < 256 := by
 intro d hd
 unfold low at hd
 rw [List.mem_reverse, List.mem_map] at hd
 obtain ⟨b, _, rfl⟩ := hd
 exact b.toNat_lt
theorem low_length (s : ByteArray) : (low s).length = s.size := by
 unfold low; rw [List.length_reverse, List.length_map]; rfl
theorem mag_num (s : ByteArray) (h : Can s) : mag (num s) = s := by
 have h1 : dig 256 (num s) = low s := by
  apply dig_val 256 (by omega) _ (low_lt s)
  unfold low
  rw [List.getLast?_reverse, List.head?_map]
  intro h2
  unfold Can at h
  cases h3 : s.data.toList.head? with
  | none => rw [h3] at h2; cases h2
  | some b =>
   rw [h3] at h2 h
   simp only [Option.map_some, Option.some.injEq] at h2
   apply h
   congr 1
   exact UInt8.toNat_inj.1 (by rw [h2]; rfl)
 have h2 : (mag (num s)).data = s.data := by
  apply Array.toList_inj.1
  rw [data_mag, h1]
  unfold low
  rw [List.map_reverse, List.reverse_reverse, List.map_map]
  have : ∀ b ∈ s.data.toList, (UInt8.ofNat ∘ UInt8.toNat) b = b := fun b _ => by simp
  rw [List.map_congr_left this, List.map_id'']
  intro x; rfl
 cases s; cases hm : mag _; rw [hm] at h2; simp at h2; rw [h2]
theorem mag_inj {a b : Nat} (h : mag a = mag b) : a = b := by
 have := congrArg num h
 rwa [num_mag, num_mag] at this
theorem mag_zero : mag 0 = ⟨#[]⟩ := rfl
theorem mag_isEmpty (n : Nat) : (mag n).toList.isEmpty = (n == 0) := by
 rw [toList_data, data_mag]
 by_cases h : n = 0
 ·subst h; rfl
 ·rw [dig_pos 256 n (by omega) (by omega), beq_eq_false_iff_ne.2 h]
  simp
theorem byte_inj {s t : ByteArray} (h : s.toList = t.toList) : s = t := by
 rw [toList_data, toList_data] at h
 have := Array.toList_inj.1 h
 cases s; cases t; simp at this; rw [this]
theorem get_low (s : ByteArray) (k : Nat) (h : k < s.size) : (s[k]'h).toNat = (low s).getD (s.size - 1 - k) 0 := by
 have hl : s.data.toList.length = s.size := rfl
 have e : (s[k]'h) = s.data.toList[k]'h := rfl
 unfold low
 rw [List.getD_eq_getElem?_getD, List.getElem?_reverse (by rw [List.length_map]; omega), List.length_map, hl]
 rw [List.getElem?_map, show s.size - 1 - (s.size - 1 - k) = k by omega, List.getElem?_eq_getElem (by omega), e]
 rfl
theorem get_num (s : ByteArray) (k : Nat) (h : k < s.size) : (s[k]'h).toNat = num s / 256 ^ (s.size - 1 - k) % 256 := by
 rw [get_low s k h, val_getD 256 (by omega) _ (low_lt s)]; rfl
theorem get_mag (n k : Nat) (h : k < (mag n).size) : ((mag n)[k]'h).toNat = n / 256 ^ ((mag n).size - 1 - k) % 256 := by
 rw [get_num, num_mag]
theorem num_lt (s : ByteArray) : num s < 256 ^ s.size := by
 have := val_lt 256 (low s) (low_lt s)
 rwa [low_length] at this
theorem size_mag_le (n k : Nat) (h : n < 256 ^ k) : (mag n).size ≤ k := by
 rw [size_mag]; exact nd_le 256 (by omega) n k h
theorem lt_of_size_mag (n k : Nat) (h : (mag n).size ≤ k) : n < 256 ^ k := by
 rw [size_mag] at h
 have := lt_pow_nd 256 (by omega) n
 exact Nat.lt_of_lt_of_le this (Nat.pow_le_pow_right (by omega) h)
theorem mg_nat (n : Nat) : mg (n : Int) = mag n := rfl
theorem mg_neg (n : Nat) : mg (-(n : Int)) = mag n := by unfold mg; rw [Int.natAbs_neg]; rfl
theorem sg_nat (n : Nat) : sg (n : Int) = false := by unfold sg; simp
theorem mg_isEmpty (z : Int) : (mg z).toList.isEmpty = (z == 0) := by
 unfold mg; rw [mag_isEmpty]
 by_cases h : z = 0
 ·subst h; rfl
 ·rw [beq_eq_false_iff_ne.2 h, beq_eq_false_iff_ne]; omega
theorem int_inj {x y : Int} (h1 : sg x = sg y) (h2 : mg x = mg y) : x = y := by
 have := mag_inj h2
 unfold sg at h1
 simp only [decide_eq_decide] at h1
 omega
theorem int_beq (x y : Int) : (sg x == sg y && (mg x).toList == (mg y).toList) = (x == y) := by
 by_cases h : x = y
 ·subst h; simp
 ·rw [beq_eq_false_iff_ne.2 h]
  cases h1 : (sg x == sg y) with
  | false => simp
  | true =>
   simp only [Bool.true_and, beq_eq_false_iff_ne]
   intro h2; exact h (int_inj (by simpa using h1) (byte_inj h2))
end Vi

end
section
/- No program in sight: fractions (Lean's Rat) as pairs of integers, a denominator of 1 written as 0. -/
namespace Vi
def dn (q : Rat) : Int := if q.den = 1 then 0 else (q.den : Int)
def dd (e : Int) : Int := if e = 0 then 1 else e
theorem dd_dn (q : Rat) : dd (dn q) = (q.den : Int) := by
 have h := q.den_nz
 unfold dd dn
 split <;> split <;> omega
theorem den_pos (q : Rat) : 0 < (q.den : Int) := by have := q.den_nz; omega
theorem rat_ext {p q : Rat} (h1 : p.num = q.num) (h2 : dn p = dn q) : p = q := by
 apply Rat.ext h1
 have := congrArg dd h2
 rw [dd_dn, dd_dn] at this
 omega
theorem dn_inj {p q : Rat} (h : dn p = dn q) : p.den = q.den := by
 have := congrArg dd h
 rw [dd_dn, dd_dn] at this
 omega
theorem rat_beq (p q : Rat) : (p.num == q.num && dn p == dn q) = decide (p = q) := by
 by_cases h : p = q
 ·subst h; simp
 ·have : ¬ (p.num = q.num ∧ dn p = dn q) := fun ⟨h1, h2⟩ => h (rat_ext h1 h2)
  simp only [h, decide_false, Bool.and_eq_false_iff, beq_eq_false_iff_ne]
  by_cases h1 : p.num = q.num
  ·exact .inr fun h2 => this ⟨h1, h2⟩
  ·exact .inl h1
def gg (n d : Int) : Int := (Nat.gcd n.natAbs d.natAbs : Nat)
theorem gg_pos (n d : Int) (hd : d ≠ 0) : 0 < gg n d := by
 unfold gg
 have := Nat.gcd_pos_of_pos_right n.natAbs (show 0 < d.natAbs by omega)
 omega
theorem num_of (n d : Int) (hd : 0 < d) : (Rat.divInt n d).num = n / gg n d := by
 rw [Rat.num_divInt, Int.sign_eq_one_of_pos hd, Int.one_mul]
 unfold gg Int.gcd
 rw [Nat.gcd_comm]
theorem den_of (n d : Int) (hd : 0 < d) : ((Rat.divInt n d).den : Int) = d / gg n d := by
 rw [Rat.den_divInt, if_neg (by omega)]
 unfold gg Int.gcd
 rw [Nat.gcd_comm, Int.natCast_ediv]
 congr 1
 omega
theorem neg_of (n d : Int) : Rat.divInt (-n) (-d) = Rat.divInt n d := Rat.neg_divInt_neg n d
theorem divInt_num (q : Rat) : Rat.divInt q.num (q.den : Int) = q := Rat.num_divInt_den q
def Sz (k : Nat) (q : Rat) : Prop := q.num.natAbs < 256 ^ k ∧ q.den < 256 ^ k
theorem Sz.mono {k m : Nat} {q : Rat} (h : Sz k q) (hkm : k ≤ m) : Sz m q :=
 have := Nat.pow_le_pow_right (show 0 < 256 by omega) hkm
 ⟨Nat.lt_of_lt_of_le h.1 this, Nat.lt_of_lt_of_le h.2 this⟩
theorem Sz.num {k : Nat} {q : Rat} (h : Sz k q) : (mg q.num).size ≤ k := size_mag_le _ k h.1
theorem Sz.den {k : Nat} {q : Rat} (h : Sz k q) : (mg (q.den : Int)).size ≤ k := size_mag_le _ k (by rw [Int.natAbs_natCast]; exact h.2)
theorem Sz.dn {k : Nat} {q : Rat} (h : Sz k q) : (mg (dn q)).size ≤ k := by
 apply size_mag_le
 unfold Vi.dn
 split
 ·exact Nat.pow_pos (by omega)
 ·rw [Int.natAbs_natCast]; exact h.2
theorem Sz.of (n d : Int) (k : Nat) (hd : d ≠ 0) (hn : n.natAbs < 256 ^ k) (hdk : d.natAbs < 256 ^ k) : Sz k (Rat.divInt n d) := by
 have key : ∀ n d : Int, 0 < d → n.natAbs < 256 ^ k → d.natAbs < 256 ^ k → Sz k (Rat.divInt n d) := by
  intro n d hd hn hdk
  have hg := gg_pos n d (by omega)
  constructor
  ·rw [num_of n d hd]
   refine Nat.lt_of_le_of_lt ?_ hn
   have : (n / gg n d).natAbs = n.natAbs / (gg n d).natAbs := by
    have hdv : gg n d ∣ n := by
     unfold gg
     exact Int.ofNat_dvd_left.2 (Nat.gcd_dvd_left _ _)
    exact Int.natAbs_ediv_of_dvd hdv
   rw [this]
   exact Nat.div_le_self _ _
  ·have h1 := den_of n d hd
   have h2 : d / gg n d ≤ d := Int.ediv_le_self _ (by omega)
   omega
 rcases Int.lt_or_lt_of_ne hd with h | h
 ·rw [← neg_of]
  exact key (-n) (-d) (by omega) (by omega) (by omega)
 ·exact key n d h hn hdk
theorem natAbs_mul_lt' {x y : Int} {i j : Nat} (hx : x.natAbs < 256 ^ i) (hy : y.natAbs < 256 ^ j) : (x * y).natAbs < 256 ^ (i + j) := by
 rw [Int.natAbs_mul, Nat.pow_add]
 exact Nat.mul_lt_mul_of_lt_of_lt hx hy
theorem natAbs_add_lt' {x y : Int} {i : Nat} (hx : x.natAbs < 256 ^ i) (hy : y.natAbs < 256 ^ i) : (x + y).natAbs < 256 ^ (i + 1) := by
 have := Int.natAbs_add_le x y
 rw [Nat.pow_succ]; omega
theorem add_of (p q : Rat) : p + q = Rat.divInt (p.num * q.den + q.num * p.den) (p.den * q.den) := by
 rw [Rat.add_def', ← Rat.divInt_ofNat, Int.natCast_mul]
theorem mul_of (p q : Rat) : p * q = Rat.divInt (p.num * q.num) (p.den * q.den) := by
 rw [Rat.mul_def', ← Rat.divInt_ofNat, Int.natCast_mul]
theorem div_of (p q : Rat) : p / q = Rat.divInt (p.num * q.den) (p.den * q.num) := by
 rw [Rat.div_def, Rat.inv_def, ← divInt_num p, Rat.divInt_mul_divInt, divInt_num]
theorem Sz.add {i j : Nat} {p q : Rat} (hp : Sz i p) (hq : Sz j q) : Sz (i + j + 1) (p + q) := by
 rw [add_of]
 have hd : (p.den : Int) * (q.den : Int) ≠ 0 := Int.mul_ne_zero (by have := den_pos p; omega) (by have := den_pos q; omega)
 have h1 : (p.num * q.den).natAbs < 256 ^ (i + j) := natAbs_mul_lt' hp.1 (by simpa using hq.2)
 have h2 : (q.num * p.den).natAbs < 256 ^ (i + j) := by
  have := natAbs_mul_lt' (x := q.num) (y := (p.den : Int)) hq.1 (by simpa using hp.2)
  rwa [Nat.add_comm] at this
 have h3 : ((p.den : Int) * (q.den : Int)).natAbs < 256 ^ (i + j) := natAbs_mul_lt' (by simpa using hp.2) (by simpa using hq.2)
 refine Sz.of _ _ _ hd (natAbs_add_lt' h1 h2) ?_
 rw [Nat.pow_succ]; omega
theorem Sz.mul {i j : Nat} {p q : Rat} (hp : Sz i p) (hq : Sz j q) : Sz (i + j) (p * q) := by
 rw [mul_of]
 have hd : (p.den : Int) * (q.den : Int) ≠ 0 := Int.mul_ne_zero (by have := den_pos p; omega) (by have := den_pos q; omega)
 exact Sz.of _ _ _ hd (natAbs_mul_lt' hp.1 hq.1) (natAbs_mul_lt' (by simpa using hp.2) (by simpa using hq.2))
theorem Sz.neg {i : Nat} {p : Rat} (hp : Sz i p) : Sz i (-p) := ⟨by rw [Rat.neg_num, Int.natAbs_neg]; exact hp.1, by rw [Rat.neg_den]; exact hp.2⟩
theorem Sz.sub {i j : Nat} {p q : Rat} (hp : Sz i p) (hq : Sz j q) : Sz (i + j + 1) (p - q) := by
 rw [Rat.sub_eq_add_neg]; exact hp.add hq.neg
theorem Sz.div {i j : Nat} {p q : Rat} (hp : Sz i p) (hq : Sz j q) (h0 : q.num ≠ 0) : Sz (i + j) (p / q) := by
 rw [div_of]
 have hd : (p.den : Int) * q.num ≠ 0 := Int.mul_ne_zero (by have := den_pos p; omega) h0
 exact Sz.of _ _ _ hd (natAbs_mul_lt' hp.1 (by simpa using hq.2)) (natAbs_mul_lt' (by simpa using hp.2) hq.1)
theorem dn_neg (q : Rat) : dn (-q) = dn q := rfl
end Vi

end
section
/-
  DERIVED: THE SHELF's CONTRACTS AT THIS DUMP, IN PLAIN WORDS (tools/lay-plain.mjs out of 'TryzShelf.lean', which tools/lay-shelf.mjs wrote): THE SAME DECLARATIONS UNDER THE SAME NAMES: 'import', 'namespace', 'open', 'def', 'theorem' AND NOTHING ELSE: no command of the shelf's: FOR A HAND-IN. Each laying: the table of numbers ('.._ren') and one theorem, a field a fact of the dump's own or the kernel's comparison; each contract: ONE APPLICATION.
-/
namespace Go.Proofs
open Go.Shelf
def Tryz.lays161_ren : Go.Shelf.Ren := ⟨fun | 161 => 218 | 231 => 229 | 227 => 230 | 233 => 231 | 235 => 232 | 228 => 238 | 197 => 239 | 151 => 240 | 260 => 243 | 152 => 244 | 137 => 245 | 119 => 246 | 224 => 247 | 225 => 248 | 217 => 249 | 266 => 250 | n => n, fun | 9 => 9 | 4 => 4 | 3 => 3 | 5 => 5 | 117 => 263 | 116 => 262 | 0 => 0 | 124 => 266 | 105 => 271 | 21 => 21 | 119 => 278 | 46 => 229 | 139 => 281 | 138 => 280 | n => n, fun | 3 => 1 | 4 => 2 | n => n⟩
theorem Tryz.lays161 : Go.Proofs.Lays.n161 Tryz.prog Tryz.lays161_ren := {
  mixed := by kernel_rfl
  f119 := Tryz.func246.trans (congrArg some (by kernel_rfl))
  f137 := Tryz.func245.trans (congrArg some (by kernel_rfl))
  f151 := Tryz.func240.trans (congrArg some (by kernel_rfl))
  f152 := Tryz.func244.trans (congrArg some (by kernel_rfl))
  f161 := Tryz.func218.trans (congrArg some (by kernel_rfl))
  f197 := Tryz.func239.trans (congrArg some (by kernel_rfl))
  f217 := Tryz.func249.trans (congrArg some (by kernel_rfl))
  f224 := Tryz.func247.trans (congrArg some (by kernel_rfl))
  f225 := Tryz.func248.trans (congrArg some (by kernel_rfl))
  f227 := Tryz.func230.trans (congrArg some (by kernel_rfl))
  f228 := Tryz.func238.trans (congrArg some (by kernel_rfl))
  f231 := Tryz.func229.trans (congrArg some (by kernel_rfl))
  f233 := Tryz.func231.trans (congrArg some (by kernel_rfl))
  f235 := Tryz.func232.trans (congrArg some (by kernel_rfl))
  f260 := Tryz.func243.trans (congrArg some (by kernel_rfl))
  f266 := Tryz.func250.trans (congrArg some (by kernel_rfl))
  t0 := Tryz.underlying0
  a0 := Tryz.isAgg0
  z0 := Tryz.sizeOf0
  v0 := Tryz.zeroValue0
  t3 := Tryz.underlying3
  a3 := Tryz.isAgg3
  z3 := Tryz.sizeOf3
  v3 := Tryz.zeroValue3
  t4 := Tryz.underlying4
  a4 := Tryz.isAgg4
  z4 := Tryz.sizeOf4
  v4 := Tryz.zeroValue4
  t5 := Tryz.underlying5
  a5 := Tryz.isAgg5
  z5 := Tryz.sizeOf5
  v5 := Tryz.zeroValue5
  t9 := Tryz.underlying9
  a9 := Tryz.isAgg9
  z9 := Tryz.sizeOf9
  v9 := Tryz.zeroValue9
  t21 := Tryz.underlying21
  a21 := Tryz.isAgg21
  z21 := Tryz.sizeOf21
  v21 := Tryz.zeroValue21
  t46 := Tryz.underlying229
  a46 := Tryz.isAgg229
  z46 := Tryz.sizeOf229
  v46 := Tryz.zeroValue229
  t105 := Tryz.underlying271
  a105 := Tryz.isAgg271
  z105 := Tryz.sizeOf271
  v105 := Tryz.zeroValue271
  t116 := Tryz.underlying262
  a116 := Tryz.isAgg262
  z116 := Tryz.sizeOf262
  t117 := Tryz.underlying263
  a117 := Tryz.isAgg263
  z117 := Tryz.sizeOf263
  v117 := Tryz.zeroValue263
  t119 := Tryz.underlying278
  a119 := Tryz.isAgg278
  z119 := Tryz.sizeOf278
  t124 := Tryz.underlying266
  a124 := Tryz.isAgg266
  z124 := Tryz.sizeOf266
  v124 := Tryz.zeroValue266
  t138 := Tryz.underlying280
  a138 := Tryz.isAgg280
  z138 := Tryz.sizeOf280
  v138 := Tryz.zeroValue280
  t139 := Tryz.underlying281
  a139 := Tryz.isAgg281
  z139 := Tryz.sizeOf281
  v139 := Tryz.zeroValue281
  g3 := by kernel_rfl
  g4 := by kernel_rfl }
open Go.RowKit in
theorem Tryz.strings_TrimLeft_one (s : ByteArray) (c : UInt8) (hc : c.toNat < 128) (w : World) :
    Calls Tryz.prog 218 #[.string s, .string ⟨#[c]⟩] w fun e w' => e = .returned (.string ⟨(Lib.trimLeftB s.data.toList c).toArray⟩) ∧ w' = w := Any.strings_TrimLeft_one Tryz.lays161 s c hc w
def Tryz.lays126_ren : Go.Shelf.Ren := ⟨fun | 126 => 215 | n => n, fun | 5 => 5 | 3 => 3 | 9 => 9 | n => n, fun | n => n⟩
theorem Tryz.lays126 : Go.Proofs.Lays.n126 Tryz.prog Tryz.lays126_ren := {
  mixed := by kernel_rfl
  f126 := Tryz.func215.trans (congrArg some (by kernel_rfl))
  t3 := Tryz.underlying3
  a3 := Tryz.isAgg3
  z3 := Tryz.sizeOf3
  v3 := Tryz.zeroValue3
  t5 := Tryz.underlying5
  a5 := Tryz.isAgg5
  z5 := Tryz.sizeOf5
  v5 := Tryz.zeroValue5
  t9 := Tryz.underlying9
  a9 := Tryz.isAgg9
  z9 := Tryz.sizeOf9
  v9 := Tryz.zeroValue9 }
theorem Tryz.bits_Len8 (x : Int) (w : World) (h0 : 0 ≤ x) (h1 : x ≤ 255) :
    Calls Tryz.prog 215 #[.int .u8 x] w fun e w' => e = .returned (.int .i64 (Lib.bitLen x.toNat)) ∧ w' = w := Any.bits_Len8 Tryz.lays126 x w h0 h1
def Tryz.lays133_ren : Go.Shelf.Ren := ⟨fun | 133 => 213 | 128 => 222 | n => n, fun | 51 => 228 | 3 => 3 | 4 => 4 | 46 => 229 | 5 => 5 | 9 => 9 | n => n, fun | n => n⟩
theorem Tryz.lays133 : Go.Proofs.Lays.n133 Tryz.prog Tryz.lays133_ren := {
  mixed := by kernel_rfl
  f128 := Tryz.func222.trans (congrArg some (by kernel_rfl))
  f133 := Tryz.func213.trans (congrArg some (by kernel_rfl))
  t3 := Tryz.underlying3
  a3 := Tryz.isAgg3
  z3 := Tryz.sizeOf3
  v3 := Tryz.zeroValue3
  t4 := Tryz.underlying4
  a4 := Tryz.isAgg4
  z4 := Tryz.sizeOf4
  v4 := Tryz.zeroValue4
  t5 := Tryz.underlying5
  a5 := Tryz.isAgg5
  z5 := Tryz.sizeOf5
  v5 := Tryz.zeroValue5
  t9 := Tryz.underlying9
  a9 := Tryz.isAgg9
  z9 := Tryz.sizeOf9
  v9 := Tryz.zeroValue9
  t46 := Tryz.underlying229
  a46 := Tryz.isAgg229
  z46 := Tryz.sizeOf229
  v46 := Tryz.zeroValue229
  t51 := Tryz.underlying228
  a51 := Tryz.isAgg228
  z51 := Tryz.sizeOf228
  v51 := Tryz.zeroValue228 }
theorem Tryz.bits_LeadingZeros32 (x : Int) (w : World) (h0 : 0 ≤ x) (h1 : x ≤ 4294967295) :
    Calls Tryz.prog 213 #[.int .u32 x] w fun e w' => e = .returned (.int .i64 (32 - (Lib.bitLen x.toNat : Int))) ∧ w' = w := Any.bits_LeadingZeros32 Tryz.lays133 x w h0 h1
def Tryz.lays106_ren : Go.Shelf.Ren := ⟨fun | 106 => 207 | 213 => 221 | 265 => 233 | n => n, fun | 9 => 9 | 3 => 3 | n => n, fun | n => n⟩
theorem Tryz.lays106 : Go.Proofs.Lays.n106 Tryz.prog Tryz.lays106_ren := {
  mixed := by kernel_rfl
  f106 := Tryz.func207.trans (congrArg some (by kernel_rfl))
  f213 := Tryz.func221.trans (congrArg some (by kernel_rfl))
  f265 := Tryz.func233.trans (congrArg some (by kernel_rfl))
  t3 := Tryz.underlying3
  a3 := Tryz.isAgg3
  z3 := Tryz.sizeOf3
  v3 := Tryz.zeroValue3
  t9 := Tryz.underlying9
  a9 := Tryz.isAgg9
  z9 := Tryz.sizeOf9
  v9 := Tryz.zeroValue9 }
open Go.RowKit in
theorem Tryz.strings_Compare (a b : ByteArray) (w : World) :
    Calls Tryz.prog 207 #[.string a, .string b] w fun e w' => e = .returned (.int .i64 (Lib.compareBytes a.data.toList b.data.toList)) ∧ w' = w := Any.strings_Compare Tryz.lays106 a b w
def Tryz.lays122_ren : Go.Shelf.Ren := ⟨fun | 122 => 187 | 215 => 210 | n => n, fun | 3 => 3 | 4 => 4 | n => n, fun | n => n⟩
theorem Tryz.lays122 : Go.Proofs.Lays.n122 Tryz.prog Tryz.lays122_ren := {
  mixed := by kernel_rfl
  f122 := Tryz.func187.trans (congrArg some (by kernel_rfl))
  f215 := Tryz.func210.trans (congrArg some (by kernel_rfl))
  t3 := Tryz.underlying3
  a3 := Tryz.isAgg3
  z3 := Tryz.sizeOf3
  v3 := Tryz.zeroValue3
  t4 := Tryz.underlying4
  a4 := Tryz.isAgg4
  z4 := Tryz.sizeOf4
  v4 := Tryz.zeroValue4 }
open Go.RowKit in
theorem Tryz.cmp_Compare_int (x y : Int) (w : World) :
    Calls Tryz.prog 187 #[.int .i64 x, .int .i64 y] w fun e w' => e = .returned (.int .i64 (Lib.compareInt x y)) ∧ w' = w := Any.cmp_Compare_int Tryz.lays122 x y w
def Tryz.lays129_ren : Go.Shelf.Ren := ⟨fun | 129 => 192 | n => n, fun | 53 => 201 | 3 => 3 | 4 => 4 | 46 => 229 | 5 => 5 | 9 => 9 | n => n, fun | n => n⟩
theorem Tryz.lays129 : Go.Proofs.Lays.n129 Tryz.prog Tryz.lays129_ren := {
  mixed := by kernel_rfl
  f129 := Tryz.func192.trans (congrArg some (by kernel_rfl))
  t3 := Tryz.underlying3
  a3 := Tryz.isAgg3
  z3 := Tryz.sizeOf3
  v3 := Tryz.zeroValue3
  t4 := Tryz.underlying4
  a4 := Tryz.isAgg4
  z4 := Tryz.sizeOf4
  v4 := Tryz.zeroValue4
  t5 := Tryz.underlying5
  a5 := Tryz.isAgg5
  z5 := Tryz.sizeOf5
  v5 := Tryz.zeroValue5
  t9 := Tryz.underlying9
  a9 := Tryz.isAgg9
  z9 := Tryz.sizeOf9
  v9 := Tryz.zeroValue9
  t46 := Tryz.underlying229
  a46 := Tryz.isAgg229
  z46 := Tryz.sizeOf229
  v46 := Tryz.zeroValue229
  t53 := Tryz.underlying201
  a53 := Tryz.isAgg201
  z53 := Tryz.sizeOf201
  v53 := Tryz.zeroValue201 }
theorem Tryz.bits_Len64 (x : Int) (w : World) (h0 : 0 ≤ x) (h1 : x ≤ 18446744073709551615) :
    Calls Tryz.prog 192 #[.int .u64 x] w fun e w' => e = .returned (.int .i64 (Lib.bitLen x.toNat)) ∧ w' = w := Any.bits_Len64 Tryz.lays129 x w h0 h1
def Tryz.lays264_ren : Go.Shelf.Ren := ⟨fun | 264 => 193 | n => n, fun | 53 => 201 | 46 => 229 | n => n, fun | n => n⟩
theorem Tryz.lays264 : Go.Proofs.Lays.n264 Tryz.prog Tryz.lays264_ren := {
  mixed := by kernel_rfl
  f264 := Tryz.func193.trans (congrArg some (by kernel_rfl))
  t46 := Tryz.underlying229
  a46 := Tryz.isAgg229
  z46 := Tryz.sizeOf229
  v46 := Tryz.zeroValue229
  t53 := Tryz.underlying201
  a53 := Tryz.isAgg201
  z53 := Tryz.sizeOf201
  v53 := Tryz.zeroValue201 }
open Go.RowKit Go.Lib in
theorem Tryz.bits_Mul64 (x y : Nat) (hx : x < 18446744073709551616) (hy : y < 18446744073709551616) (w : World) :
    Calls Tryz.prog 193 #[.int .u64 x, .int .u64 y] w fun e w' => e = .returned (.tuple #[.int .u64 ((x * y / 18446744073709551616 : Nat) : Int), .int .u64 ((x * y % 18446744073709551616 : Nat) : Int)]) ∧ w' = w := Any.bits_Mul64 Tryz.lays264 x y hx hy w
def Tryz.lays105_ren : Go.Shelf.Ren := ⟨fun | 105 => 216 | 212 => 223 | 99 => 224 | 165 => 225 | 166 => 226 | 170 => 227 | 169 => 228 | 263 => 234 | 264 => 193 | 206 => 235 | 240 => 236 | 241 => 237 | 276 => 241 | 277 => 242 | n => n, fun | 9 => 9 | 3 => 3 | 4 => 4 | 20 => 20 | 0 => 0 | 46 => 229 | 109 => 248 | 5 => 5 | 72 => 253 | 76 => 257 | 51 => 228 | 146 => 267 | 53 => 201 | 148 => 223 | 70 => 251 | 37 => 184 | 75 => 256 | 127 => 269 | 164 => 274 | 80 => 230 | n => n, fun | n => n⟩
theorem Tryz.lays105 : Go.Proofs.Lays.n105 Tryz.prog Tryz.lays105_ren := {
  mixed := by kernel_rfl
  f99 := Tryz.func224.trans (congrArg some (by kernel_rfl))
  f105 := Tryz.func216.trans (congrArg some (by kernel_rfl))
  f165 := Tryz.func225.trans (congrArg some (by kernel_rfl))
  f166 := Tryz.func226.trans (congrArg some (by kernel_rfl))
  f169 := Tryz.func228.trans (congrArg some (by kernel_rfl))
  f170 := Tryz.func227.trans (congrArg some (by kernel_rfl))
  f206 := Tryz.func235.trans (congrArg some (by kernel_rfl))
  f212 := Tryz.func223.trans (congrArg some (by kernel_rfl))
  f240 := Tryz.func236.trans (congrArg some (by kernel_rfl))
  f241 := Tryz.func237.trans (congrArg some (by kernel_rfl))
  f263 := Tryz.func234.trans (congrArg some (by kernel_rfl))
  f264 := Tryz.func193.trans (congrArg some (by kernel_rfl))
  f276 := Tryz.func241.trans (congrArg some (by kernel_rfl))
  f277 := Tryz.func242.trans (congrArg some (by kernel_rfl))
  t0 := Tryz.underlying0
  a0 := Tryz.isAgg0
  z0 := Tryz.sizeOf0
  v0 := Tryz.zeroValue0
  t3 := Tryz.underlying3
  a3 := Tryz.isAgg3
  z3 := Tryz.sizeOf3
  v3 := Tryz.zeroValue3
  t4 := Tryz.underlying4
  a4 := Tryz.isAgg4
  z4 := Tryz.sizeOf4
  v4 := Tryz.zeroValue4
  t5 := Tryz.underlying5
  a5 := Tryz.isAgg5
  z5 := Tryz.sizeOf5
  v5 := Tryz.zeroValue5
  t9 := Tryz.underlying9
  a9 := Tryz.isAgg9
  z9 := Tryz.sizeOf9
  v9 := Tryz.zeroValue9
  t20 := Tryz.underlying20
  a20 := Tryz.isAgg20
  z20 := Tryz.sizeOf20
  v20 := Tryz.zeroValue20
  t37 := Tryz.underlying184
  a37 := Tryz.isAgg184
  z37 := Tryz.sizeOf184
  v37 := Tryz.zeroValue184
  t46 := Tryz.underlying229
  a46 := Tryz.isAgg229
  z46 := Tryz.sizeOf229
  v46 := Tryz.zeroValue229
  t51 := Tryz.underlying228
  a51 := Tryz.isAgg228
  z51 := Tryz.sizeOf228
  v51 := Tryz.zeroValue228
  t53 := Tryz.underlying201
  a53 := Tryz.isAgg201
  z53 := Tryz.sizeOf201
  v53 := Tryz.zeroValue201
  t70 := Tryz.underlying251
  a70 := Tryz.isAgg251
  z70 := Tryz.sizeOf251
  v70 := Tryz.zeroValue251
  t72 := Tryz.underlying253
  a72 := Tryz.isAgg253
  z72 := Tryz.sizeOf253
  v72 := Tryz.zeroValue253
  t75 := Tryz.underlying256
  a75 := Tryz.isAgg256
  z75 := Tryz.sizeOf256
  v75 := Tryz.zeroValue256
  t76 := Tryz.underlying257
  a76 := Tryz.isAgg257
  z76 := Tryz.sizeOf257
  v76 := Tryz.zeroValue257
  t109 := Tryz.underlying248
  a109 := Tryz.isAgg248
  z109 := Tryz.sizeOf248
  v109 := Tryz.zeroValue248
  t127 := Tryz.underlying269
  a127 := Tryz.isAgg269
  z127 := Tryz.sizeOf269
  v127 := Tryz.zeroValue269
  t146 := Tryz.underlying267
  a146 := Tryz.isAgg267
  z146 := Tryz.sizeOf267
  v146 := Tryz.zeroValue267
  t148 := Tryz.underlying223
  a148 := Tryz.isAgg223
  z148 := Tryz.sizeOf223
  v148 := Tryz.zeroValue223
  t164 := Tryz.underlying274
  a164 := Tryz.isAgg274
  z164 := Tryz.sizeOf274
  v164 := Tryz.zeroValue274 }
theorem Tryz.Builder_Extra_105 : Builder.Extra Tryz.prog Tryz.lays105_ren := {
  sizeBuilder := by kernel_rfl
  liesBuilder := by kernel_rfl
  t5 := Tryz.underlying5
  a5 := Tryz.isAgg5
  z5 := Tryz.sizeOf5
  v5 := Tryz.zeroValue5
  infoByte := by kernel_rfl
  cellsByte := by kernel_rfl
  sizeByte := by kernel_rfl
  neB5 := by decide }
open Go.RowKit Go.Lib in
theorem Tryz.strings_Repeat (s : ByteArray) (c : Nat) (w : World) (hc : c ≤ 9223372036854775807) (hlen : s.size * c ≤ 140737488355328) :
    Calls Tryz.prog 216 #[.string s, .int .i64 c] w fun e w' => e = .returned (.string ⟨(Lib.repeatL s.data.toList c).toArray⟩) ∧ Below w.heap.size w w' := Any.strings_Repeat Tryz.lays105 Tryz.Builder_Extra_105 s c w hc hlen
end Go.Proofs

end
section
/- No program in sight: a region that draws its order, whose operations read old cells, reckon, and call functions that leave all old blocks as they were, is walked once, in the order of the text; the last operations (stores) may follow in their one order.
   The world behind such a call is 'w.plus u': the blocks of w, and behind them whatever u holds there. -/
namespace Go
open Go.RowKit
def World.plus (w u : World) : World :=
 { heap := w.heap ++ u.heap.extract w.heap.size u.heap.size, tape := w.tape, drawn := u.drawn, os := w.os, output := w.output }
section
variable (w u : World)
theorem World.heap_plus (k : Nat) (h : k < w.heap.size) : (w.plus u).heap[k]? = w.heap[k]? := by
 show (w.heap ++ _)[k]? = _
 rw [Array.getElem?_append_left h]
theorem World.size_plus : w.heap.size ≤ (w.plus u).heap.size := by
 show _ ≤ (w.heap ++ _).size
 rw [Array.size_append]; omega
theorem World.below_plus : Below w.heap.size w (w.plus u) :=
 ⟨rfl, rfl, rfl, World.size_plus w u, fun k hk => World.heap_plus w u k hk⟩
theorem World.plus_of_below {w w' : World} (h : Below w.heap.size w w') : ∃ u, w' = w.plus u := by
 refine ⟨w', ?_⟩
 obtain ⟨h1, h2, h3, h4, h5⟩ := h
 have e : w'.heap = w.heap ++ w'.heap.extract w.heap.size w'.heap.size := by
  apply Array.ext_getElem?
  intro k
  by_cases hk : k < w.heap.size
  ·rw [Array.getElem?_append_left hk]; exact h5 k hk
  ·rw [Array.getElem?_append_right (by omega)]
   rw [Array.getElem?_extract]
   by_cases hk2 : k < w'.heap.size
   ·rw [if_pos (by omega)]; congr 1; omega
   ·rw [if_neg (by omega), Array.getElem?_eq_none (by omega)]
 unfold World.plus
 rw [← e, ← h1, ← h2, ← h3]
@[go_sem] theorem World.cell?_plus (n i : Nat) (h : n < w.heap.size) : (w.plus u).cell? ⟨n, i, none⟩ = w.cell? ⟨n, i, none⟩ :=
 World.cell?_of_block (World.heap_plus w u n h)
@[go_sem] theorem World.frozen?_plus (n i : Nat) (h : n < w.heap.size) : (w.plus u).frozen? ⟨n, i, none⟩ = w.frozen? ⟨n, i, none⟩ :=
 World.frozen?_of_block (World.heap_plus w u n h)
@[irreducible] def World.psz : Nat := (w.plus u).heap.size
theorem World.psz_eq : World.psz w u = (w.plus u).heap.size := by unfold World.psz; rfl
@[go_sem] theorem World.lt_plus (n : Nat) : (n < (w.plus u).heap.size) = (n < w.heap.size ∨ n < World.psz w u) := by
 rw [World.psz_eq]; have := World.size_plus w u; rw [eq_iff_iff]; omega
@[go_sem] theorem World.lt_plus1 (n k : Nat) : (n < (w.plus u).heap.size + k) = (n < w.heap.size + k ∨ n < World.psz w u + k) := by
 rw [World.psz_eq]; have := World.size_plus w u; rw [eq_iff_iff]; omega
@[go_sem] theorem World.lt_plus2 (n k l : Nat) : (n < (w.plus u).heap.size + k + l) = (n < w.heap.size + k + l ∨ n < World.psz w u + k + l) := by
 rw [World.psz_eq]; have := World.size_plus w u; rw [eq_iff_iff]; omega
@[go_sem] theorem World.lt_plus3 (n k l m : Nat) : (n < (w.plus u).heap.size + k + l + m) = (n < w.heap.size + k + l + m ∨ n < World.psz w u + k + l + m) := by
 rw [World.psz_eq]; have := World.size_plus w u; rw [eq_iff_iff]; omega
@[go_sem] theorem World.le_plus (n : Nat) : (n ≤ (w.plus u).heap.size) = (n ≤ w.heap.size ∨ n ≤ World.psz w u) := by
 rw [World.psz_eq]; have := World.size_plus w u; rw [eq_iff_iff]; omega
@[go_sem] theorem World.le_plus1 (n k : Nat) : (n ≤ (w.plus u).heap.size + k) = (n ≤ w.heap.size + k ∨ n ≤ World.psz w u + k) := by
 rw [World.psz_eq]; have := World.size_plus w u; rw [eq_iff_iff]; omega
@[go_sem] theorem World.le_plus2 (n k l : Nat) : (n ≤ (w.plus u).heap.size + k + l) = (n ≤ w.heap.size + k + l ∨ n ≤ World.psz w u + k + l) := by
 rw [World.psz_eq]; have := World.size_plus w u; rw [eq_iff_iff]; omega
@[go_sem] theorem World.ne_plus (n : Nat) : ((w.plus u).heap.size = n) = (¬ n < w.heap.size ∧ World.psz w u = n) := by
 rw [World.psz_eq]; have := World.size_plus w u; rw [eq_iff_iff]; omega
@[go_sem] theorem World.ne_plus1 (n k : Nat) : ((w.plus u).heap.size + k = n) = (¬ n < w.heap.size + k ∧ World.psz w u + k = n) := by
 rw [World.psz_eq]; have := World.size_plus w u; rw [eq_iff_iff]; omega
@[go_sem] theorem World.ne_plus2 (n k l : Nat) : ((w.plus u).heap.size + k + l = n) = (¬ n < w.heap.size + k + l ∧ World.psz w u + k + l = n) := by
 rw [World.psz_eq]; have := World.size_plus w u; rw [eq_iff_iff]; omega
@[go_sem] theorem World.ne_plus' (n : Nat) : (n = (w.plus u).heap.size) = (¬ n < w.heap.size ∧ n = World.psz w u) := by
 rw [World.psz_eq]; have := World.size_plus w u; rw [eq_iff_iff]; omega
@[go_sem] theorem World.ne_plus1' (n k : Nat) : (n = (w.plus u).heap.size + k) = (¬ n < w.heap.size + k ∧ n = World.psz w u + k) := by
 rw [World.psz_eq]; have := World.size_plus w u; rw [eq_iff_iff]; omega
@[go_sem] theorem World.ne_plus2' (n k l : Nat) : (n = (w.plus u).heap.size + k + l) = (¬ n < w.heap.size + k + l ∧ n = World.psz w u + k + l) := by
 rw [World.psz_eq]; have := World.size_plus w u; rw [eq_iff_iff]; omega
@[go_sem] theorem World.setCell_plus (n i : Nat) (v : Value) (h : n < w.heap.size) : (w.plus u).setCell ⟨n, i, none⟩ v = (w.setCell ⟨n, i, none⟩ v).plus u := by
 have hs : (w.setCell ⟨n, i, none⟩ v).heap.size = w.heap.size := by simp [World.setCell]
 unfold World.plus
 rw [hs]
 unfold World.setCell
 simp only [World.mk.injEq, and_true]
 apply Array.ext_getElem?
 intro k
 by_cases hk : k < w.heap.size
 ·rw [Array.getElem?_modify, Array.getElem?_append_left hk, Array.getElem?_append_left (by simpa using hk), Array.getElem?_modify]
 ·rw [Array.getElem?_modify, Array.getElem?_append_right (by omega), Array.getElem?_append_right (by simpa using hk), if_neg (by omega)]
  simp
end
theorem Below.plus {B : Nat} {a w : World} (h : Below B a w) (hB : B ≤ w.heap.size) (u : World) : Below B a (w.plus u) :=
 h.trans ((World.below_plus w u).mono hB)
theorem Below.plus0 {a w : World} (h : Below a.heap.size a w) (u : World) : Below a.heap.size a (w.plus u) := Below.plus h h.size u
theorem Below.alloc0 {a w : World} (h : Below a.heap.size a w) (o : Obj) : Below a.heap.size a (w.alloc o) := RowKit.Below.alloc h h.size o
theorem belA {B : Nat} {a w : World} (h : Below B a w := by (repeat' (first | (with_reducible first | exact Below.refl _ _ | assumption | refine Below.plus0 ?_ _ | refine Below.alloc0 ?_ _ | refine Below.plus ?_ ?_ _ | refine Below.alloc ?_ ?_ _ | refine Below.drew ?_ | refine Below.drewN ?_ _) | (simp [go_sem]; done) | (simp [go_sem]; omega)))) : Below B a w := h
def World.later (w w' : World) : Prop := ∃ u, w' = w.plus u
section
variable {P : Program} {ops : Array Oper} {md : Region.Mode} {C : World → Prop}
def wpAnyC (P : Program) (md : Region.Mode) (ops : Array Oper) (C : World → Prop) (n : Nat) (L : Array Bool → Act → Prop) : Nat → Array Bool → Act → Prop
 | 0, listed, a => L listed a
 | f + 1, listed, a =>
  Region.ready md ops listed ≠ [] ∧ ∀ i ∈ Region.ready md ops listed, i < n ∧ qOp P ops C i (wpAnyC P md ops C n L f (listed.setIfInBounds i true)) a
theorem wpAny_of_headC {n g : Nat} {L : Array Bool → Act → Prop} {Q' : Exit → Act → World → Prop} (hL : ∀ listed a w, C w → L listed a → wpAny P md ops Q' g listed a w) :
    ∀ (f : Nat) (listed : Array Bool) (a : Act) (w : World), C w → wpAnyC P md ops C n L f listed a → wpAny P md ops Q' (f + g) listed a w
 | 0, listed, a, w, hw, h => by rw [Nat.zero_add]; exact hL _ _ _ hw h
 | f + 1, listed, a, w, hw, h => by
  rw [show f + 1 + g = (f + g) + 1 by omega]
  exact ⟨fun h0 => absurd h0 h.1, fun i hi => wpOp_of_qOp hw (fun a' w' hw' h' => wpAny_of_headC hL f _ a' w' hw' h') (h.2 i hi).2⟩
theorem wpAnyC_first {n i : Nat} {oi : Oper} {v : Value} {L : Array Bool → Act → Prop} (hi : ops[i]? = some oi) (hsel : ∀ (j : Nat) (o : Oper) cs b, ops[j]? = some o → o.op ≠ .select cs b)
    (hs : Region.sinkB md ops n = true) (hc : Region.chainB md ops n = true) (hn : n < ops.size) (hin : i < n)
    (hdone : ∀ listed a, L listed a → ∀ j ∈ Region.ready md ops listed, n ≤ j) :
    ∀ (f : Nat) (listed : Array Bool) (a : Act), HeadInv md ops n listed →
     (∀ j oj, ops[j]? = some oj → j ≠ i → listed.getD j true = false → (∀ e ∈ oj.after, Region.binds md e = true → e.on ≠ i) → oi.apart ops oj = true) →
     i ∈ Region.ready md ops listed → YieldsIn P ops C oi v a →
     wpAnyC P md ops C n L f (listed.setIfInBounds i true) (a.put oi.dst v) → wpAnyC P md ops C n L (f + 1) listed a := by
 intro f
 induction f with
 | zero =>
  intro listed a inv _ hr hy H
  have hun := (mem_ready.1 hr).1
  refine ⟨fun h => (by rw [h] at hr; cases hr), fun j hj => ?_⟩
  have hjn : j < n := Nat.lt_of_not_le fun h => tail_waits hs hc hn inv _ i rfl hin hun j h hj
  refine ⟨hjn, ?_⟩
  by_cases hji : j = i
  ·subst hji; exact hy.qOp hi H
  ·have := hdone _ _ H j (ready_mono hj hji)
   omega
 | succ f ih =>
  intro listed a inv hfree hr hy H
  have hun := (mem_ready.1 hr).1
  refine ⟨fun h => (by rw [h] at hr; cases hr), fun j hj => ?_⟩
  have hjn : j < n := Nat.lt_of_not_le fun h => tail_waits hs hc hn inv _ i rfl hin hun j h hj
  refine ⟨hjn, ?_⟩
  by_cases hji : j = i
  ·subst hji; exact hy.qOp hi H
  ·obtain ⟨hjun, oj, hoj, hall⟩ := mem_ready.1 hj
   have hnot : ∀ e ∈ oj.after, Region.binds md e = true → e.on ≠ i := by
    intro e he hb heq
    have h1 := hall e he hb
    rw [heq, getD_both hun] at h1
    cases h1
   have h2 := qOp_put hoj (hfree j oj hoj hji hjun hnot) (fun cs b => hsel i oi cs b hi) (fun cs b => hsel j oj cs b hoj) hy (H.2 j (ready_mono hj hji)).2
   refine qOp_mono (fun a' h3 => ih (listed.setIfInBounds j true) a' (inv.set hj hjn) ?_ (ready_mono hr (Ne.symm hji)) h3.1 ?_) h2
   ·intro k ok hk hki hun2 hno
    refine hfree k ok hk hki ?_ hno
    by_cases hjk : j = k
    ·subst hjk; exact hjun
    ·rwa [getD_set_ne true hjk] at hun2
   ·rw [Array.setIfInBounds_comm _ _ hji]
    exact h3.2
theorem wpAnyC_lex {n g : Nat} {Lq : Act → Prop} (hsel : Region.noSelect ops = true) (hs : Region.sinkB md ops n = true) (hc : Region.chainB md ops n = true) (hn : n < ops.size) :
    ∀ (l : List Oper) (k : Nat) (listed : Array Bool) (a : Act), (∀ j, j < l.length → l[j]? = ops[k + j]?) → k + l.length = n → HeadInv md ops n listed →
    Region.lexHead md ops g l.length k listed = true → wpQuiet P ops C Lq l a →
    wpAnyC P md ops C n (fun listed' a' => Region.seqB md ops g n listed' = true ∧ Lq a') l.length listed a
 | [], k, listed, a, _, hk, _, hB, h => by
  have e : k = n := by simpa using hk
  subst e
  exact ⟨by simpa [Region.lexHead] using hB, h⟩
 | o :: l, k, listed, a, hl, hk, inv, hB, h => by
  have h0 : ops[k]? = some o := by simpa using (hl 0 (by simp)).symm
  simp only [List.length_cons, Region.lexHead, Bool.and_eq_true] at hB
  obtain ⟨⟨hr, hf⟩, hB'⟩ := hB
  have hkn : k < n := by simp only [List.length_cons] at hk; omega
  have hr' : k ∈ Region.ready md ops listed := by simpa using hr
  have hq : qOp P ops C k (wpQuiet P ops C Lq l) a := by unfold qOp; simp only [h0]; exact h
  obtain ⟨v, hy, hK⟩ := yieldsIn_of_qOp h0 hq
  refine wpAnyC_first h0 (Region.noSelect_spec hsel) hs hc hn hkn (fun listed' a' hL => seqB_ready hL.1) l.length listed a inv (Region.free_spec h0 hf) hr' hy ?_
  refine wpAnyC_lex hsel hs hc hn l (k + 1) _ _ (fun j hj => ?_) (by simp only [List.length_cons] at hk; omega) (inv.set hr' hkn) hB' hK
  have := hl (j + 1) (by simp; omega)
  simpa [Nat.add_assoc, Nat.add_comm 1 j] using this
theorem wp_region_steady_tail {id : Nat} {Q : Exit → Act → World → Prop} {a : Act} {w : World} {l : List Oper} (n : Nat) (hm : P.follows .mixedOrders = true) (hB : Region.lexTailB .any l.toArray n = true)
    (hC : C { w with drawn := w.drawn + 1 })
    (h : wpQuiet P l.toArray C (fun a' => ∀ w', C w' → wpList P l.toArray Q (l.drop n) a' w') (l.take n) a) : (Code.region id l.toArray true).wp P Q a w := by
 simp only [Region.lexTailB, Bool.and_eq_true, decide_eq_true_eq] at hB
 obtain ⟨⟨⟨⟨hsel, hn⟩, hs⟩, hc⟩, hlex⟩ := hB
 have hn' : n < l.length := by simpa using hn
 have htl : (l.take n).length = n := by simp; omega
 have hdl : (l.drop n).length = l.toArray.size - n := by simp
 have inv0 : HeadInv .any l.toArray n (Array.replicate l.toArray.size false) :=
  ⟨by simp, fun j oj _ hl => (by rw [getD_replicate_false] at hl; cases hl), fun t _ ht => getD_in (by simpa using ht) (getD_replicate_false _ _)⟩
 have H := wpAnyC_lex (md := .any) (g := l.toArray.size - n) hsel hs hc hn (l.take n) 0 _ a (fun j hj => by
  have hj' : j < n := by rw [htl] at hj; exact hj
  simp [hj']) (by simpa using htl) inv0 (by rw [htl]; exact hlex) h
 refine wp_region_any hm ?_
 have H2 := wpAny_of_headC (Q' := Q) (g := l.toArray.size - n) (fun listed a' w' hw' hL => by
  have h3 := wpAny_of_seq (md := .any) (Q' := Q) (l.drop n) n listed a' w' (fun j => by simp [List.getElem?_drop]) (by rw [hdl]; exact hL.1) (hL.2 w' hw')
  rwa [hdl] at h3) _ _ _ _ hC H
 rw [htl, show n + (l.toArray.size - n) = l.toArray.size by omega] at H2
 exact H2
theorem later_drew (w : World) : ∃ u, ({ w with drawn := w.drawn + 1 } : World) = w.plus u :=
 World.plus_of_below (w := w) (w' := { w with drawn := w.drawn + 1 }) ⟨rfl, rfl, rfl, Nat.le_refl _, fun _ _ => rfl⟩
theorem later_plus_drew (w u0 : World) : ∃ u, ({ w.plus u0 with drawn := (w.plus u0).drawn + 1 } : World) = w.plus u := by
 have h := World.below_plus w u0
 exact World.plus_of_below (w := w) ⟨h.os, h.tape, h.output, h.size, h.block⟩
theorem wp_region_steady {id : Nat} {Q : Exit → Act → World → Prop} {a : Act} {w : World} {l : List Oper} (hm : P.follows .mixedOrders = true) (hB : Region.lexB .any l.toArray = true)
    (h : wpQuiet P l.toArray (fun w' => ∃ u, w' = w.plus u) (fun a' => ∀ w', (∃ u, w' = w.plus u) → Q .normal a' w') l a) : (Code.region id l.toArray true).wp P Q a w :=
 wp_region_quiet (C := fun w' => ∃ u, w' = w.plus u) hm hB (later_drew w) (by simpa using h)
theorem wp_region_steady_plus {id : Nat} {Q : Exit → Act → World → Prop} {a : Act} {w u0 : World} {l : List Oper} (hm : P.follows .mixedOrders = true) (hB : Region.lexB .any l.toArray = true)
    (h : wpQuiet P l.toArray (fun w' => ∃ u, w' = w.plus u) (fun a' => ∀ w', (∃ u, w' = w.plus u) → Q .normal a' w') l a) : (Code.region id l.toArray true).wp P Q a (w.plus u0) :=
 wp_region_quiet (C := fun w' => ∃ u, w' = w.plus u) hm hB (later_plus_drew w u0) (by simpa using h)
theorem wp_region_steady_t {id : Nat} {Q : Exit → Act → World → Prop} {a : Act} {w : World} {l : List Oper} (n : Nat) (hm : P.follows .mixedOrders = true) (hB : Region.lexTailB .any l.toArray n = true)
    (h : wpQuiet P l.toArray (fun w' => ∃ u, w' = w.plus u) (fun a' => ∀ w', (∃ u, w' = w.plus u) → wpList P l.toArray Q (l.drop n) a' w') (l.take n) a) : (Code.region id l.toArray true).wp P Q a w :=
 wp_region_steady_tail (C := fun w' => ∃ u, w' = w.plus u) n hm hB (later_drew w) h
theorem wp_region_steady_plus_t {id : Nat} {Q : Exit → Act → World → Prop} {a : Act} {w u0 : World} {l : List Oper} (n : Nat) (hm : P.follows .mixedOrders = true) (hB : Region.lexTailB .any l.toArray n = true)
    (h : wpQuiet P l.toArray (fun w' => ∃ u, w' = w.plus u) (fun a' => ∀ w', (∃ u, w' = w.plus u) → wpList P l.toArray Q (l.drop n) a' w') (l.take n) a) : (Code.region id l.toArray true).wp P Q a (w.plus u0) :=
 wp_region_steady_tail (C := fun w' => ∃ u, w' = w.plus u) n hm hB (later_plus_drew w u0) h
theorem wp_region_exact_t {id : Nat} {Q : Exit → Act → World → Prop} {a : Act} {w : World} {l : List Oper} (n : Nat) (hm : P.follows .mixedOrders = true) (hB : Region.lexTailB .any l.toArray n = true)
    (h : wpQuiet P l.toArray (fun w' => w' = w.drew) (fun a' => ∀ w', w' = w.drew → wpList P l.toArray Q (l.drop n) a' w') (l.take n) a) : (Code.region id l.toArray true).wp P Q a w :=
 wp_region_steady_tail (C := fun w' => w' = w.drew) n hm hB rfl h
theorem wp_region_exact {id : Nat} {Q : Exit → Act → World → Prop} {a : Act} {w : World} {l : List Oper} (hm : P.follows .mixedOrders = true) (hB : Region.lexB .any l.toArray = true)
    (h : wpQuiet P l.toArray (fun w' => w' = w.drew) (fun a' => ∀ w', w' = w.drew → Q .normal a' w') l a) : (Code.region id l.toArray true).wp P Q a w :=
 wp_region_quiet (C := fun w' => w' = w.drew) hm hB rfl (by simpa using h)
theorem Calls.steady {f : FuncId} {args : Array Value} {w u : World} {v : Value}
    (h : Calls P f args (w.plus u) fun e w' => e = .returned v ∧ Below (w.plus u).heap.size (w.plus u) w') : Calls P f args (w.plus u) fun e w'' => e = .returned v ∧ ∃ u', w'' = w.plus u' :=
 h.mono fun _ _ ⟨he, hb⟩ => ⟨he, World.plus_of_below ((World.below_plus w u).trans (hb.mono (World.size_plus w u)))⟩
end
end Go

end
section
/- No program in sight: small laws that the walks share. -/
namespace Go
open Go.RowKit
section
variable {P : Program}
theorem Calls.same_steady {f : FuncId} {args : Array Value} {w u : World} {v : Value}
    (h : Calls P f args (w.plus u) fun e w' => e = .returned v ∧ w.plus u = w') : Calls P f args (w.plus u) fun e w'' => e = .returned v ∧ ∃ u', w'' = w.plus u' :=
 h.mono fun _ _ ⟨he, hb⟩ => ⟨he, u, hb.symm⟩
theorem _root_.Go.RowKit.Below.drewN {B : Nat} {a w : World} (h : Below B a w) (n : Nat) : Below B a (w.drewN n) := ⟨h.os, h.tape, h.output, h.size, h.block⟩
theorem Calls.value {f : FuncId} {args : Array Value} {w : World} {v v' : Value} (e : v = v')
    (h : Calls P f args w fun e w' => e = .returned v ∧ Below w.heap.size w w') : Calls P f args w fun e w' => e = .returned v' ∧ Below w.heap.size w w' := e ▸ h
end
end Go
namespace Vi
open Go
theorem made_int (b : Bool) (z : Int) (n : Nat) (h : z = if b then -(n : Int) else n) : (Value.agg #[.bool (b && !(mag n).toList.isEmpty), .string (mag n)]) = .agg #[.bool (sg z), .string (mg z)] := by
 subst h
 rw [mag_isEmpty]
 cases b
 ·simp [sg_nat, mg_nat]
 ·simp only [if_true, mg_neg, Bool.true_and]
  have e : sg (-(n : Int)) = !(n == 0) := by
   unfold sg
   by_cases h : n = 0
   ·subst h; rfl
   ·rw [beq_eq_false_iff_ne.2 h]; simp; omega
  rw [e]
theorem bitLenAux_nd (f x : Nat) (h : x < 2 ^ f) : Lib.bitLenAux f x = nd 2 x := by
 induction f generalizing x with
 | zero =>
  have e : x = 0 := by simpa using h
  subst e; rfl
 | succ f ih =>
  unfold Lib.bitLenAux
  by_cases h0 : x = 0
  ·rw [if_pos h0]; subst h0; rfl
  ·rw [if_neg h0, ih (x / 2) (by rw [Nat.pow_succ] at h; omega), nd_succ 2 (by omega) x (by omega)]
   omega
theorem bitLen_nd (x : Nat) (h : x < 2 ^ 64) : Lib.bitLen x = nd 2 x := bitLenAux_nd 64 x h
def cmpN (x y : Nat) : Int := if x < y then -1 else if x = y then 0 else 1
def cmpI (x y : Int) : Int := if x < y then -1 else if x = y then 0 else 1
theorem cmpI_nat (x y : Nat) : cmpI (x : Int) (y : Int) = cmpN x y := by
 unfold cmpI cmpN
 by_cases h1 : x < y
 ·rw [if_pos h1, if_pos (by omega)]
 ·rw [if_neg h1, if_neg (by omega)]
  by_cases h2 : x = y
  ·rw [if_pos h2, if_pos (by omega)]
  ·rw [if_neg h2, if_neg (by omega)]
theorem cmpN_add (u v k : Nat) : cmpN (u + k) (v + k) = cmpN u v := by
 unfold cmpN
 simp only [Nat.add_lt_add_iff_right, Nat.add_right_cancel_iff]
theorem val_reverse_cons (d : Nat) (l : List Nat) : val 256 (d :: l).reverse = val 256 l.reverse + 256 ^ l.length * d := by
 rw [List.reverse_cons, val_snoc, List.length_reverse]
theorem compareBytes_val : ∀ (l m : List UInt8), l.length = m.length →
    Lib.compareBytes l m = cmpN (val 256 (l.map UInt8.toNat).reverse) (val 256 (m.map UInt8.toNat).reverse)
 | [], [], _ => rfl
 | a :: l, b :: m, h => by
  have h' : l.length = m.length := by simpa using h
  have ih := compareBytes_val l m h'
  have hl : val 256 (l.map UInt8.toNat).reverse < 256 ^ l.length := by
   have := val_lt 256 (l.map UInt8.toNat).reverse (fun d hd => by
    rw [List.mem_reverse, List.mem_map] at hd
    obtain ⟨c, _, rfl⟩ := hd
    exact c.toNat_lt)
   simpa using this
  have hm : val 256 (m.map UInt8.toNat).reverse < 256 ^ l.length := by
   have := val_lt 256 (m.map UInt8.toNat).reverse (fun d hd => by
    rw [List.mem_reverse, List.mem_map] at hd
    obtain ⟨c, _, rfl⟩ := hd
    exact c.toNat_lt)
   rw [h']; simpa using this
  unfold Lib.compareBytes
  rw [List.map_cons, List.map_cons, val_reverse_cons, val_reverse_cons, List.length_map, List.length_map, ← h', ih]
  generalize val 256 (l.map UInt8.toNat).reverse = u at *
  generalize val 256 (m.map UInt8.toNat).reverse = v at *
  generalize 256 ^ l.length = p at *
  by_cases h1 : a < b
  ·rw [if_pos h1]
   have h2 : a.toNat < b.toNat := UInt8.lt_iff_toNat_lt.1 h1
   have h3 : p * (a.toNat + 1) ≤ p * b.toNat := Nat.mul_le_mul_left p h2
   rw [Nat.mul_add] at h3
   unfold cmpN
   rw [if_pos (by omega)]
  ·rw [if_neg h1]
   by_cases h2 : b < a
   ·rw [if_pos h2]
    have h2' : b.toNat < a.toNat := UInt8.lt_iff_toNat_lt.1 h2
    have h3 : p * (b.toNat + 1) ≤ p * a.toNat := Nat.mul_le_mul_left p h2'
    rw [Nat.mul_add] at h3
    unfold cmpN
    rw [if_neg (by omega), if_neg (by omega)]
   ·rw [if_neg h2]
    have e : a = b := by
     have h3 : ¬ a.toNat < b.toNat := fun h => h1 (UInt8.lt_iff_toNat_lt.2 h)
     have h4 : ¬ b.toNat < a.toNat := fun h => h2 (UInt8.lt_iff_toNat_lt.2 h)
     exact UInt8.toNat_inj.1 (by omega)
    subst e
    exact (cmpN_add u v _).symm
theorem compareBytes_mag (x y : Nat) (h : (mag x).size = (mag y).size) : Lib.compareBytes (mag x).data.toList (mag y).data.toList = cmpN x y := by
 have h2 := compareBytes_val (mag x).data.toList (mag y).data.toList h
 rw [h2]
 show cmpN (num (mag x)) (num (mag y)) = _
 rw [num_mag, num_mag]
theorem compare_mag (x y : Nat) : (if Lib.compareInt ((mag x).size : Int) ((mag y).size : Int) ≠ 0 then Lib.compareInt ((mag x).size : Int) ((mag y).size : Int) else Lib.compareBytes (mag x).data.toList (mag y).data.toList) = cmpN x y := by
 have h1 := lt_of_nd_lt 256 (by omega) x y
 have h2 := lt_of_nd_lt 256 (by omega) y x
 rw [← size_mag, ← size_mag] at h1 h2
 unfold Lib.compareInt
 by_cases h3 : (mag x).size < (mag y).size
 ·rw [if_pos (show ((mag x).size : Int) < (mag y).size by omega), if_pos (by omega)]
  unfold cmpN; rw [if_pos (h1 h3)]
 ·rw [if_neg (show ¬ ((mag x).size : Int) < (mag y).size by omega)]
  by_cases h4 : (mag y).size < (mag x).size
  ·have := h2 h4
   rw [if_pos (show ((mag x).size : Int) > (mag y).size by omega), if_pos (by omega)]
   unfold cmpN; rw [if_neg (by omega), if_neg (by omega)]
  ·rw [if_neg (show ¬ ((mag x).size : Int) > (mag y).size by omega), if_neg (by omega)]
   exact compareBytes_mag x y (by omega)
theorem cmpI_neg (x y : Int) : cmpI y x = -cmpI x y := by
 unfold cmpI; repeat' split
 all_goals omega
end Vi

end
section
/- The package integer: made, magnitude and word return what they should. -/
namespace Go.Proofs.YtlblfgbpogljoaaGreatDoor
open Go Go.RowKit
open Vi
theorem len64 (x : Nat) (w : World) (h : x < 2 ^ 64) : Calls Tryz.prog 192 #[.int .u64 x] w fun e w' => e = .returned (.int .i64 ((nd 2 x : Nat) : Int)) ∧ w = w' :=
 (Tryz.bits_Len64 (x : Int) w (by omega) (by omega)).mono fun _ _ ⟨he, hw⟩ => ⟨by rw [he, ← bitLen_nd x h]; rfl, hw.symm⟩
set_option maxHeartbeats 400000 in
theorem made_s (neg : Bool) (s : ByteArray) (w : World) : Calls Tryz.prog 167 #[.bool neg, .string s] w fun e w' => e = .returned (.agg #[.bool (neg && !s.toList.isEmpty), .string s]) ∧ Below w.heap.size w w' := by
 cases neg
 all_goals
  go_enter Tryz.func167, Tryz.ntmps167
  go_wp2
  refine bodyPost_ret (by simp [results, Tryz.results167, go_sem]; rfl) rfl ?_
  exact ⟨rfl, by go_grown⟩
theorem made_c (b : Bool) (z : Int) (n : Nat) (h : z = if b then -(n : Int) else n) (w : World) : Calls Tryz.prog 167 #[.bool b, .string (mag n)] w fun e w' => e = .returned (.agg #[.bool (sg z), .string (mg z)]) ∧ Below w.heap.size w w' := by
 rw [← made_int b z n h]; exact made_s b (mag n) w
def magByte (u n p : Nat) : Nat := u / 256 ^ (n - 1 - p) % 256
def magCells (u n j : Nat) : Array Value := ((List.range 8).map fun p => if p < n ∧ n ≤ p + j then Value.int .u8 (magByte u n p : Int) else .int .u8 0).toArray
theorem magCells_get (u n j p : Nat) (hp : p < 8) : (magCells u n j)[p]? = some (if p < n ∧ n ≤ p + j then Value.int .u8 (magByte u n p : Int) else .int .u8 0) := by
 unfold magCells; simp [hp]
theorem magCells_zero (u n : Nat) : magCells u n 0 = #[Value.int .u8 0, Value.int .u8 0, Value.int .u8 0, Value.int .u8 0, Value.int .u8 0, Value.int .u8 0, Value.int .u8 0, Value.int .u8 0] := by
 unfold magCells
 rw [List.map_congr_left (g := fun _ => Value.int .u8 0) (fun p _ => by rw [if_neg (by omega)])]
 rfl
theorem magCells_succ (u n j : Nat) (hn : n ≤ 8) (hj : j < n) : (magCells u n j).setIfInBounds (n - 1 - j) (.int .u8 (magByte u n (n - 1 - j) : Int)) = magCells u n (j + 1) := by
 apply Array.ext_getElem?
 intro p
 rw [Array.getElem?_setIfInBounds]
 by_cases hp : p < 8
 ·rw [magCells_get u n (j + 1) p hp]
  by_cases he : n - 1 - j = p
  ·subst he
   rw [if_pos rfl, if_pos (by unfold magCells; simp; omega), if_pos (by omega)]
  ·rw [if_neg he, magCells_get u n j p hp]
   by_cases h2 : p < n ∧ n ≤ p + j
   ·rw [if_pos h2, if_pos (by omega)]
   ·rw [if_neg h2, if_neg (by omega)]
 ·have hne : ¬ n - 1 - j = p := by omega
  rw [if_neg hne]
  have e : ∀ j, (magCells u n j)[p]? = none := fun j => by unfold magCells; simp; omega
  rw [e, e]
theorem nd_bits (x : Nat) (h : 0 < x) : nd 256 x = (nd 2 x + 7) / 8 := by
 have h1 := pow_nd_le 2 (by omega) x h
 have h2 := lt_pow_nd 2 (by omega) x
 have h3 := nd_pos 2 (by omega) x h
 have e : (nd 2 x + 7) / 8 = (nd 2 x - 1) / 8 + 1 := by omega
 rw [e]
 apply nd_of_bounds 256 (by omega)
 ·have : (256 : Nat) ^ ((nd 2 x - 1) / 8) ≤ 2 ^ (nd 2 x - 1) := by
    rw [show (256 : Nat) = 2 ^ 8 from rfl, ← Nat.pow_mul]
    exact Nat.pow_le_pow_right (by omega) (by omega)
  omega
 ·have : (2 : Nat) ^ nd 2 x ≤ 256 ^ ((nd 2 x - 1) / 8 + 1) := by
    rw [show (256 : Nat) = 2 ^ 8 from rfl, ← Nat.pow_mul]
    exact Nat.pow_le_pow_right (by omega) (by omega)
  omega
theorem magByte_int (x n j : Nat) (h : j < n) : (x : Int) / 2 ^ (8 * j) % 256 = (magByte x n (n - 1 - j) : Int) := by
 unfold magByte
 rw [show n - 1 - (n - 1 - j) = j by omega, Int.pow_mul]
 simp
theorem mag_convert (x : Nat) (w : World) (src dst e : TypeId) (hs : Tryz.prog.underlying src = some (.slice e)) (he : Tryz.prog.underlying e = some (.int .u8)) (hd : Tryz.prog.underlying dst = some .string) (n : Nat) (hn : n = nd 256 x) (h8 : n ≤ 8) :
    (convert src dst (.slice (some ⟨w.heap.size, 0, none⟩) n 8)).run Tryz.prog (w.alloc (.cells (magCells x n n) 222)) = .ok (.string (mag x)) (w.alloc (.cells (magCells x n n) 222)) := by
 subst hn
 have hlen : (((dig 256 x).reverse.map fun d : Nat => (d : Int))).length = nd 256 x := by simp [nd]
 have := run_convert_bytes_arg (P := Tryz.prog) (w.alloc (.cells (magCells x (nd 256 x) (nd 256 x)) 222)) src e hs he w.heap.size 0 (nd 256 x) 8 ((dig 256 x).reverse.map fun d : Nat => (d : Int)) hlen (fun i hi => by
  rw [Nat.zero_add, World.cell?_alloc_at _ _ _ _ rfl, magCells_get x _ _ i (by omega), if_pos (by omega)]
  have e1 : i < (dig 256 x).reverse.length := by rw [List.length_reverse]; exact hi
  have e2 : ((dig 256 x).reverse.map fun d : Nat => (d : Int)).getD i 0 = (((dig 256 x).getD (nd 256 x - 1 - i) 0 : Nat) : Int) := by
   rw [List.getD_eq_getElem?_getD, List.getElem?_map, List.getElem?_reverse (by simpa using e1), List.getD_eq_getElem?_getD]
   show Option.getD (Option.map _ (dig 256 x)[nd 256 x - 1 - i]?) 0 = _
   cases (dig 256 x)[nd 256 x - 1 - i]? <;> rfl
  rw [e2, dig_getD 256 (by omega)]; rfl) dst hd
 rw [this]
 have e : strOfNums ((dig 256 x).reverse.map fun d : Nat => (d : Int)) = mag x := by
  unfold strOfNums mag
  rw [List.map_map, List.map_reverse]; rfl
 rw [e]
theorem slice8 (b n : Nat) (hn : n ≤ 8) (w : World) : (Instr.sliceAt 222 (.pointer (some ⟨b, 0, none⟩)) none (some (.int .i64 (n : Int))) none).run Tryz.prog w = .ok (.slice (some ⟨b, 0, none⟩) n 8) w := by
 have hl : Tryz.prog.arrayLen 222 = 8 := by kernel_rfl
 have ht : Tryz.prog.underlying 222 = some (.array (Tryz.prog.arrayLen 222) (Tryz.prog.elem 222)) := by kernel_rfl
 have hs : (sizeOf (Tryz.prog.elem 222)).run Tryz.prog w = .ok 1 w := by kernel_rfl
 rw [run_sliceAt_array_h w 222 ⟨b, 0, none⟩ ht .i64 n (by omega) (by rw [hl]; omega), hs, hl]
 simp [slicedAt, Addr.add]
set_option maxRecDepth 100000 in
set_option maxHeartbeats 400000 in
theorem magnitude_c (x : Nat) (w : World) (h : x < 2 ^ 64) : Calls Tryz.prog 168 #[.int .u64 x] w fun e w' => e = .returned (.string (mag x)) ∧ Below w.heap.size w w' := by
 by_cases h0 : x = 0
 ·subst h0
  go_enter Tryz.func168, Tryz.ntmps168
  go_wp2
  go_ret
  exact ⟨rfl, Below.refl _ _⟩
 ·have hb : ((x : Int) == 0) = false := by rw [beq_eq_false_iff_ne]; omega
  have hn : nd 2 x ≤ 64 := nd_le 2 (by omega) x 64 h
  have hn1 : 0 < nd 2 x := nd_pos 2 (by omega) x (by omega)
  have hn8 : ((nd 2 x : Int) + 7) / 8 = (nd 256 x : Int) := by rw [nd_bits x (by omega)]; omega
  have hn2 : nd 256 x ≤ 8 := by rw [nd_bits x (by omega)]; omega
  have H0 := Lib.hid (magCells_zero x (nd 256 x))
  go_enter Tryz.func168, Tryz.ntmps168
  go_wp2_with (go_at_call 192; refine (len64 x _ h).mono ?_; rintro e w' ⟨rfl, rfl⟩)
  rw [hn8]
  clear hn8
  go_loopw [13] (fun k wr => ∃ j : Nat, j ≤ nd 256 x ∧ k = .int .i64 j ∧ wr = w.alloc (.cells (magCells x (nd 256 x) j) 222)) (fun k _ => nd 256 x - (intOf k).toNat)
  case atStart => exact ⟨0, Nat.zero_le _, rfl, by rw [H0.out]⟩
  case round =>
   obtain ⟨j, hj, rfl, rfl⟩ := hrel
   by_cases hlt : j < nd 256 x
   ·have hg := magCells_get x (nd 256 x) j (nd 256 x - 1 - j) (by omega)
    rw [if_neg (by omega)] at hg
    have H1 := Lib.hid (magCells_succ x (nd 256 x) j hn2 hlt)
    go_wp2
    refine ⟨⟨j + 1, by omega, by go_num, ?_⟩, by simp [intOf]; omega⟩
    rw [← H1.out, magByte_int x (nd 256 x) j hlt]
   ·have e : j = nd 256 x := by omega
    subst e
    have hsl := slice8 w.heap.size (nd 256 x) hn2
    have hcv := mag_convert x w 184 9 5 Tryz.underlying184 Tryz.underlying5 Tryz.underlying9 (nd 256 x) rfl hn2
    go_wp2
    go_ret
    exact ⟨rfl, by go_grown⟩
def topB (x n j : Nat) : Nat := x / 256 ^ (n - j)
theorem topB_zero (x n : Nat) (h : x < 256 ^ n) : topB x n 0 = 0 := Nat.div_eq_of_lt h
theorem topB_all (x n : Nat) : topB x n n = x := by unfold topB; rw [Nat.sub_self, Nat.pow_zero, Nat.div_one]
theorem topB_succ (x n j : Nat) (h : j < n) : topB x n (j + 1) = topB x n j * 256 + x / 256 ^ (n - 1 - j) % 256 := by
 unfold topB
 rw [show n - j = (n - 1 - j) + 1 by omega, show n - (j + 1) = n - 1 - j by omega, Nat.pow_succ, ← Nat.div_div_eq_div_mul]
 omega
theorem topB_lt (x n j : Nat) (h : x < 256 ^ n) (hj : j ≤ n) : topB x n j < 256 ^ j := by
 unfold topB
 rw [Nat.div_lt_iff_lt_mul (Nat.pow_pos (by omega)), ← Nat.pow_add, show j + (n - j) = n by omega]
 exact h
theorem or_shl8 (a b : Nat) (ha : a < 256 ^ 7) (hb : b < 256) : bits BinOp.or .u64 (IntKind.u64.wrap ((a : Int) * 256)) (IntKind.u64.wrap (b : Int)) = ((a * 256 + b : Nat) : Int) := by
 rw [IntKind.wrap_u64, IntKind.wrap_u64]
 have e1 : (a : Int) * 256 % 18446744073709551616 = ((a * 256 : Nat) : Int) := by omega
 have e2 : (b : Int) % 18446744073709551616 = (b : Int) := by omega
 rw [e1, e2, u64_or_nat _ _ (by omega) (by omega), nat_join 8 (a * 256) b (by omega) (by omega)]
set_option maxHeartbeats 400000 in
theorem word_c (x : Nat) (w : World) (h8 : (mag x).size ≤ 8) : Calls Tryz.prog 211 #[.string (mag x)] w fun e w' => e = .returned (.tuple #[.int .u64 x, .bool true]) ∧ w = w' := by
 have hx := lt_of_size_mag x _ (Nat.le_refl _)
 have H0 := Lib.hid (topB_zero x _ hx)
 go_enter Tryz.func211, Tryz.ntmps211
 go_wp2
 go_loop [4, 5, 11] (fun u i k => ∃ j : Nat, j ≤ (mag x).size ∧ k = .int .i64 j ∧ u = .int .u64 (topB x (mag x).size j : Nat)) (fun _ _ k => (mag x).size - (intOf k).toNat)
 case atStart => exact ⟨0, Nat.zero_le _, rfl, by rw [H0.out]; rfl⟩
 case round =>
  obtain ⟨j, hj, rfl, rfl⟩ := hrel
  by_cases hlt : j < (mag x).size
  ·have H1 := Lib.hid (topB_succ x (mag x).size j hlt)
   have H2 := Lib.hid (get_mag x j hlt)
   have H3 := Lib.hid (topB_lt x (mag x).size j hx hj)
   go_wp2
   refine ⟨⟨j + 1, by omega, by go_num, ?_⟩, by simp [intOf]; omega⟩
   have h256 : (256 : Nat) ^ j ≤ 256 ^ 7 := Nat.pow_le_pow_right (by omega) (by omega)
   rw [or_shl8 _ _ (Nat.lt_of_lt_of_le H3.out h256) (by rw [H2.out]; omega), H2.out, H1.out]
  ·have e : j = (mag x).size := by omega
   subst e
   have H4 := Lib.hid (topB_all x (mag x).size)
   go_wp2
   go_ret2
   simp [H4.out]
def fits8 (x : Nat) : Bool := decide ((mag x).size ≤ 8)
def wv (x : Nat) : Nat := if fits8 x then x else 0
theorem fits8_iff (x : Nat) : fits8 x = decide (x < 2 ^ 64) := by
 unfold fits8
 rw [decide_eq_decide]
 constructor
 ·intro h; have := lt_of_size_mag x 8 h; omega
 ·intro h; exact size_mag_le x 8 (by omega)
theorem wv_lt (x : Nat) : wv x < 2 ^ 64 := by
 unfold wv
 split
 ·rename_i h; rw [fits8_iff] at h; simpa using h
 ·omega
theorem wv_of (x : Nat) (h : fits8 x = true) : wv x = x := by unfold wv; rw [if_pos h]
set_option maxHeartbeats 400000 in
theorem word_any (x : Nat) (w : World) (hx : (mag x).size ≤ 4294967296) : Calls Tryz.prog 211 #[.string (mag x)] w fun e w' => e = .returned (.tuple #[.int .u64 (wv x : Int), .bool (fits8 x)]) ∧ w = w' := by
 by_cases h8 : (mag x).size ≤ 8
 ·have h : fits8 x = true := by unfold fits8; simpa using h8
  rw [wv_of x h, h]
  exact word_c x w h8
 ·have h : fits8 x = false := by unfold fits8; simpa using h8
  have e : wv x = 0 := by unfold wv; rw [h]; rfl
  rw [e, h]
  have h9 : (8 : Int) < ((mag x).size : Int) := by omega
  go_enter Tryz.func211, Tryz.ntmps211
  go_wp2
  go_ret2
  simp
set_option maxHeartbeats 400000 in
theorem words_c (x y : Nat) (w : World) (hx : (mag x).size ≤ 4294967296) (hy : (mag y).size ≤ 4294967296) : Calls Tryz.prog 188 #[.string (mag x), .string (mag y)] w fun e w' => e = .returned (.tuple #[.int .u64 (wv x : Int), .int .u64 (wv y : Int), .bool (fits8 x && fits8 y)]) ∧ w = w' := by
 cases h1 : fits8 x
 all_goals
  have H := Lib.hid h1
  clear h1
  go_enter Tryz.func188, Tryz.ntmps188
  go_wp2_with fail
  refine (word_any x _ hx).mono ?_
  rintro e w' ⟨rfl, rfl⟩
  rw [H.out]
  go_wp2_with fail
  refine (word_any y _ hy).mono ?_
  rintro e w' ⟨rfl, rfl⟩
  go_wp2_with fail
  go_ret3
  simp
theorem u64_of_nat (n : Nat) (h : n < 2 ^ 64) : IntKind.u64.wrap (n : Int) = (n : Int) := by rw [IntKind.wrap_u64]; omega
set_option maxHeartbeats 400000 in
theorem FromInt_c (n : Int) (w : World) (h1 : -9223372036854775808 ≤ n) (h2 : n ≤ 9223372036854775807) : Calls Tryz.prog 128 #[.int .i64 n] w fun e w' => e = .returned (.agg #[.bool (sg n), .string (mg n)]) ∧ Below w.heap.size w w' := by
 by_cases hn : n < 0
 ·obtain ⟨m, hm⟩ : ∃ m : Nat, n = -(m : Int) := ⟨n.natAbs, by omega⟩
  have hm1 : m < 2 ^ 64 := by omega
  have hd : decide (n < 0) = true := by simpa using hn
  have hu : IntKind.u64.wrap (-(IntKind.u64.wrap n)) = (m : Int) := by
   rw [IntKind.wrap_u64, IntKind.wrap_u64, hm]; omega
  have H := Lib.hid hm
  clear hm
  go_enter Tryz.func128, Tryz.ntmps128
  (go_wp2_with fail; refine (magnitude_c m _ hm1).mono ?_; rintro e w' ⟨rfl, hb⟩; (first | (with_reducible (have hb2 := World.plus_of_below ((World.below_plus _ _).trans (hb.mono (World.size_plus _ _)))); obtain ⟨u, rfl⟩ := hb2) | (obtain ⟨u, rfl⟩ := World.plus_of_below hb)); clear hb)
  (go_wp2_with fail; refine (made_c _ n m (by rw [H.out]; rfl) _).mono ?_; rintro e w' ⟨rfl, hb⟩; (first | (with_reducible (have hb2 := World.plus_of_below ((World.below_plus _ _).trans (hb.mono (World.size_plus _ _)))); obtain ⟨u, rfl⟩ := hb2) | (obtain ⟨u, rfl⟩ := World.plus_of_below hb)); clear hb)
  go_wp2_with fail
  refine bodyPost_ret (by simp [results, Tryz.results128, go_sem]; rfl) rfl ?_
  exact ⟨rfl, by (exact belA)⟩
 ·obtain ⟨m, rfl⟩ : ∃ m : Nat, n = (m : Int) := ⟨n.natAbs, by omega⟩
  have hm1 : m < 2 ^ 64 := by omega
  have hd : decide ((m : Int) < 0) = false := by simp
  have hu : IntKind.u64.wrap (m : Int) = (m : Int) := u64_of_nat m hm1
  go_enter Tryz.func128, Tryz.ntmps128
  (go_wp2_with fail; refine (magnitude_c m _ hm1).mono ?_; rintro e w' ⟨rfl, hb⟩; (first | (with_reducible (have hb2 := World.plus_of_below ((World.below_plus _ _).trans (hb.mono (World.size_plus _ _)))); obtain ⟨u, rfl⟩ := hb2) | (obtain ⟨u, rfl⟩ := World.plus_of_below hb)); clear hb)
  (go_wp2_with fail; refine (made_c _ (m : Int) m rfl _).mono ?_; rintro e w' ⟨rfl, hb⟩; (first | (with_reducible (have hb2 := World.plus_of_below ((World.below_plus _ _).trans (hb.mono (World.size_plus _ _)))); obtain ⟨u, rfl⟩ := hb2) | (obtain ⟨u, rfl⟩ := World.plus_of_below hb)); clear hb)
  go_wp2_with fail
  refine bodyPost_ret (by simp [results, Tryz.results128, go_sem]; rfl) rfl ?_
  exact ⟨rfl, by (exact belA)⟩
theorem cmpCompare (x y : Int) (w : World) : Calls Tryz.prog 187 #[.int .i64 x, .int .i64 y] w fun e w' => e = .returned (.int .i64 (Lib.compareInt x y)) ∧ w = w' :=
 (Tryz.cmp_Compare_int x y w).mono fun _ _ ⟨he, hw⟩ => ⟨he, hw.symm⟩
theorem strCompare (a b : ByteArray) (w : World) : Calls Tryz.prog 207 #[.string a, .string b] w fun e w' => e = .returned (.int .i64 (Lib.compareBytes a.data.toList b.data.toList)) ∧ w = w' :=
 (Tryz.strings_Compare a b w).mono fun _ _ ⟨he, hw⟩ => ⟨he, hw.symm⟩
set_option maxHeartbeats 400000 in
theorem cmpOr_c (x y : Int) (w : World) (g c : Nat) (h0 : w.cell? ⟨g, 0, none⟩ = some (.int .i64 x)) (h1 : w.cell? ⟨g, 1, none⟩ = some (.int .i64 y)) : Calls Tryz.prog 206 #[.slice (some ⟨g, 0, none⟩) 2 c] w fun e w' => e = .returned (.int .i64 (if x ≠ 0 then x else y)) ∧ w = w' := by
 by_cases hx : x = 0
 ·have hb : (x != 0) = false := by simp [hx]
  have H := Lib.hid hx
  clear hx
  by_cases hy : y = 0
  ·have hb2 : (y != 0) = false := by simp [hy]
   have H2 := Lib.hid hy
   clear hy
   go_enter Tryz.func206, Tryz.ntmps206
   go_wp2
   go_rounds 3
   go_ret
   simp [H.out, H2.out]
  ·have hb2 : (y != 0) = true := by simp [hy]
   go_enter Tryz.func206, Tryz.ntmps206
   go_wp2
   go_rounds 3
   go_ret
   simp [H.out]
 ·have hb : (x != 0) = true := by simp [hx]
  go_enter Tryz.func206, Tryz.ntmps206
  go_wp2
  go_rounds 3
  go_ret
  simp [hx]
set_option maxHeartbeats 400000 in
theorem compare_c (x y : Nat) (w : World) (hx : (mag x).size ≤ 4294967296) (hy : (mag y).size ≤ 4294967296) : Calls Tryz.prog 183 #[.string (mag x), .string (mag y)] w fun e w' => e = .returned (.int .i64 (cmpN x y)) ∧ Below w.heap.size w w' := by
 have H := Lib.hid (compare_mag x y)
 go_enter Tryz.func183, Tryz.ntmps183
 go_wp2_with (first | (go_at_call 187; refine (cmpCompare _ _ _).mono ?_; rintro e w' ⟨rfl, rfl⟩) | (go_at_call 207; refine (strCompare _ _ _).mono ?_; rintro e w' ⟨rfl, rfl⟩))
 refine (cmpOr_c (Lib.compareInt ((mag x).size : Int) ((mag y).size : Int)) (Lib.compareBytes (mag x).data.toList (mag y).data.toList) _ _ _ (by simp [go_sem]) (by simp [go_sem])).mono ?_
 rintro e w' ⟨rfl, rfl⟩
 rw [H.out]
 go_wp2_with fail
 go_ret
 exact ⟨rfl, by (exact belA)⟩
theorem sg_true (x : Int) (h : x < 0) : sg x = true := by unfold sg; simpa using h
theorem sg_false (x : Int) (h : 0 ≤ x) : sg x = false := by unfold sg; simpa using h
set_option maxHeartbeats 400000 in
theorem Sign_c (x : Int) (w : World) : Calls Tryz.prog 149 #[.agg #[.bool (sg x), .string (mg x)]] w fun e w' => e = .returned (.int .i64 (cmpI x 0)) ∧ Below w.heap.size w w' := by
 have he := mg_isEmpty x
 by_cases h0 : x = 0
 ·rw [show cmpI x 0 = 0 by rw [h0]; rfl]
  have he2 : (mg x).toList.isEmpty = true := by rw [he, h0]; rfl
  clear he h0
  go_enter Tryz.func149, Tryz.ntmps149
  go_wp2
  go_ret
  exact ⟨rfl, by (exact belA)⟩
 ·have he2 : (mg x).toList.isEmpty = false := by rw [he]; simpa using h0
  clear he
  by_cases h1 : x < 0
  ·rw [show cmpI x 0 = -1 by unfold cmpI; rw [if_pos h1]]
   have hs := sg_true x h1
   go_enter Tryz.func149, Tryz.ntmps149
   go_wp2
   go_ret
   exact ⟨rfl, by (exact belA)⟩
  ·rw [show cmpI x 0 = 1 by unfold cmpI; rw [if_neg h1, if_neg h0]]
   have hs := sg_false x (by omega)
   go_enter Tryz.func149, Tryz.ntmps149
   go_wp2
   go_ret
   exact ⟨rfl, by (exact belA)⟩
theorem nAbs_of_neg (x : Int) (h : x < 0) : (x.natAbs : Int) = -x := by omega
theorem nAbs_of_nonneg (x : Int) (h : 0 ≤ x) : (x.natAbs : Int) = x := by omega
theorem cmpI_abs (x y : Int) (h : sg x = sg y) : cmpI x y = if sg x then - cmpN x.natAbs y.natAbs else cmpN x.natAbs y.natAbs := by
 rw [← cmpI_nat]
 cases hs : sg x
 ·have h1 : ¬ x < 0 := by unfold sg at hs; simpa using hs
  have h2 : ¬ y < 0 := by rw [h] at hs; unfold sg at hs; simpa using hs
  rw [nAbs_of_nonneg x (by omega), nAbs_of_nonneg y (by omega)]; rfl
 ·have h1 : x < 0 := by unfold sg at hs; simpa using hs
  have h2 : y < 0 := by rw [h] at hs; unfold sg at hs; simpa using hs
  rw [nAbs_of_neg x h1, nAbs_of_neg y h2]
  simp only [if_true]
  unfold cmpI
  repeat' split
  all_goals omega
theorem cmp_sign (x y : Int) (h : sg x ≠ sg y) : Lib.compareInt (cmpI x 0) (cmpI y 0) = cmpI x y := by
 unfold sg at h
 rw [ne_eq, decide_eq_decide] at h
 unfold Lib.compareInt cmpI
 repeat' split
 all_goals omega
theorem wrap_neg_cmp (x y : Nat) : IntKind.i64.wrap (-cmpN x y) = -cmpN x y := by
 unfold cmpN; repeat' split
 all_goals rfl
set_option maxHeartbeats 400000 in
theorem Compare_c (x y : Int) (w : World) (hx : (mg x).size ≤ 4294967296) (hy : (mg y).size ≤ 4294967296) : Calls Tryz.prog 161 #[.agg #[.bool (sg x), .string (mg x)], .agg #[.bool (sg y), .string (mg y)]] w fun e w' => e = .returned (.int .i64 (cmpI x y)) ∧ Below w.heap.size w w' := by
 by_cases h : sg x = sg y
 ·have H := Lib.hid (cmpI_abs x y h)
  have hw := wrap_neg_cmp x.natAbs y.natAbs
  cases hs : sg x
  ·have hs2 : sg y = false := by rw [← h]; exact hs
   clear h
   go_enter Tryz.func161, Tryz.ntmps161
   (go_wp2_with fail; refine (compare_c x.natAbs y.natAbs _ hx hy).mono ?_; rintro e w' ⟨rfl, hb⟩; (first | (with_reducible (have hb2 := World.plus_of_below ((World.below_plus _ _).trans (hb.mono (World.size_plus _ _)))); obtain ⟨u, rfl⟩ := hb2) | (obtain ⟨u, rfl⟩ := World.plus_of_below hb)); clear hb)
   go_wp2_with fail
   go_ret
   refine ⟨?_, by (exact belA)⟩
   rw [H.out, hs]; rfl
  ·have hs2 : sg y = true := by rw [← h]; exact hs
   clear h
   go_enter Tryz.func161, Tryz.ntmps161
   (go_wp2_with fail; refine (compare_c x.natAbs y.natAbs _ hx hy).mono ?_; rintro e w' ⟨rfl, hb⟩; (first | (with_reducible (have hb2 := World.plus_of_below ((World.below_plus _ _).trans (hb.mono (World.size_plus _ _)))); obtain ⟨u, rfl⟩ := hb2) | (obtain ⟨u, rfl⟩ := World.plus_of_below hb)); clear hb)
   go_wp2_with fail
   go_ret
   refine ⟨?_, by (exact belA)⟩
   rw [H.out, hs]; rfl
 ·have H := Lib.hid (cmp_sign x y h)
  have hb : (!sg x == sg y) = true := by simp [h]
  clear h
  go_enter Tryz.func161, Tryz.ntmps161
  go_wp2_with fail
  ((first | (with_reducible refine wp_region_steady_plus (by kernel_rfl) (by kernel_rfl) ?_) | refine wp_region_steady (by kernel_rfl) (by kernel_rfl) ?_); repeat go_big_quiet_step (first | (go_at_call_of 149 (Value.agg #[.bool (sg x), .string (mg x)]); refine Calls.steady (Sign_c x _)) | (go_at_call_of 149 (Value.agg #[.bool (sg y), .string (mg y)]); refine Calls.steady (Sign_c y _)) | (go_at_call 187; refine Calls.same_steady (cmpCompare _ _ _)))); (refine wpQuiet_nil ?_; rintro _ ⟨u, rfl⟩)
  go_wp2_with fail
  go_ret
  refine ⟨?_, by (exact belA)⟩
  rw [H.out]; rfl
def topByte (n : Nat) : Nat := n / 256 ^ (nd 256 n - 1)
theorem get_first (n : Nat) (h : 0 < n) : ∃ hp : 0 < (mag n).size, (((mag n)[0]'hp).toNat) = topByte n ∧ topByte n < 256 := by
 unfold topByte
 have hp : 0 < (mag n).size := by rw [size_mag]; exact nd_pos 256 (by omega) n h
 have h2 : n / 256 ^ (nd 256 n - 1) < 256 := by
  rw [Nat.div_lt_iff_lt_mul (Nat.pow_pos (by omega))]
  have := lt_pow_nd 256 (by omega) n
  have h3 := nd_pos 256 (by omega) n h
  rw [show nd 256 n = 1 + (nd 256 n - 1) by omega, Nat.pow_add] at this
  exact this
 refine ⟨hp, ?_, h2⟩
 rw [get_mag, size_mag, Nat.sub_zero, Nat.mod_eq_of_lt h2]
theorem bits_top (n : Nat) (h : 0 < n) : 8 * (nd 256 n - 1) + nd 2 (topByte n) = nd 2 n := by
 unfold topByte
 obtain ⟨k, hk⟩ : ∃ k, nd 256 n = k + 1 := ⟨nd 256 n - 1, by have := nd_pos 256 (by omega) n h; omega⟩
 rw [hk, Nat.add_sub_cancel]
 have h1 := pow_nd_le 256 (by omega) n h
 rw [hk, Nat.add_sub_cancel] at h1
 have hpos : 0 < n / 256 ^ k := Nat.div_pos h1 (Nat.pow_pos (by omega))
 obtain ⟨j, hj⟩ : ∃ j, nd 2 (n / 256 ^ k) = j + 1 := ⟨nd 2 (n / 256 ^ k) - 1, by have := nd_pos 2 (by omega) _ hpos; omega⟩
 have h2 := pow_nd_le 2 (by omega) _ hpos
 have h3 := lt_pow_nd 2 (by omega) (n / 256 ^ k)
 rw [hj, Nat.add_sub_cancel] at h2
 rw [hj] at h3
 rw [hj]
 symm
 have e : (256 : Nat) ^ k = 2 ^ (8 * k) := by rw [show (256 : Nat) = 2 ^ 8 from rfl, ← Nat.pow_mul]
 have := nd_of_bounds 2 (by omega) n (8 * k + j) (by
  rw [Nat.pow_add, Nat.mul_comm, ← e]
  calc 2 ^ j * 256 ^ k ≤ n / 256 ^ k * 256 ^ k := Nat.mul_le_mul_right _ h2
   _ ≤ n := Nat.div_mul_le_self _ _) (by
  rw [Nat.add_assoc, Nat.pow_add, Nat.mul_comm, ← e]
  exact (Nat.div_lt_iff_lt_mul (Nat.pow_pos (by omega))).1 h3)
 rw [this]; omega
theorem len8 (x : Nat) (w : World) (h : x < 256) : Calls Tryz.prog 215 #[.int .u8 x] w fun e w' => e = .returned (.int .i64 ((nd 2 x : Nat) : Int)) ∧ w = w' :=
 (Tryz.bits_Len8 (x : Int) w (by omega) (by omega)).mono fun _ _ ⟨he, hw⟩ => ⟨by rw [he, ← bitLen_nd x (by omega)]; rfl, hw.symm⟩
end Go.Proofs.YtlblfgbpogljoaaGreatDoor

end
section
/- No program in sight: digits to the base 2^32, rows of cells that hold them, and worlds in which one row is rewritten. -/
namespace Vi
open Go Go.RowKit
def dg (x i : Nat) : Nat := x / 4294967296 ^ i % 4294967296
theorem dg_lt (x i : Nat) : dg x i < 4294967296 := Nat.mod_lt _ (by omega)
theorem dg_zero (i : Nat) : dg 0 i = 0 := by unfold dg; simp
theorem dg_big (x n i : Nat) (h : x < 4294967296 ^ n) (hi : n ≤ i) : dg x i = 0 := by
 unfold dg
 have : 4294967296 ^ n ≤ 4294967296 ^ i := Nat.pow_le_pow_right (by omega) hi
 rw [Nat.div_eq_of_lt (by omega)]
theorem mod_succ (x i : Nat) : x % 4294967296 ^ (i + 1) = x % 4294967296 ^ i + 4294967296 ^ i * dg x i := by
 unfold dg
 rw [Nat.pow_succ, Nat.mod_mul]
theorem div_succ (x i : Nat) : x / 4294967296 ^ i = dg x i + 4294967296 * (x / 4294967296 ^ (i + 1)) := by
 unfold dg
 rw [Nat.pow_succ, ← Nat.div_div_eq_div_mul]
 exact (Nat.mod_add_div _ _).symm
theorem dg_top (x n : Nat) (h : nd 4294967296 x = n + 1) : 0 < dg x n := by
 have h0 : 0 < x := by
  rcases Nat.eq_zero_or_pos x with h2 | h2
  ·subst h2; rw [nd_zero] at h; omega
  ·exact h2
 have h1 := pow_nd_le 4294967296 (by omega) x h0
 have h2 := lt_pow_nd 4294967296 (by omega) x
 rw [h, Nat.add_sub_cancel] at h1
 rw [h] at h2
 unfold dg
 have h3 : x / 4294967296 ^ n < 4294967296 := by
  rw [Nat.div_lt_iff_lt_mul (Nat.pow_pos (by omega)), Nat.mul_comm, ← Nat.pow_succ]; exact h2
 rw [Nat.mod_eq_of_lt h3]
 exact Nat.div_pos h1 (Nat.pow_pos (by omega))
theorem nd_le_of_dg (x n : Nat) (hx : x < 4294967296 ^ (n + 1)) (h : dg x n = 0) : x < 4294967296 ^ n := by
 have h1 := mod_succ x n
 rw [h, Nat.mod_eq_of_lt hx, Nat.mul_zero, Nat.add_zero] at h1
 rw [h1]
 exact Nat.mod_lt _ (Nat.pow_pos (by omega))
def arr (k : IntKind) (f : Nat → Nat) (n : Nat) : Array Value := ((List.range n).map fun i => Value.int k (f i : Int)).toArray
theorem arr_size (k : IntKind) (f : Nat → Nat) (n : Nat) : (arr k f n).size = n := by unfold arr; simp
theorem arr_get (k : IntKind) (f : Nat → Nat) (n i : Nat) (h : i < n) : (arr k f n)[i]? = some (.int k (f i : Int)) := by
 unfold arr; simp [h]
theorem arr_none (k : IntKind) (f : Nat → Nat) (n i : Nat) (h : n ≤ i) : (arr k f n)[i]? = none := by
 apply Array.getElem?_eq_none; rw [arr_size]; exact h
def upd (f : Nat → Nat) (i v : Nat) : Nat → Nat := fun k => if k = i then v else f k
theorem arr_set (k : IntKind) (f : Nat → Nat) (n i v : Nat) : (arr k f n).setIfInBounds i (.int k (v : Int)) = arr k (upd f i v) n := by
 apply Array.ext_getElem?
 intro j
 rw [Array.getElem?_setIfInBounds, arr_size]
 by_cases hj : j < n
 ·by_cases he : i = j
  ·subst he; rw [if_pos rfl, if_pos hj, arr_get k _ n i hj, show upd f i v i = v from if_pos rfl]
  ·rw [if_neg he, arr_get k _ n j hj, arr_get k _ n j hj, show upd f i v j = f j from if_neg (Ne.symm he)]
 ·rw [arr_none k _ n j (by omega), arr_none k _ n j (by omega)]
  split
  ·rw [if_neg (by omega)]
  ·rfl
theorem arr_congr (k : IntKind) (f g : Nat → Nat) (n : Nat) (h : ∀ i, i < n → f i = g i) : arr k f n = arr k g n := by
 unfold arr
 rw [List.map_congr_left fun i hi => by rw [h i (List.mem_range.1 hi)]]
theorem arr_toList (k : IntKind) (f : Nat → Nat) (n : Nat) : (arr k f n).toList = (List.range n).map fun i => Value.int k (f i : Int) := rfl
theorem madeCells_arr (k : IntKind) (n : Nat) : madeCells #[Value.int k 0] n = arr k (fun _ => 0) n := by
 apply Array.toList_inj.1
 rw [toList_madeCells_one, arr_toList]
 apply List.ext_getElem?
 intro i
 by_cases h : i < n <;> simp [h]
theorem arr_oneCell (k : IntKind) (f : Nat → Nat) (n : Nat) : ∀ v ∈ (arr k f n).toList, v.oneCell' = true := by
 intro v hv
 rw [arr_toList, List.mem_map] at hv
 obtain ⟨i, _, rfl⟩ := hv
 rfl
end Vi
namespace Go
open Go.RowKit
def World.row (w : World) (g : Nat) (t : TypeId) (cs : Array Value) : World := { w with heap := w.heap.setIfInBounds g (.cells cs t (0, 0)) }
section
variable (w : World) (g : Nat) (t : TypeId) (cs : Array Value)
theorem World.heap_row_same (h : g < w.heap.size) : (w.row g t cs).heap[g]? = some (.cells cs t (0, 0)) := by
 show (w.heap.setIfInBounds g _)[g]? = _
 rw [Array.getElem?_setIfInBounds_self_of_lt h]
theorem World.heap_row_other (k : Nat) (h : k ≠ g) : (w.row g t cs).heap[k]? = w.heap[k]? := by
 show (w.heap.setIfInBounds g _)[k]? = _
 rw [Array.getElem?_setIfInBounds, if_neg (Ne.symm h)]
@[go_sem] theorem World.size_row : (w.row g t cs).heap.size = w.heap.size := by
 show (w.heap.setIfInBounds g _).size = _
 simp
@[go_sem] theorem World.cell?_row_same (i : Nat) (h : g < w.heap.size) : (w.row g t cs).cell? ⟨g, i, none⟩ = cs[i]? := by
 unfold World.cell?
 rw [World.heap_row_same w g t cs h]; rfl
@[go_sem] theorem World.cell?_row_other (k i : Nat) (h : k ≠ g) : (w.row g t cs).cell? ⟨k, i, none⟩ = w.cell? ⟨k, i, none⟩ :=
 World.cell?_of_block (World.heap_row_other w g t cs k h)
@[go_sem] theorem World.frozen?_row_same (i : Nat) (h : g < w.heap.size) : (w.row g t cs).frozen? ⟨g, i, none⟩ = false := by
 unfold World.frozen?
 rw [World.heap_row_same w g t cs h]; simp
@[go_sem] theorem World.frozen?_row_other (k i : Nat) (h : k ≠ g) : (w.row g t cs).frozen? ⟨k, i, none⟩ = w.frozen? ⟨k, i, none⟩ :=
 World.frozen?_of_block (World.heap_row_other w g t cs k h)
@[go_sem] theorem World.setCell_row (i : Nat) (v : Value) : (w.row g t cs).setCell ⟨g, i, none⟩ v = w.row g t (cs.setIfInBounds i v) := by
 unfold World.setCell World.row
 simp only [World.mk.injEq, and_true]
 apply Array.ext_getElem?
 intro k
 rw [Array.getElem?_modify]
 by_cases hk : g = k
 ·subst hk
  rw [if_pos rfl]
  by_cases h : g < w.heap.size
  ·rw [Array.getElem?_setIfInBounds_self_of_lt h, Array.getElem?_setIfInBounds_self_of_lt h]; rfl
  ·rw [Array.getElem?_eq_none (by simpa using h), Array.getElem?_eq_none (by simpa using h)]; rfl
 ·rw [if_neg hk, Array.getElem?_setIfInBounds, if_neg hk, Array.getElem?_setIfInBounds, if_neg hk]
theorem World.row_self (h : w.heap[g]? = some (.cells cs t (0, 0))) : w.row g t cs = w := by
 have e : w.heap.setIfInBounds g (.cells cs t (0, 0)) = w.heap := by
  apply Array.ext_getElem?
  intro k
  rw [Array.getElem?_setIfInBounds]
  by_cases hk : g = k
  ·subst hk
   have hlt : g < w.heap.size := (Array.getElem?_eq_some_iff.1 h).1
   rw [if_pos rfl, if_pos hlt, h]
  ·rw [if_neg hk]
 unfold World.row
 rw [e]
@[go_sem] theorem World.row_row (cs' : Array Value) : (w.row g t cs).row g t cs' = w.row g t cs' := by
 unfold World.row
 simp only [World.mk.injEq, and_true]
 apply Array.ext_getElem?
 intro k
 simp only [Array.getElem?_setIfInBounds, Array.size_setIfInBounds]
 split <;> rfl
@[go_sem] theorem World.row_drew : (w.drew).row g t cs = (w.row g t cs).drew := rfl
@[go_sem] theorem World.row_drewN (n : Nat) : (w.drewN n).row g t cs = (w.row g t cs).drewN n := rfl
@[go_sem] theorem World.alloc_drewN (n : Nat) (o : Obj) : (w.drewN n).alloc o = (w.alloc o).drewN n := rfl
@[go_sem] theorem World.setCell_drewN (n : Nat) (a : Addr) (v : Value) : (w.drewN n).setCell a v = (w.setCell a v).drewN n := rfl
theorem World.row_alloc (cur : Array Value) : (w.alloc (.cells cur t)).row w.heap.size t cs = w.alloc (.cells cs t) := by
 unfold World.row World.alloc
 simp only [World.mk.injEq, and_true]
 apply Array.ext_getElem?
 intro k
 rw [Array.getElem?_setIfInBounds]
 by_cases hk : w.heap.size = k
 ·subst hk; rw [if_pos rfl, if_pos (by simp)]; simp
 ·rw [if_neg hk, Array.getElem?_push, Array.getElem?_push]; rw [if_neg (Ne.symm hk), if_neg (Ne.symm hk)]
theorem World.row_setRow (cur : Array Value) (h : w.heap[g]? = some (.cells cur t (0, 0))) : w.setRow g cs = w.row g t cs := by
 have e : (w.setRow g cs).heap = (w.row g t cs).heap := by
  apply Array.ext_getElem?
  intro k
  by_cases hk : k = g
  ·subst hk
   rw [setRow_heap w k cur cs t (0, 0) h, World.heap_row_same _ _ _ _ (Array.getElem?_eq_some_iff.1 h).1]
  ·rw [setRow_other w g k cs hk, World.heap_row_other _ _ _ _ _ hk]
 have e2 : (w.setRow g cs) = { w with heap := (w.setRow g cs).heap } := rfl
 rw [e2, e]; rfl
end
theorem _root_.Go.RowKit.Below.row {B : Nat} {a w : World} (h : Below B a w) {g : Nat} (hg : B ≤ g) (t : TypeId) (cs : Array Value) : Below B a (w.row g t cs) :=
 h.trans ⟨rfl, rfl, rfl, by rw [World.size_row]; exact Nat.le_refl _, fun k hk => World.heap_row_other w g t cs k (by omega)⟩
end Go

end
section
/- The package integer: digits to the base 2^32, sums, differences and products of magnitudes. -/
namespace Go.Proofs.YtlblfgbpogljoaaGreatDoor
open Go Go.RowKit
open Vi
theorem make32 (n : Nat) (w : World) (h : n ≤ 8589934592) : (Instr.makeSlice 226 (.int .i64 (n : Int)) (.int .i64 (n : Int))).run Tryz.prog w = .ok (.slice (some ⟨w.heap.size, 0, none⟩) n n) (w.alloc (.cells (arr .u32 (fun _ => 0) n) 228)) := by
 have hinfo : (Tryz.prog.info? 228).map (fun i => (i.zero, i.size, i.bytes)) = some (some (.int .u32 0), 1, 4) := by kernel_rfl
 obtain ⟨i0, hi, hz0, hz1, hz2⟩ := info_parts hinfo
 have hr := run_make (P := Tryz.prog) w 226 228 i0 (.int .u32 0) (by kernel_rfl) hi hz0 .i64 .i64 n n (by omega) (Int.le_refl _) (by rw [hz2]; omega) (by omega)
 rw [hr, hz1]
 simp only [Int.toNat_natCast, Nat.mul_one, Value.cells]
 rw [madeCells_arr]
def up4 (n : Nat) : Nat := (n + 3) / 4
theorem up4_nd (x : Nat) : up4 (mag x).size = nd 4294967296 x := by
 rw [size_mag]
 unfold up4
 by_cases h : x = 0
 ·subst h; rfl
 ·have h0 : 0 < x := by omega
  have h1 := pow_nd_le 256 (by omega) x h0
  have h2 := lt_pow_nd 256 (by omega) x
  have h3 := nd_pos 256 (by omega) x h0
  have e : (nd 256 x + 3) / 4 = (nd 256 x - 1) / 4 + 1 := by omega
  rw [e]
  symm
  apply nd_of_bounds 4294967296 (by omega)
  ·have h4 : (4294967296 : Nat) ^ ((nd 256 x - 1) / 4) ≤ 256 ^ (nd 256 x - 1) := by
     rw [show (4294967296 : Nat) = 256 ^ 4 from rfl, ← Nat.pow_mul]
     exact Nat.pow_le_pow_right (by omega) (by omega)
   exact Nat.le_trans h4 h1
  ·have h4 : 256 ^ nd 256 x ≤ (4294967296 : Nat) ^ ((nd 256 x - 1) / 4 + 1) := by
     rw [show (4294967296 : Nat) = 256 ^ 4 from rfl, ← Nat.pow_mul]
     exact Nat.pow_le_pow_right (by omega) (by omega)
   exact Nat.lt_of_lt_of_le h2 h4
def digPart (x j : Nat) : Nat → Nat := fun k => dg (x % 256 ^ j) k
theorem digPart_zero (x n : Nat) : arr .u32 (digPart x 0) n = arr .u32 (fun _ => 0) n := by
 apply arr_congr; intro i _; unfold digPart; rw [Nat.pow_zero, Nat.mod_one, dg_zero]
theorem pow256 (q r : Nat) : 256 ^ (4 * q + r) = 4294967296 ^ q * 256 ^ r := by
 rw [Nat.pow_add, Nat.pow_mul]
theorem mod256_succ (x j : Nat) : x % 256 ^ (j + 1) = x % 256 ^ j + 256 ^ j * (x / 256 ^ j % 256) := by
 rw [Nat.pow_succ, Nat.mod_mul]
theorem pow_r (r : Nat) (h : r < 4) : 256 ^ (r + 1) ≤ 4294967296 := by
 have : (256 : Nat) ^ (r + 1) ≤ 256 ^ 4 := Nat.pow_le_pow_right (by omega) (by omega)
 omega
theorem part_at (x q r : Nat) (h : r < 4) : dg (x % 256 ^ (4 * q + r)) q = x / 4294967296 ^ q % 256 ^ r := by
 unfold dg
 rw [pow256, Nat.mod_mul_right_div_self, Nat.mod_eq_of_lt]
 have h1 := Nat.mod_lt (x / 4294967296 ^ q) (show 0 < 256 ^ r from Nat.pow_pos (by omega))
 have h2 := pow_r r h
 have h3 : (256 : Nat) ^ r ≤ 256 ^ (r + 1) := Nat.pow_le_pow_right (by omega) (by omega)
 omega
theorem part_step (x q r : Nat) (h : r < 4) : dg (x % 256 ^ (4 * q + r + 1)) q = dg (x % 256 ^ (4 * q + r)) q + x / 256 ^ (4 * q + r) % 256 * 256 ^ r := by
 rw [part_at x q r h]
 have e : dg (x % 256 ^ (4 * q + r + 1)) q = x / 4294967296 ^ q % 256 ^ (r + 1) := by
  unfold dg
  rw [Nat.add_assoc, pow256, Nat.mod_mul_right_div_self, Nat.mod_eq_of_lt]
  have h1 := Nat.mod_lt (x / 4294967296 ^ q) (show 0 < 256 ^ (r + 1) from Nat.pow_pos (by omega))
  have h2 := pow_r r h
  omega
 rw [e, mod256_succ, pow256, ← Nat.div_div_eq_div_mul, Nat.mul_comm (256 ^ r)]
theorem part_other (x q r k : Nat) (h : r < 4) (hk : k ≠ q) : dg (x % 256 ^ (4 * q + r + 1)) k = dg (x % 256 ^ (4 * q + r)) k := by
 rcases Nat.lt_or_gt_of_ne hk with h1 | h1
 ·have e : ∀ n, 4 * (k + 1) ≤ n → dg (x % 256 ^ n) k = dg x k := by
    intro n hn
    have e1 : dg (x % 256 ^ n) k = x % 256 ^ n % 4294967296 ^ (k + 1) / 4294967296 ^ k := by
     rw [Nat.pow_succ, Nat.mod_mul_right_div_self]; rfl
    have e2 : dg x k = x % 4294967296 ^ (k + 1) / 4294967296 ^ k := by
     rw [Nat.pow_succ, Nat.mod_mul_right_div_self]; rfl
    rw [e1, e2]
    congr 1
    obtain ⟨m, rfl⟩ : ∃ m, n = 4 * (k + 1) + m := ⟨n - 4 * (k + 1), by omega⟩
    rw [pow256, Nat.mod_mul_right_mod]
  rw [e _ (by omega), e _ (by omega)]
 ·have e : ∀ n, n ≤ 4 * k → dg (x % 256 ^ n) k = 0 := by
    intro n hn
    unfold dg
    have h2 := Nat.mod_lt x (show 0 < 256 ^ n from Nat.pow_pos (by omega))
    have h3 : (256 : Nat) ^ n ≤ 256 ^ (4 * k) := Nat.pow_le_pow_right (by omega) hn
    have h4 : (256 : Nat) ^ (4 * k) = 4294967296 ^ k := by rw [Nat.pow_mul]
    rw [Nat.div_eq_of_lt (by omega)]
  rw [e _ (by omega), e _ (by omega)]
theorem or_byte (a d r : Nat) (h : r < 4) (ha : a < 256 ^ r) (hd : d < 256) : bits BinOp.or IntKind.u32 (a : Int) ((d : Int) % 4294967296 * 2 ^ (8 * r) % 4294967296) = ((a + d * 256 ^ r : Nat) : Int) := by
 have h1 := pow_r r h
 have h2 : d * 256 ^ r < 4294967296 := by
  have : (d + 1) * 256 ^ r ≤ 256 * 256 ^ r := Nat.mul_le_mul_right _ hd
  rw [Nat.pow_succ] at h1
  have h3 : 0 < 256 ^ r := Nat.pow_pos (by omega)
  rw [Nat.add_mul] at this
  omega
 have e : (d : Int) % 4294967296 * 2 ^ (8 * r) % 4294967296 = ((d * 256 ^ r : Nat) : Int) := by
  rw [show (2 : Int) ^ (8 * r) = ((256 ^ r : Nat) : Int) by rw [Int.pow_mul, Int.natCast_pow]; rfl]
  rw [show (d : Int) % 4294967296 = (d : Int) by omega, ← Int.natCast_mul]
  omega
 have h3 : (256 : Nat) ^ r ≤ 256 ^ (r + 1) := Nat.pow_le_pow_right (by omega) (by omega)
 have e2 : (256 : Nat) ^ r = 2 ^ (8 * r) := by rw [show (256 : Nat) = 2 ^ 8 from rfl, ← Nat.pow_mul]
 rw [e, u32_or_nat _ _ (by omega) h2, Nat.or_comm, nat_join (8 * r) (d * 256 ^ r) a (by rw [e2, Nat.mul_mod_left]) (by rw [← e2]; exact ha), Nat.add_comm]
theorem digPart_succ (x j n : Nat) (hj : j / 4 < n) : (arr .u32 (digPart x j) n).setIfInBounds (j / 4) (.int .u32 (bits BinOp.or IntKind.u32 (digPart x j (j / 4) : Int) (((x / 256 ^ j % 256 : Nat) : Int) % 4294967296 * 2 ^ (8 * (j % 4)) % 4294967296))) = arr .u32 (digPart x (j + 1)) n := by
 obtain ⟨q, r, hr, rfl⟩ : ∃ q r, r < 4 ∧ j = 4 * q + r := ⟨j / 4, j % 4, by omega, by omega⟩
 have e1 : (4 * q + r) / 4 = q := by omega
 have e2 : (4 * q + r) % 4 = r := by omega
 rw [e1, e2]
 have hd := Nat.mod_lt (x / 256 ^ (4 * q + r)) (show 0 < 256 by omega)
 have ha : digPart x (4 * q + r) q < 256 ^ r := by
  show dg _ _ < _
  rw [part_at x q r hr]
  exact Nat.mod_lt _ (Nat.pow_pos (by omega))
 rw [or_byte _ _ r hr ha hd, arr_set]
 apply arr_congr
 intro k _
 unfold upd
 by_cases hk : k = q
 ·subst hk
  rw [if_pos rfl]
  exact (part_step x k r hr).symm
 ·rw [if_neg hk]
  exact (part_other x q r k hr hk).symm
theorem digPart_all (x n : Nat) : arr .u32 (digPart x (mag x).size) n = arr .u32 (dg x) n := by
 apply arr_congr
 intro i _
 unfold digPart
 rw [Nat.mod_eq_of_lt (lt_of_size_mag x _ (Nat.le_refl _))]
set_option maxHeartbeats 400000 in
theorem digits_c (x : Nat) (w : World) (hx : (mag x).size ≤ 4294967296) : Calls Tryz.prog 194 #[.string (mag x)] w fun e w' => e = .returned (.slice (some ⟨w.heap.size, 0, none⟩) (nd 4294967296 x) (nd 4294967296 x)) ∧ ∃ k, w' = (w.alloc (.cells (arr .u32 (dg x) (nd 4294967296 x)) 228)).drewN k := by
 have hm := make32 (up4 (mag x).size) w (by unfold up4; omega)
 have e4 : (((mag x).size : Int) + 3) / 4 = (up4 (mag x).size : Int) := by unfold up4; omega
 go_enter Tryz.func194, Tryz.ntmps194
 go_wp2_with fail
 have H0 := Lib.hid (digPart_zero x (up4 (mag x).size))
 have hn : (mag x).size ≤ 4 * up4 (mag x).size := by unfold up4; omega
 clear e4 hm
 go_loopw [13] (fun k wr => ∃ j : Nat, j ≤ (mag x).size ∧ k = .int .i64 j ∧ wr = (w.alloc (.cells (arr .u32 (digPart x j) (up4 (mag x).size)) 228)).drewN j) (fun k _ => (mag x).size - (intOf k).toNat)
 case atStart => exact ⟨0, Nat.zero_le _, rfl, by rw [H0.out]; rfl⟩
 case round =>
  obtain ⟨j, hj, rfl, rfl⟩ := hrel
  by_cases hlt : j < (mag x).size
  ·have hg := arr_get .u32 (digPart x j) (up4 (mag x).size) (j / 4) (by omega)
   obtain ⟨p, hp⟩ : ∃ p : Nat, p + 1 + j = (mag x).size := ⟨(mag x).size - 1 - j, by omega⟩
   have hb : p < (mag x).size := by omega
   have hget := get_mag x p hb
   rw [show (mag x).size - 1 - p = j by omega] at hget
   have e5 : ((mag x).size : Int) - 1 - (j : Int) = (p : Int) := by omega
   have H1 := Lib.hid hget
   have H2 := Lib.hid hp
   clear hget hp
   go_wp2_with fail
   (refine wp_region_exact_t 15 (by kernel_rfl) (by kernel_rfl) ?_; simp only [List.take_succ_cons, List.take_zero, List.drop_succ_cons, List.drop_zero]; repeat go_big_quiet_step (fail)); (refine wpQuiet_nil ?_; rintro _ rfl)
   go_wp2_with fail
   refine ⟨⟨j + 1, by omega, by go_num, ?_⟩, by simp [intOf]; omega⟩
   rw [H1.out, digPart_succ x j _ (by omega)]
  ·have e : j = (mag x).size := by omega
   subst e
   have H3 := Lib.hid (digPart_all x (up4 (mag x).size))
   have H4 := Lib.hid (up4_nd x)
   go_wp2_with fail
   go_ret
   refine ⟨?_, (mag x).size, ?_⟩
   ·show Ending.returned (.slice _ _ _) = _
    rw [H4.out]
   ·rw [H3.out, H4.out]
def Row32 (w : World) (g n : Nat) (f : Nat → Nat) : Prop := ∀ i, i < n → w.cell? ⟨g, i, none⟩ = some (.int .u32 (f i : Int))
def lenOfS : Value → Nat | .slice _ n _ => n | _ => 0
theorem nd_top (x m : Nat) (h1 : nd 4294967296 x ≤ m + 1) (h : dg x m ≠ 0) : nd 4294967296 x = m + 1 := by
 apply Decidable.byContradiction
 intro h2
 have h3 := lt_pow_nd 4294967296 (by omega) x
 exact h (dg_big x _ m h3 (by omega))
theorem nd_low (x m : Nat) (h1 : nd 4294967296 x ≤ m + 1) (h : dg x m = 0) : nd 4294967296 x ≤ m := by
 apply nd_le 4294967296 (by omega)
 apply nd_le_of_dg x m _ h
 have h3 := lt_pow_nd 4294967296 (by omega) x
 exact Nat.lt_of_lt_of_le h3 (Nat.pow_le_pow_right (by omega) h1)
set_option maxHeartbeats 400000 in
theorem trim_c (x n c g : Nat) (w : World) (hx : x < 4294967296 ^ n) (hn : n ≤ 8589934592) (hc : n ≤ c) (hr : Row32 w g n (dg x)) : Calls Tryz.prog 217 #[.slice (some ⟨g, 0, none⟩) n c] w fun e w' => e = .returned (.slice (some ⟨g, 0, none⟩) (nd 4294967296 x) c) ∧ w = w' := by
 have hle := nd_le 4294967296 (by omega) x n hx
 go_enter Tryz.func217, Tryz.ntmps217
 go_wp2_with fail
 go_loop [0] (fun v => ∃ j : Nat, nd 4294967296 x ≤ j ∧ j ≤ n ∧ v = .slice (some ⟨g, 0, none⟩) j c) (fun v => lenOfS v)
 case atStart => exact ⟨n, hle, Nat.le_refl _, rfl⟩
 case round =>
  obtain ⟨j, h1, h2, rfl⟩ := hrel
  cases j with
  | zero =>
   have e : nd 4294967296 x = 0 := by omega
   have H := Lib.hid e
   clear e
   go_wp2_with fail
   go_ret
   exact ⟨by rw [H.out]; rfl, rfl⟩
  | succ m =>
   have hcell := hr m (by omega)
   have e1 : ((m + 1 : Nat) : Int) = (m : Int) + 1 := by omega
   by_cases h0 : dg x m = 0
   ·have hb : ((dg x m : Int) == 0) = true := by rw [h0]; rfl
    have H := Lib.hid (nd_low x m h1 h0)
    clear h0
    go_wp2_with fail
    exact ⟨⟨m, H.out, by omega, rfl⟩, by simp [lenOfS]⟩
   ·have hb : ((dg x m : Int) == 0) = false := by rw [beq_eq_false_iff_ne]; omega
    have H := Lib.hid (nd_top x m h1 h0)
    clear h0
    go_wp2_with fail
    go_ret
    exact ⟨by rw [H.out]; rfl, rfl⟩
theorem make8 (n : Nat) (w : World) (h : n ≤ 8589934592 * 4) : (Instr.makeSlice 184 (.int .i64 (n : Int)) (.int .i64 (n : Int))).run Tryz.prog w = .ok (.slice (some ⟨w.heap.size, 0, none⟩) n n) (w.alloc (.cells (arr .u8 (fun _ => 0) n) 5)) := by
 have hinfo : (Tryz.prog.info? 5).map (fun i => (i.zero, i.size, i.bytes)) = some (some (.int .u8 0), 1, 1) := by kernel_rfl
 obtain ⟨i0, hi, hz0, hz1, hz2⟩ := info_parts hinfo
 have hr := run_make (P := Tryz.prog) w 184 5 i0 (.int .u8 0) (by kernel_rfl) hi hz0 .i64 .i64 n n (by omega) (Int.le_refl _) (by rw [hz2]; omega) (by omega)
 rw [hr, hz1]
 simp only [Int.toNat_natCast, Nat.mul_one, Value.cells]
 rw [madeCells_arr]
def byteFn (x N c : Nat) : Nat → Nat := fun p => if p < 4 * N ∧ 4 * N - 1 - p < c then x / 256 ^ (4 * N - 1 - p) % 256 else 0
theorem byteFn_zero (x N n : Nat) : arr .u8 (byteFn x N 0) n = arr .u8 (fun _ => 0) n := by
 apply arr_congr; intro i _; unfold byteFn; rw [if_neg (by omega)]
theorem byteFn_succ (x N c p : Nat) (hp : p + 1 + c = 4 * N) : upd (byteFn x N c) p (x / 256 ^ c % 256) = byteFn x N (c + 1) := by
 funext k
 unfold upd byteFn
 by_cases h : k = p
 ·subst h
  rw [if_pos rfl, show 4 * N - 1 - k = c by omega, if_pos (by omega)]
 ·rw [if_neg h]
  by_cases h2 : k < 4 * N ∧ 4 * N - 1 - k < c
  ·rw [if_pos h2, if_pos (by omega)]
  ·rw [if_neg h2, if_neg (by omega)]
theorem byteFn_lt (x N c p : Nat) : byteFn x N c p < 256 := by
 unfold byteFn; split
 ·exact Nat.mod_lt _ (by omega)
 ·omega
theorem dg_byte (x i k : Nat) (h : k < 4) : dg x i / 256 ^ k % 256 = x / 256 ^ (4 * i + k) % 256 := by
 unfold dg
 rw [pow256, ← Nat.div_div_eq_div_mul]
 generalize x / 4294967296 ^ i = y
 have e : (4294967296 : Nat) = 256 ^ k * 256 ^ (4 - k) := by
  rw [← Nat.pow_add, show k + (4 - k) = 4 by omega]
 rw [e, Nat.mod_mul_right_div_self]
 have e2 : (256 : Nat) ^ (4 - k) = 256 * 256 ^ (3 - k) := by
  rw [show 4 - k = 3 - k + 1 by omega, Nat.pow_succ, Nat.mul_comm]
 rw [e2, Nat.mod_mul_right_mod]
theorem byte_int (x i k : Nat) (h : k < 4) : (dg x i : Int) / 2 ^ (8 * k) % 256 = ((x / 256 ^ (4 * i + k) % 256 : Nat) : Int) := by
 rw [← dg_byte x i k h, show (2 : Int) ^ (8 * k) = ((256 ^ k : Nat) : Int) by rw [Int.pow_mul, Int.natCast_pow]; rfl]
 rfl
def strFn (f : Nat → Nat) (n : Nat) : ByteArray := ⟨((List.range n).map fun i => UInt8.ofNat (f i)).toArray⟩
theorem conv8 (f : Nat → Nat) (n c : Nat) (w : World) (hf : ∀ i, f i < 256) :
    (convert 184 9 (.slice (some ⟨w.heap.size, 0, none⟩) n c)).run Tryz.prog (w.alloc (.cells (arr .u8 f n) 5)) = .ok (.string (strFn f n)) (w.alloc (.cells (arr .u8 f n) 5)) := by
 have hlen : ((List.range n).map fun i => (f i : Int)).length = n := by simp
 have := run_convert_bytes_arg (P := Tryz.prog) (w.alloc (.cells (arr .u8 f n) 5)) 184 5 Tryz.underlying184 Tryz.underlying5 w.heap.size 0 n c ((List.range n).map fun i => (f i : Int)) hlen (fun i hi => by
  rw [Nat.zero_add, World.cell?_alloc_at _ _ _ _ rfl, arr_get .u8 f n i hi]
  simp [hi]) 9 Tryz.underlying9
 rw [this]
 have e : strOfNums ((List.range n).map fun i => (f i : Int)) = strFn f n := by
  unfold strOfNums strFn
  rw [List.map_map]; rfl
 rw [e]
theorem val_range (x n : Nat) : val 256 ((List.range n).map fun k => x / 256 ^ k % 256) = x % 256 ^ n := by
 induction n with
 | zero => simp [val, Nat.mod_one]
 | succ n ih =>
  rw [List.range_succ, List.map_append, List.map_cons, List.map_nil, val_snoc, ih, List.length_map, List.length_range, mod256_succ]
theorem dropWhile_zero (l : List UInt8) : val 256 ((l.dropWhile (· == 0)).map UInt8.toNat).reverse = val 256 (l.map UInt8.toNat).reverse := by
 induction l with
 | nil => rfl
 | cons b l ih =>
  by_cases h : b = 0
  ·subst h
   rw [List.dropWhile_cons_of_pos (by rfl), ih, List.map_cons, val_reverse_cons]
   simp
  ·rw [List.dropWhile_cons_of_neg (by simpa using h)]
theorem strip_mag (s : ByteArray) : (⟨(Lib.trimLeftB s.data.toList 0).toArray⟩ : ByteArray) = mag (num s) := by
 have e : Lib.trimLeftB s.data.toList 0 = s.data.toList.dropWhile (· == 0) := rfl
 rw [e]
 have h1 : num ⟨(s.data.toList.dropWhile (· == 0)).toArray⟩ = num s := dropWhile_zero s.data.toList
 have h2 : Vi.Can ⟨(s.data.toList.dropWhile (· == 0)).toArray⟩ := by
  unfold Vi.Can
  intro h
  have h3 := List.head?_dropWhile_not (fun b : UInt8 => b == 0) s.data.toList
  rw [show (s.data.toList.dropWhile (· == 0)).head? = some 0 from h] at h3
  simp at h3
 rw [← h1, mag_num _ h2]
theorem bytes_mag (x N : Nat) (h : x < 4294967296 ^ N) : (⟨(Lib.trimLeftB (strFn (byteFn x N (4 * N)) (4 * N)).data.toList 0).toArray⟩ : ByteArray) = mag x := by
 rw [strip_mag]
 congr 1
 have e : low (strFn (byteFn x N (4 * N)) (4 * N)) = (List.range (4 * N)).map fun k => x / 256 ^ k % 256 := by
  unfold low strFn
  apply List.ext_getElem?
  intro i
  by_cases hi : i < 4 * N
  ·rw [List.getElem?_reverse (by simpa using hi)]
   simp only [List.map_map, List.getElem?_map, List.length_map, List.length_range]
   rw [List.getElem?_range (by omega), List.getElem?_range hi]
   simp only [Option.map_some, Function.comp_apply]
   have hb := byteFn_lt x N (4 * N) (4 * N - 1 - i)
   rw [UInt8.toNat_ofNat', Nat.mod_eq_of_lt hb]
   unfold byteFn
   rw [if_pos (by omega), show 4 * N - 1 - (4 * N - 1 - i) = i by omega]
  ·rw [List.getElem?_eq_none (by simp; omega), List.getElem?_eq_none (by simp; omega)]
 unfold num
 rw [e, val_range]
 apply Nat.mod_eq_of_lt
 rw [Nat.pow_mul]; exact h
set_option maxRecDepth 100000 in
set_option maxHeartbeats 400000 in
theorem bytes_c (x n c g : Nat) (w : World) (hx : x < 4294967296 ^ n) (hn : n ≤ 8589934592) (hc : n ≤ c) (hr : Row32 w g n (dg x)) (hg : g < w.heap.size) : Calls Tryz.prog 195 #[.slice (some ⟨g, 0, none⟩) n c] w fun e w' => e = .returned (.string (mag x)) ∧ Below w.heap.size w w' := by
 have ht := trim_c x n c g w hx hn hc hr
 have hle := nd_le 4294967296 (by omega) x n hx
 obtain ⟨N, hN⟩ : ∃ N, nd 4294967296 x = N := ⟨_, rfl⟩
 rw [hN] at ht hle
 have HN := Lib.hid hN
 have HT := Lib.hid ht
 clear hN ht
 cases N with
 | zero =>
  go_enter Tryz.func195, Tryz.ntmps195
  go_wp2_with fail
  (refine (HT.out).mono ?_; rintro e w' ⟨rfl, rfl⟩)
  go_wp2_with fail
  go_ret
  refine ⟨?_, by (exact belA)⟩
  have e0 : x = 0 := by
   have := lt_pow_nd 4294967296 (by omega) x
   rw [HN.out, Nat.pow_zero] at this; omega
  rw [e0]; rfl
 | succ M =>
  obtain ⟨N, hM⟩ : ∃ N, N = M + 1 := ⟨_, rfl⟩
  rw [← hM] at HT HN hle
  have hN1 : 0 < N := by omega
  clear hM
  have hb : ((N : Int) == 0) = false := by rw [beq_eq_false_iff_ne]; omega
  have hm := make8 (4 * N) w (by omega)
  have e4 : (4 * (N : Int)) = ((4 * N : Nat) : Int) := by omega
  rw [← e4] at hm
  clear e4
  have H0 := Lib.hid (byteFn_zero x N (4 * N))
  go_enter Tryz.func195, Tryz.ntmps195
  go_wp2_with fail
  (refine (HT.out).mono ?_; rintro e w' ⟨rfl, rfl⟩)
  go_wp2_with fail
  go_loopw [18] (fun v wr => ∃ i : Nat, i ≤ N ∧ v = .int .i64 i ∧ wr = w.alloc (.cells (arr .u8 (byteFn x N (4 * i)) (4 * N)) 5)) (fun v _ => N - (intOf v).toNat)
  case atStart => exact ⟨0, Nat.zero_le _, rfl, by rw [Nat.mul_zero, H0.out]⟩
  case round =>
   obtain ⟨i, hi, rfl, rfl⟩ := hrel
   by_cases hlt : i < N
   ·have hcell := hr i (by omega)
    go_wp2_with fail
    go_loopw [23] (fun v wr => ∃ k : Nat, k ≤ 4 ∧ v = .int .i64 k ∧ wr = w.alloc (.cells (arr .u8 (byteFn x N (4 * i + k)) (4 * N)) 5)) (fun v _ => 4 - (intOf v).toNat)
    case atStart => exact ⟨0, by omega, rfl, rfl⟩
    case round =>
     obtain ⟨k, hk, rfl, rfl⟩ := hrel
     by_cases hlt2 : k < 4
     ·obtain ⟨p, hp⟩ : ∃ p : Nat, p + 1 + (4 * i + k) = 4 * N := ⟨4 * N - 1 - (4 * i + k), by omega⟩
      have e5 : 4 * (N : Int) - 1 - 4 * (i : Int) - (k : Int) = (p : Int) := by omega
      have hpl : p < 4 * N := by omega
      have hget := arr_get .u8 (byteFn x N (4 * i + k)) (4 * N) p hpl
      have H1 := Lib.hid (byteFn_succ x N (4 * i + k) p hp)
      have H2 := Lib.hid (dg_byte x i k hlt2)
      clear hp
      go_wp2_with fail
      refine ⟨⟨k + 1, by omega, by go_num, ?_⟩, by simp [intOf]; omega⟩
      rw [show 4 * i + (k + 1) = 4 * i + k + 1 by omega, ← H1.out, byte_int x i k hlt2, arr_set]
     ·have e : k = 4 := by omega
      subst e
      go_wp2_with fail
      refine ⟨⟨i + 1, by omega, by go_num, ?_⟩, by simp [intOf]; omega⟩
      rw [show 4 * (i + 1) = 4 * i + 4 by omega]
   ·have e : i = N := by omega
    subst e
    have hcv := conv8 (byteFn x i (4 * i)) (4 * i) (4 * i) w (byteFn_lt x i (4 * i))
    have H5 := Lib.hid (bytes_mag x i (by rw [← HN.out]; exact lt_pow_nd _ (by omega) x))
    go_wp2_with fail
    refine (Tryz.strings_TrimLeft_one _ 0 (by decide) _).mono ?_
    rintro e w' ⟨rfl, rfl⟩
    go_wp2_with fail
    go_ret
    refine ⟨?_, by (exact belA)⟩
    rw [← H5.out]; rfl
end Go.Proofs.YtlblfgbpogljoaaGreatDoor

end
