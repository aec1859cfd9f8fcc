import Derived.Test.YthdaimoankaciaaGreatDoorProg
import Derived.Test.YthdaimoankaciaaGreatDoorShelf
import Derived.Test.YthdaimoankaciaaGreatDoorIntG
/- The package integer: DivMod, where div returns what it should; the examples of known. -/
set_option linter.unusedSimpArgs false
set_option linter.unusedVariables false
namespace Go.Proofs.YthdaimoankaciaaGreatDoor
open Go Go.RowKit
open Vi
theorem sg_neg_nat (m : Nat) (h : 0 < m) : sg (-(m : Int)) = true := sg_true _ (by omega)
theorem quo_plain (x y : Int) (h : sg x = false ∨ x.natAbs % y.natAbs = 0) : x / y = if (!sg x == sg y) then -((x.natAbs / y.natAbs : Nat) : Int) else (x.natAbs / y.natAbs : Nat) := by
 obtain ⟨m, hm⟩ := Int.eq_nat_or_neg x
 obtain ⟨n, hn⟩ := Int.eq_nat_or_neg y
 have key : ((-(m : Int)) / (n : Int) : Int) = -((m / n : Nat) : Int) ∨ 0 < m % n := by
  by_cases h0 : m % n = 0
  ·left
   have : (m : Int) = (n : Int) * ((m / n : Nat) : Int) := by
    have := Nat.div_add_mod m n
    rw [h0, Nat.add_zero] at this
    exact_mod_cast this.symm
   by_cases hn0 : n = 0
   ·subst hn0; simp
   ·rw [this, ← Int.mul_neg, Int.mul_ediv_cancel_left _ (by omega)]
  ·right; omega
 rcases hm with rfl | rfl <;> rcases hn with rfl | rfl
 ·simp only [Int.natAbs_natCast, sg_nat, beq_self_eq_true, Bool.not_true, Bool.false_eq_true, if_false]
  exact (Int.natCast_ediv m n).symm ▸ rfl
 ·simp only [Int.natAbs_natCast, Int.natAbs_neg, sg_nat]
  by_cases hn0 : n = 0
  ·subst hn0; simp
  ·rw [sg_neg_nat n (by omega), Int.ediv_neg]
   rfl
 ·simp only [Int.natAbs_natCast, Int.natAbs_neg, sg_nat] at h ⊢
  by_cases hm0 : m = 0
  ·subst hm0; simp
  ·rw [sg_neg_nat m (by omega)] at h ⊢
   rcases key with key | key
   ·rw [key]; rfl
   ·simp at h; omega
 ·simp only [Int.natAbs_natCast, Int.natAbs_neg] at h ⊢
  by_cases hm0 : m = 0
  ·subst hm0; simp
  ·rw [sg_neg_nat m (by omega)] at h ⊢
   by_cases hn0 : n = 0
   ·subst hn0; simp
   ·rw [sg_neg_nat n (by omega)] at ⊢
    rcases key with key | key
    ·rw [Int.ediv_neg, key]; simp
    ·simp at h; omega
theorem quo_up (x y : Int) (hy : y ≠ 0) (hs : sg x = true) (h : x.natAbs % y.natAbs ≠ 0) : x / y = if (!sg x == sg y) then -((x.natAbs / y.natAbs + 1 : Nat) : Int) else (x.natAbs / y.natAbs + 1 : Nat) := by
 have key : ∀ m n : Nat, m % n ≠ 0 → 0 < n → (-(m : Int)) / (n : Int) = -((m / n + 1 : Nat) : Int) := fun m n h0 hn => by
  have e := Nat.div_add_mod m n
  have hl := Nat.mod_lt m hn
  have e2 : (-(m : Int)) = (n : Int) * (-((m / n + 1 : Nat) : Int)) + ((n - m % n : Nat) : Int) := by
   have h1 : ((n - m % n : Nat) : Int) = (n : Int) - ((m % n : Nat) : Int) := by omega
   have h3 : ((m / n + 1 : Nat) : Int) = ((m / n : Nat) : Int) + 1 := by omega
   rw [h1, h3, Int.mul_neg, Int.mul_add, Int.mul_one]
   have : (m : Int) = (n : Int) * ((m / n : Nat) : Int) + ((m % n : Nat) : Int) := by exact_mod_cast e.symm
   omega
  rw [e2, Int.mul_add_ediv_left _ _ (by omega), Int.ediv_eq_zero_of_lt (by omega) (by omega), Int.add_zero]
 obtain ⟨n, hn⟩ := Int.eq_nat_or_neg y
 have hx : x = -((x.natAbs : Nat) : Int) := by unfold sg at hs; simp at hs; omega
 rcases hn with rfl | rfl
 ·rw [hs, sg_nat]
  simp only [Int.natAbs_natCast] at h ⊢
  rw [hx, Int.natAbs_neg, Int.natAbs_natCast, key _ _ h (by omega)]; rfl
 ·rw [hs, sg_neg_nat n (by omega)]
  simp only [Int.natAbs_neg, Int.natAbs_natCast] at h ⊢
  rw [hx, Int.natAbs_neg, Int.natAbs_natCast, Int.ediv_neg, key _ _ h (by omega)]; simp
theorem rem_plain (x y : Int) (h : sg x = false ∨ x.natAbs % y.natAbs = 0) : x % y = ((x.natAbs % y.natAbs : Nat) : Int) := by
 rw [Int.emod_def, quo_plain x y h]
 obtain ⟨m, hm⟩ := Int.eq_nat_or_neg x
 obtain ⟨n, hn⟩ := Int.eq_nat_or_neg y
 have e : (m : Int) = (n : Int) * ((m / n : Nat) : Int) + ((m % n : Nat) : Int) := by exact_mod_cast (Nat.div_add_mod m n).symm
 rcases hm with rfl | rfl <;> rcases hn with rfl | rfl
 ·simp only [Int.natAbs_natCast, sg_nat, beq_self_eq_true, Bool.not_true, Bool.false_eq_true, if_false]; omega
 ·simp only [Int.natAbs_natCast, Int.natAbs_neg, sg_nat]
  by_cases hn0 : n = 0
  ·subst hn0; simp
  ·rw [sg_neg_nat n (by omega)]
   simp only [show (false == true) = false from rfl, Bool.not_false, if_true, Int.neg_mul_neg]; omega
 ·simp only [Int.natAbs_natCast, Int.natAbs_neg, sg_nat] at h ⊢
  by_cases hm0 : m = 0
  ·subst hm0; simp
  ·rw [sg_neg_nat m (by omega)] at h ⊢
   have h0 : m % n = 0 := by simpa using h
   simp only [show (true == false) = false from rfl, Bool.not_false, if_true, Int.mul_neg]; omega
 ·simp only [Int.natAbs_natCast, Int.natAbs_neg] at h ⊢
  by_cases hm0 : m = 0
  ·subst hm0; simp
  ·rw [sg_neg_nat m (by omega)] at h ⊢
   have h0 : m % n = 0 := by simpa using h
   by_cases hn0 : n = 0
   ·subst hn0; simp at h0; omega
   ·rw [sg_neg_nat n (by omega)]
    simp only [beq_self_eq_true, Bool.not_true, Bool.false_eq_true, if_false, Int.neg_mul]; omega
theorem rem_up (x y : Int) (hy : y ≠ 0) (hs : sg x = true) (h : x.natAbs % y.natAbs ≠ 0) : x % y = ((y.natAbs - x.natAbs % y.natAbs : Nat) : Int) := by
 rw [Int.emod_def, quo_up x y hy hs h]
 have hx : x = -((x.natAbs : Nat) : Int) := by unfold sg at hs; simp at hs; omega
 have hl := Nat.mod_lt x.natAbs (y := y.natAbs) (by omega)
 have e : ((x.natAbs : Nat) : Int) = ((y.natAbs : Nat) : Int) * ((x.natAbs / y.natAbs : Nat) : Int) + ((x.natAbs % y.natAbs : Nat) : Int) := by exact_mod_cast (Nat.div_add_mod x.natAbs y.natAbs).symm
 have h1 : ((y.natAbs - x.natAbs % y.natAbs : Nat) : Int) = (y.natAbs : Int) - ((x.natAbs % y.natAbs : Nat) : Int) := by omega
 have h3 : ((x.natAbs / y.natAbs + 1 : Nat) : Int) = ((x.natAbs / y.natAbs : Nat) : Int) + 1 := by omega
 rw [h1, h3, hs]
 by_cases hy2 : y < 0
 ·rw [sg_true y hy2]
  simp only [beq_self_eq_true, Bool.not_true, Bool.false_eq_true, if_false]
  have : y * ((x.natAbs / y.natAbs : Nat) + 1 : Int) = -((y.natAbs : Int) * (x.natAbs / y.natAbs : Nat) + (y.natAbs : Int)) := by
   rw [Int.mul_add, Int.mul_one]
   have hy3 : (y.natAbs : Int) = -y := nAbs_of_neg y hy2
   rw [hy3, Int.neg_mul]; omega
  omega
 ·rw [sg_false y (by omega)]
  simp only [show (true == false) = false from rfl, Bool.not_false, if_true, Int.mul_neg]
  have : y * ((x.natAbs / y.natAbs : Nat) + 1 : Int) = ((y.natAbs : Int) * (x.natAbs / y.natAbs : Nat) + (y.natAbs : Int)) := by
   rw [Int.mul_add, Int.mul_one, nAbs_of_nonneg y (by omega)]
  omega
def DivOk (x y : Nat) : Prop := ∀ w : World, Calls Tryz.prog 153 #[.string (mag x), .string (mag y)] w fun e w' => e = .returned (.tuple #[.string (mag (x / y)), .string (mag (x % y))]) ∧ Below w.heap.size w w'
set_option maxRecDepth 100000 in
set_option maxHeartbeats 400000 in
theorem div_small (x y : Nat) (hx : fits8 x = true) (hy : fits8 y = true) (h0 : 0 < y) : DivOk x y := by
 intro w
 have hx2 : x < 2 ^ 64 := by rw [fits8_iff] at hx; simpa using hx
 have hy2 : y < 2 ^ 64 := by rw [fits8_iff] at hy; simpa using hy
 have sx : (mag x).size ≤ 4294967296 := by have : (mag x).size ≤ 8 := (by simpa [fits8] using hx); omega
 have sy : (mag y).size ≤ 4294967296 := by have : (mag y).size ≤ 8 := (by simpa [fits8] using hy); omega
 have hwx := wv_of x hx
 have hwy := wv_of y hy
 have hb : ((y : Int) == 0) = false := by rw [beq_eq_false_iff_ne]; omega
 have hne : ¬ (y : Int) = 0 := by omega
 obtain ⟨q, hq⟩ : ∃ q, q = x / y := ⟨_, rfl⟩
 obtain ⟨r, hr⟩ : ∃ r, r = x % y := ⟨_, rfl⟩
 have hq2 : q < 2 ^ 64 := hq ▸ Nat.lt_of_le_of_lt (Nat.div_le_self _ _) hx2
 have hr2 : r < 2 ^ 64 := hr ▸ Nat.lt_of_le_of_lt (Nat.mod_le _ _) hx2
 rw [← hq, ← hr]
 have H1 := Lib.hid hq2
 have H2 := Lib.hid hr2
 have e1 : (x : Int).tdiv (y : Int) = (q : Int) := by rw [hq]; exact Int.ofNat_tdiv x y
 have e2 : (x : Int).tmod (y : Int) = (r : Int) := by rw [hr]; exact Int.ofNat_tmod x y
 have e3 : IntKind.u64.wrap (q : Int) = (q : Int) := u64_of_nat q hq2
 have e4 : IntKind.u64.wrap (r : Int) = (r : Int) := u64_of_nat r hr2
 clear hq2 hr2 hq hr
 go_enter Tryz.func153, Tryz.ntmps153
 go_wp2_with fail
 refine (words_c x y _ sx sy).mono ?_
 rintro e w' ⟨rfl, rfl⟩
 rw [hwx, hwy, hx, hy]
 go_wp2_with fail
 ((first | (with_reducible refine wp_region_steady_plus (by kernel_rfl) (by kernel_rfl) ?_) | refine wp_region_steady (by kernel_rfl) (by kernel_rfl) ?_); repeat go_big_quiet_step (first | (go_at_call_of 152 (Value.int .u64 (q : Int)); refine Calls.steady (magnitude_c q _ H1.out)) | (go_at_call_of 152 (Value.int .u64 (r : Int)); refine Calls.steady (magnitude_c r _ H2.out)))); (refine wpQuiet_nil ?_; rintro _ ⟨u, rfl⟩)
 go_wp2_with fail
 go_ret2
 exact ⟨rfl, by (repeat' (first | (with_reducible first | exact Below.refl _ _ | assumption | refine Below.plus0 ?_ _ | refine Below.alloc0 ?_ _ | refine Below.plus ?_ ?_ _ | refine Below.alloc ?_ ?_ _ | refine Below.drew ?_ | refine Below.drewN ?_ _) | (simp [go_sem]; done) | (simp [go_sem]; omega)))⟩
theorem size_mag_mono (a b : Nat) (h : a ≤ b) : (mag a).size ≤ (mag b).size := by rw [size_mag, size_mag]; exact nd_mono 256 (by omega) a b h
theorem mg_empty_of (y : Int) (h : y = 0) : (mg y).toList.isEmpty = true := by rw [mg_isEmpty, h]; rfl
theorem mg_empty_not (y : Int) (h : y ≠ 0) : (mg y).toList.isEmpty = false := by rw [mg_isEmpty]; simpa using h
theorem mag_empty_of (y : Nat) (h : y = 0) : (mag y).toList.isEmpty = true := by rw [mag_isEmpty, h]; rfl
theorem mag_empty_not (y : Nat) (h : y ≠ 0) : (mag y).toList.isEmpty = false := by rw [mag_isEmpty]; simpa using h
set_option maxHeartbeats 400000 in
theorem DivMod_zero (x : Int) (w : World) : Calls Tryz.prog 111 #[.agg #[.bool (sg x), .string (mg x)], .agg #[.bool (sg 0), .string (mg 0)]] w fun e w' => e = .returned (.tuple #[.agg #[.bool (sg 0), .string (mg 0)], .agg #[.bool (sg 0), .string (mg 0)], .int .i64 6]) ∧ Below w.heap.size w w' := by
 have he := mg_empty_of 0 rfl
 have hs := sg_zero
 have hm := mg_zero
 go_enter Tryz.func111, Tryz.ntmps111
 go_wp2
 refine bodyPost_ret (by simp [results, Tryz.results111, go_sem]; rfl) rfl ?_
 exact ⟨by rw [hs, hm], by (repeat' (first | (with_reducible first | exact Below.refl _ _ | assumption | refine Below.plus0 ?_ _ | refine Below.alloc0 ?_ _ | refine Below.plus ?_ ?_ _ | refine Below.alloc ?_ ?_ _ | refine Below.drew ?_ | refine Below.drewN ?_ _) | (simp [go_sem]; done) | (simp [go_sem]; omega)))⟩
set_option maxHeartbeats 800000 in
theorem DivMod_of (x y : Int) (w : World) (hy : y ≠ 0) (sx : (mg x).size ≤ 4294967295) (sy : (mg y).size ≤ 4294967296) (hd : DivOk x.natAbs y.natAbs) : Calls Tryz.prog 111 #[.agg #[.bool (sg x), .string (mg x)], .agg #[.bool (sg y), .string (mg y)]] w fun e w' => e = .returned (.tuple #[.agg #[.bool (sg (x / y)), .string (mg (x / y))], .agg #[.bool (sg (x % y)), .string (mg (x % y))], .int .i64 0]) ∧ Below w.heap.size w w' := by
 have he := mg_empty_not y hy
 have hl := Nat.mod_lt x.natAbs (y := y.natAbs) (by omega)
 have h1 : mag 1 = ⟨#[1]⟩ := by decide
 obtain ⟨q, hq⟩ : ∃ q, q = x.natAbs / y.natAbs := ⟨_, rfl⟩
 obtain ⟨r, hr⟩ : ∃ r, r = x.natAbs % y.natAbs := ⟨_, rfl⟩
 have Hd : Hid (∀ w : World, Calls Tryz.prog 153 #[.string (mag x.natAbs), .string (mag y.natAbs)] w fun e w' => e = .returned (.tuple #[.string (mag q), .string (mag r)]) ∧ Below w.heap.size w w') := Lib.hid (by rw [hq, hr]; exact hd)
 clear hd
 by_cases h : sg x = false ∨ x.natAbs % y.natAbs = 0
 ·have Hq := Lib.hid (quo_plain x y h)
  have Hr := Lib.hid (rem_plain x y h)
  rw [← hq] at Hq
  rw [← hr] at Hr h
  have H0 := Lib.hid h
  clear hq hr hl h1 h
  cases hs : sg x
  ·have Hz : Hid (x / y = if sg y then -(q : Int) else q) := by rw [hs] at Hq; have h9 := Hq.out; refine Lib.hid (h9.trans ?_); cases sg y <;> rfl
   have Hz2 : Hid (x % y = if false then -(r : Int) else r) := Hr
   go_enter Tryz.func111, Tryz.ntmps111
   (go_wp2_with fail; refine (Hd.out _).mono ?_; rintro e w' ⟨rfl, hb⟩; (first | (with_reducible (have hb2 := World.plus_of_below ((World.below_plus _ _).trans (hb.mono (World.size_plus _ _)))); obtain ⟨u, rfl⟩ := hb2) | (obtain ⟨u, rfl⟩ := World.plus_of_below hb)); clear hb)
   (go_wp2_with fail; refine (made_c _ _ _ Hz.out _).mono ?_; rintro e w' ⟨rfl, hb⟩; (first | (with_reducible (have hb2 := World.plus_of_below ((World.below_plus _ _).trans (hb.mono (World.size_plus _ _)))); obtain ⟨u, rfl⟩ := hb2) | (obtain ⟨u, rfl⟩ := World.plus_of_below hb)); clear hb)
   (go_wp2_with fail; refine (made_c _ _ _ Hz2.out _).mono ?_; rintro e w' ⟨rfl, hb⟩; (first | (with_reducible (have hb2 := World.plus_of_below ((World.below_plus _ _).trans (hb.mono (World.size_plus _ _)))); obtain ⟨u, rfl⟩ := hb2) | (obtain ⟨u, rfl⟩ := World.plus_of_below hb)); clear hb)
   go_wp2_with fail
   refine bodyPost_ret (by simp [results, Tryz.results111, go_sem]; rfl) rfl ?_
   exact ⟨rfl, by (repeat' (first | (with_reducible first | exact Below.refl _ _ | assumption | refine Below.plus0 ?_ _ | refine Below.alloc0 ?_ _ | refine Below.plus ?_ ?_ _ | refine Below.alloc ?_ ?_ _ | refine Below.drew ?_ | refine Below.drewN ?_ _) | (simp [go_sem]; done) | (simp [go_sem]; omega)))⟩
  ·have her := mag_empty_of r (by have := H0.out; rw [hs] at this; simpa using this)
   have Hz : Hid (x / y = if !sg y then -(q : Int) else q) := by rw [hs] at Hq; have h9 := Hq.out; refine Lib.hid (h9.trans ?_); cases sg y <;> rfl
   have Hz2 : Hid (x % y = if false then -(r : Int) else r) := Hr
   go_enter Tryz.func111, Tryz.ntmps111
   (go_wp2_with fail; refine (Hd.out _).mono ?_; rintro e w' ⟨rfl, hb⟩; (first | (with_reducible (have hb2 := World.plus_of_below ((World.below_plus _ _).trans (hb.mono (World.size_plus _ _)))); obtain ⟨u, rfl⟩ := hb2) | (obtain ⟨u, rfl⟩ := World.plus_of_below hb)); clear hb)
   (go_wp2_with fail; refine (made_c _ _ _ Hz.out _).mono ?_; rintro e w' ⟨rfl, hb⟩; (first | (with_reducible (have hb2 := World.plus_of_below ((World.below_plus _ _).trans (hb.mono (World.size_plus _ _)))); obtain ⟨u, rfl⟩ := hb2) | (obtain ⟨u, rfl⟩ := World.plus_of_below hb)); clear hb)
   (go_wp2_with fail; refine (made_c _ _ _ Hz2.out _).mono ?_; rintro e w' ⟨rfl, hb⟩; (first | (with_reducible (have hb2 := World.plus_of_below ((World.below_plus _ _).trans (hb.mono (World.size_plus _ _)))); obtain ⟨u, rfl⟩ := hb2) | (obtain ⟨u, rfl⟩ := World.plus_of_below hb)); clear hb)
   go_wp2_with fail
   refine bodyPost_ret (by simp [results, Tryz.results111, go_sem]; rfl) rfl ?_
   exact ⟨rfl, by (repeat' (first | (with_reducible first | exact Below.refl _ _ | assumption | refine Below.plus0 ?_ _ | refine Below.alloc0 ?_ _ | refine Below.plus ?_ ?_ _ | refine Below.alloc ?_ ?_ _ | refine Below.drew ?_ | refine Below.drewN ?_ _) | (simp [go_sem]; done) | (simp [go_sem]; omega)))⟩
 ·have hs : sg x = true := by cases hs : sg x <;> simp_all
  have h0 : x.natAbs % y.natAbs ≠ 0 := fun e => h (.inr e)
  have Hq := Lib.hid (quo_up x y hy hs h0)
  have Hr := Lib.hid (rem_up x y hy hs h0)
  rw [← hq] at Hq
  rw [← hr] at Hr
  have her := mag_empty_not r (by rw [hr]; exact h0)
  have Hz : Hid (x / y = if !sg y then -((q + 1 : Nat) : Int) else (q + 1 : Nat)) := by rw [hs] at Hq; have h9 := Hq.out; refine Lib.hid (h9.trans ?_); cases sg y <;> rfl
  have Hz2 : Hid (x % y = if false then -((y.natAbs - r : Nat) : Int) else (y.natAbs - r : Nat)) := Hr
  have H1 := Lib.hid h1
  have hle : r ≤ y.natAbs := by omega
  have Hle := Lib.hid hle
  have sr : (mag r).size ≤ 4294967296 := by
   have := size_mag_mono r y.natAbs hle
   exact Nat.le_trans this sy
  have sq : (mag q).size ≤ 4294967296 := by
   have := size_mag_mono q x.natAbs (by rw [hq]; exact Nat.div_le_self _ _)
   exact Nat.le_trans this (Nat.le_trans sx (by omega))
  have s1 : (mag 1).size ≤ 4294967296 := by rw [h1]; decide
  clear hq hr hl h1 h h0 hle
  go_enter Tryz.func111, Tryz.ntmps111
  (go_wp2_with fail; refine (Hd.out _).mono ?_; rintro e w' ⟨rfl, hb⟩; (first | (with_reducible (have hb2 := World.plus_of_below ((World.below_plus _ _).trans (hb.mono (World.size_plus _ _)))); obtain ⟨u, rfl⟩ := hb2) | (obtain ⟨u, rfl⟩ := World.plus_of_below hb)); clear hb)
  go_wp2_with fail
  rw [← H1.out]
  ((first | (with_reducible refine wp_region_steady_plus (by kernel_rfl) (by kernel_rfl) ?_) | refine wp_region_steady (by kernel_rfl) (by kernel_rfl) ?_); repeat go_big_quiet_step (first | (go_at_call 149; refine Calls.steady (add_c q 1 _ sq s1)) | (go_at_call 151; refine Calls.steady (sub_c y.natAbs r _ sy sr Hle.out)))); (refine wpQuiet_nil ?_; rintro _ ⟨u, rfl⟩)
  (go_wp2_with fail; refine (made_c _ _ _ Hz.out _).mono ?_; rintro e w' ⟨rfl, hb⟩; (first | (with_reducible (have hb2 := World.plus_of_below ((World.below_plus _ _).trans (hb.mono (World.size_plus _ _)))); obtain ⟨u, rfl⟩ := hb2) | (obtain ⟨u, rfl⟩ := World.plus_of_below hb)); clear hb)
  (go_wp2_with fail; refine (made_c _ _ _ Hz2.out _).mono ?_; rintro e w' ⟨rfl, hb⟩; (first | (with_reducible (have hb2 := World.plus_of_below ((World.below_plus _ _).trans (hb.mono (World.size_plus _ _)))); obtain ⟨u, rfl⟩ := hb2) | (obtain ⟨u, rfl⟩ := World.plus_of_below hb)); clear hb)
  go_wp2_with fail
  refine bodyPost_ret (by simp [results, Tryz.results111, go_sem]; rfl) rfl ?_
  exact ⟨rfl, by (repeat' (first | (with_reducible first | exact Below.refl _ _ | assumption | refine Below.plus0 ?_ _ | refine Below.alloc0 ?_ _ | refine Below.plus ?_ ?_ _ | refine Below.alloc ?_ ?_ _ | refine Below.drew ?_ | refine Below.drewN ?_ _) | (simp [go_sem]; done) | (simp [go_sem]; omega)))⟩
end Go.Proofs.YthdaimoankaciaaGreatDoor
