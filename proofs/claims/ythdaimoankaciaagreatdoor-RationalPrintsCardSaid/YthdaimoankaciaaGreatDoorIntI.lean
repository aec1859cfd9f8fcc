import Derived.Test.YthdaimoankaciaaGreatDoorKnuth
import Derived.Test.YthdaimoankaciaaGreatDoorIntH
set_option linter.unusedSimpArgs false
set_option linter.unusedVariables false
namespace Go.Proofs.YthdaimoankaciaaGreatDoor
open Go Go.RowKit
open Vi
def lz (t : Nat) : Nat := 32 - nd 2 t
theorem lz_lt (t : Nat) (h0 : 0 < t) : lz t < 32 := by
 have := nd_pos 2 (by omega) t h0
 unfold lz; omega
theorem lz_hi (t : Nat) (h1 : t < 4294967296) : (t + 1) * 2 ^ lz t ≤ 4294967296 := by
 have h := lt_pow_nd 2 (by omega) t
 have hn : nd 2 t ≤ 32 := nd_le 2 (by omega) t 32 (by omega)
 have h2 : (t + 1) * 2 ^ lz t ≤ 2 ^ nd 2 t * 2 ^ lz t := Nat.mul_le_mul_right _ h
 rw [← Nat.pow_add] at h2
 unfold lz at *
 rw [show nd 2 t + (32 - nd 2 t) = 32 by omega] at h2
 omega
theorem lz_lo (t : Nat) (h0 : 0 < t) (h1 : t < 4294967296) : 2147483648 ≤ t * 2 ^ lz t := by
 have h := pow_nd_le 2 (by omega) t h0
 have hn : nd 2 t ≤ 32 := nd_le 2 (by omega) t 32 (by omega)
 have hp := nd_pos 2 (by omega) t h0
 have h2 : 2 ^ (nd 2 t - 1) * 2 ^ lz t ≤ t * 2 ^ lz t := Nat.mul_le_mul_right _ h
 rw [← Nat.pow_add] at h2
 unfold lz at *
 rw [show nd 2 t - 1 + (32 - nd 2 t) = 31 by omega] at h2
 omega
theorem norm_lt (y m : Nat) (h : nd 4294967296 y = m + 1) : y * 2 ^ lz (dg y m) < 4294967296 ^ (m + 1) := by
 have h1 := lt_pow_nd 4294967296 (by omega) y
 rw [h, pw] at h1
 have hp : 0 < 4294967296 ^ m := Nat.pow_pos (by omega)
 have e : dg y m = y / 4294967296 ^ m := by
  unfold dg; exact Nat.mod_eq_of_lt ((Nat.div_lt_iff_lt_mul hp).2 (by rw [Nat.mul_comm]; exact h1))
 have h2 := lz_hi (dg y m) (dg_lt y m)
 have h3 := Nat.lt_mul_div_succ y hp
 rw [← e] at h3
 rw [pw]
 generalize 4294967296 ^ m = M at *
 generalize hz : 2 ^ lz (dg y m) = z at *
 have hz0 : 0 < z := by rw [← hz]; exact Nat.pow_pos (by omega)
 calc y * z < M * (dg y m + 1) * z := Nat.mul_lt_mul_of_pos_right h3 hz0
  _ = M * ((dg y m + 1) * z) := Nat.mul_assoc ..
  _ ≤ M * 4294967296 := Nat.mul_le_mul_left _ h2
theorem norm_top (y m : Nat) (h : nd 4294967296 y = m + 1) : 2147483648 ≤ dg (y * 2 ^ lz (dg y m)) m := by
 have hn := norm_lt y m h
 have h0 := dg_top y m h
 have h2 := lz_lo (dg y m) h0 (dg_lt y m)
 have hp : 0 < 4294967296 ^ m := Nat.pow_pos (by omega)
 have h1 := lt_pow_nd 4294967296 (by omega) y
 rw [h, pw] at h1
 have e : dg y m = y / 4294967296 ^ m := by
  unfold dg; exact Nat.mod_eq_of_lt ((Nat.div_lt_iff_lt_mul hp).2 (by rw [Nat.mul_comm]; exact h1))
 rw [pw] at hn
 have e2 : ∀ z, z < 4294967296 ^ m * 4294967296 → dg z m = z / 4294967296 ^ m := fun z hz => by
  unfold dg; exact Nat.mod_eq_of_lt ((Nat.div_lt_iff_lt_mul hp).2 (by rw [Nat.mul_comm]; exact hz))
 rw [e2 _ hn]
 rw [Nat.le_div_iff_mul_le hp]
 generalize 2 ^ lz (dg y m) = z at *
 have h4 := Nat.div_mul_le_self y (4294967296 ^ m)
 rw [← e] at h4
 calc 2147483648 * 4294967296 ^ m ≤ dg y m * z * 4294967296 ^ m := Nat.mul_le_mul_right _ h2
  _ = dg y m * 4294967296 ^ m * z := Nat.mul_right_comm ..
  _ ≤ y * z := Nat.mul_le_mul_right _ h4
theorem mag_zero : mag 0 = ⟨#[]⟩ := by decide
theorem start_rest (a y N n j : Nat) (ha : a < y * 4294967296 ^ j) : a % (y * 4294967296 ^ j) = a := Nat.mod_eq_of_lt ha
theorem start_lt (x y s N m : Nat) (hx : x < 4294967296 ^ N) (hy : nd 4294967296 y = m + 1) (hN : m + 1 ≤ N) : x * 2 ^ s < y * 2 ^ s * 4294967296 ^ (N - m) := by
 have h0 : 0 < y := by
  rcases Nat.eq_zero_or_pos y with h2 | h2
  ·subst h2; rw [nd_zero] at hy; omega
  ·exact h2
 have h1 := pow_nd_le 4294967296 (by omega) y h0
 rw [hy, Nat.add_sub_cancel] at h1
 have h2 : 4294967296 ^ m * 4294967296 ^ (N - m) ≤ y * 4294967296 ^ (N - m) := Nat.mul_le_mul_right _ h1
 rw [← Nat.pow_add, show m + (N - m) = N by omega] at h2
 rw [Nat.mul_right_comm]
 exact Nat.mul_lt_mul_of_pos_right (by omega) (Nat.pow_pos (by omega))
def outFn (q j : Nat) : Nat → Nat := fun p => if p < j then 0 else dg q p
theorem outFn_top (q j n : Nat) (h : n ≤ j) : arr .u32 (fun _ => 0) n = arr .u32 (outFn q j) n := by
 apply arr_congr; intro p hp; unfold outFn; rw [if_pos (by omega)]
theorem outFn_succ (q j : Nat) : upd (outFn q (j + 1)) j (dg q j) = outFn q j := by
 funext p
 unfold upd outFn
 by_cases h : p = j
 ·subst h; rw [if_pos rfl, if_neg (by omega)]
 ·rw [if_neg h]
  by_cases h2 : p < j
  ·rw [if_pos (by omega), if_pos h2]
  ·rw [if_neg (by omega), if_neg h2]
theorem outFn_zero (q : Nat) : outFn q 0 = dg q := by funext p; unfold outFn; rw [if_neg (by omega)]
theorem quo_shift (x y s : Nat) : x * 2 ^ s / (y * 2 ^ s) = x / y := Nat.mul_div_mul_right x y (Nat.pow_pos (by omega))
theorem rem_shift (x y s : Nat) : x * 2 ^ s % (y * 2 ^ s) = x % y * 2 ^ s := Nat.mul_mod_mul_right ..
theorem back_dg (r s i : Nat) (hs : s ≤ 32) : (dg (r * 2 ^ s) (i + 1) * 4294967296 + dg (r * 2 ^ s) i) / 2 ^ s % 4294967296 = dg r i := by
 have hp : 0 < 2 ^ s := Nat.pow_pos (by omega)
 have h1 : ∀ z, dg z (i + 1) * 4294967296 + dg z i = z / 4294967296 ^ i % (4294967296 * 4294967296) := fun z => by
  have h2 := div_succ z i
  have h3 := div_succ z (i + 1)
  unfold dg
  rw [Nat.mod_mul, pw, ← Nat.div_div_eq_div_mul]
  omega
 rw [h1]
 obtain ⟨t, ht⟩ : ∃ t, 2 ^ s * t = 4294967296 := ⟨2 ^ (32 - s), by rw [← Nat.pow_add, show s + (32 - s) = 32 by omega]⟩
 have e : 4294967296 * 4294967296 = 2 ^ s * (t * 4294967296) := by rw [← Nat.mul_assoc, ht]
 rw [e, Nat.mod_mul_right_div_self, Nat.mod_mul_left_mod, Nat.div_div_eq_div_mul, Nat.mul_div_mul_right _ _ hp]
 rfl
theorem comma (x y : Nat) (h : x < y) : x / y = 0 ∧ x % y = x := ⟨Nat.div_eq_of_lt h, Nat.mod_eq_of_lt h⟩
set_option maxRecDepth 100000 in
set_option maxHeartbeats 400000 in
theorem div_less (x y : Nat) (sx : (mag x).size ≤ 4294967296) (sy : (mag y).size ≤ 4294967296) (hbig : (fits8 x && fits8 y) = false) (h : x < y) : DivOk x y := by
 intro w
 have hw := fun w => words_c x y w sx sy
 rw [hbig] at hw
 have H := Lib.hid hw
 have hc := fun w => compare_c x y w sx sy
 rw [show cmpN x y = -1 by unfold cmpN; rw [if_pos h]] at hc
 have HC := Lib.hid hc
 obtain ⟨e1, e2⟩ := comma x y h
 rw [e1, e2, mag_zero]
 clear hw hc e1 e2 h hbig sx sy
 go_enter Tryz.func153, Tryz.ntmps153
 go_wp2_with fail
 (refine (H.out _).mono ?_; rintro e w' ⟨rfl, rfl⟩)
 go_wp2_with fail
 first | (refine (HC.out _).mono ?_; rintro e w' ⟨rfl, rfl⟩) | (go_wp2_with fail; refine (HC.out _).mono ?_; rintro e w' ⟨rfl, hb⟩; obtain ⟨u, rfl⟩ := World.plus_of_below hb; clear hb)
 go_wp2_with fail
 go_ret2
 exact ⟨rfl, by (repeat' (first | (with_reducible first | exact Below.refl _ _ | assumption | refine Below.plus0 ?_ _ | refine Below.alloc0 ?_ _ | refine Below.plus ?_ ?_ _ | refine Below.alloc ?_ ?_ _ | refine Below.drew ?_ | refine Below.drewN ?_ _) | (simp [go_sem]; done) | (simp [go_sem]; omega)))⟩
set_option maxRecDepth 100000 in
set_option maxHeartbeats 800000 in
theorem div_one (x y : Nat) (sx : (mag x).size ≤ 4294967296) (sy : (mag y).size ≤ 4294967296) (hbig : (fits8 x && fits8 y) = false) (h : ¬ x < y) (h1 : nd 4294967296 y = 1) : DivOk x y := by
 intro w
 have hw := fun w => words_c x y w sx sy
 rw [hbig] at hw
 have H := Lib.hid hw
 have hc := fun w => compare_c x y w sx sy
 obtain ⟨c, hcc⟩ : ∃ c, c = cmpN x y := ⟨_, rfl⟩
 rw [← hcc] at hc
 have hc0 : ¬ c < 0 := by rw [hcc]; unfold cmpN; rw [if_neg h]; split <;> omega
 have HC := Lib.hid hc
 have hdx := fun w => digits_c x w sx
 have hdy := fun w => digits_c y w sy
 rw [h1] at hdy
 obtain ⟨n, hn⟩ : ∃ n, n = nd 4294967296 x := ⟨_, rfl⟩
 rw [← hn] at hdx
 have hxl : x < 4294967296 ^ n := by rw [hn]; exact lt_pow_nd _ (by omega) x
 have hyl : y < 4294967296 := by have := lt_pow_nd 4294967296 (by omega) y; rw [h1] at this; omega
 have hy0 : 0 < y := by
  rcases Nat.eq_zero_or_pos y with h2 | h2
  ·subst h2; rw [nd_zero] at h1; omega
  ·exact h2
 have hd0 : dg y 0 = y := by unfold dg; rw [Nat.pow_zero, Nat.div_one]; exact Nat.mod_eq_of_lt hyl
 have hn2 : n ≤ 1073741825 := by rw [hn, ← up4_nd]; unfold up4; omega
 have HX := Lib.hid hdx
 have HY := Lib.hid hdy
 have HXL := Lib.hid hxl
 have hgy := arr_get .u32 (dg y) 1 0 (by omega)
 rw [hd0] at hgy
 have hml := Nat.mod_lt x hy0
 have HG := Lib.hid (fun w => magnitude_c (x % y) w (by omega))
 have hq : x / y < 4294967296 ^ n := Nat.lt_of_le_of_lt (Nat.div_le_self x y) hxl
 have HQ := Lib.hid hq
 clear hw hc hcc hdx hdy h h1 hbig hn hxl hd0 hq sx sy
 go_enter Tryz.func153, Tryz.ntmps153
 go_wp2_with fail
 (refine (H.out _).mono ?_; rintro e w' ⟨rfl, rfl⟩)
 go_wp2_with fail
 (go_wp2_with fail; refine (HC.out _).mono ?_; rintro e w' ⟨rfl, hb⟩; obtain ⟨u, rfl⟩ := World.plus_of_below hb; clear hb)
 have hb1 := World.below_plus w u
 generalize w.plus u = w1 at hb1 ⊢
 go_wp2_with fail
 refine (HY.out _).mono ?_
 rintro e w' ⟨rfl, k1, rfl⟩
 go_wp2_with fail
 refine (HX.out _).mono ?_
 rintro e w' ⟨rfl, k2, rfl⟩
 go_wp2_with fail
 have hgx : ∀ K, (((w1.alloc (.cells (arr .u32 (dg y) 1) 162)).alloc (.cells (arr .u32 (dg x) n) 162)).drewN K).heap[w1.heap.size + 1]? = some (.cells (arr .u32 (dg x) n) 162 (0, 0)) := fun K => by
  have := heap_alloc_new (w1.alloc (.cells (arr .u32 (dg y) 1) 162)) (.cells (arr .u32 (dg x) n) 162)
  rw [World.size_alloc] at this
  exact this
 refine (short_c x y n n n (w1.heap.size + 1) _ HXL.out (by omega) (Nat.le_refl _) (hgx _) hy0 hyl).mono ?_
 rintro e w' ⟨rfl, k3, rfl⟩
 go_wp2_with fail
 refine (bytes_c (x / y) n n (w1.heap.size + 1) _ HQ.out (by omega) (Nat.le_refl _) (fun j hj => by simp [go_sem, arr_get _ _ _ _ hj]) (by simp [go_sem])).mono ?_
 rintro e w' ⟨rfl, hb⟩
 obtain ⟨u, rfl⟩ := World.plus_of_below hb
 clear hb
 go_wp2_with fail
 (go_wp2_with fail; refine (HG.out _).mono ?_; rintro e w' ⟨rfl, hb⟩; (first | (with_reducible (have hb2 := World.plus_of_below ((World.below_plus _ _).trans (hb.mono (World.size_plus _ _)))); obtain ⟨u, rfl⟩ := hb2) | (obtain ⟨u, rfl⟩ := World.plus_of_below hb)); clear hb)
 go_wp2_with fail
 go_ret2
 refine ⟨rfl, hb1.trans (Below.mono ?_ hb1.size)⟩
 (repeat' (first | (with_reducible first | exact Below.refl _ _ | assumption | refine Below.plus0 ?_ _ | refine Below.row ?_ ?_ _ _ | refine Below.alloc0 ?_ _ | refine Below.plus ?_ ?_ _ | refine Below.alloc ?_ ?_ _ | refine Below.drew ?_ | refine Below.drewN ?_ _) | (simp [go_sem]; done) | (simp [go_sem]; omega)))
end Go.Proofs.YthdaimoankaciaaGreatDoor
