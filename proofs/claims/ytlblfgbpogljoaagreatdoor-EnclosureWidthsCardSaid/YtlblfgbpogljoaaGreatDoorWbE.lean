/- Part 5 of the proof; what it holds is said text by text. -/
import Derived.Test.YtlblfgbpogljoaaGreatDoorWbD
import Derived.Deep.DeepCutAuto
import Derived.Deep.CutBlock
import Derived.Test.YtlblfgbpogljoaaGreatDoorProg
import Derived.Test.YtlblfgbpogljoaaGreatDoorWbC
import Derived.OwnWalk
set_option linter.unusedSimpArgs false
set_option linter.unusedVariables false
section
namespace Go.Proofs.YtlblfgbpogljoaaGreatDoor
open Go Go.RowKit
open Vi
def lz (t : Nat) : Nat := 32 - nd 2 t
theorem lz_lt (t : Nat) (h0 : 0 < t) : lz t < 32 := by
 have := nd_pos 2 (by omega) t h0
 unfold lz; omega
theorem lz_hi (t : Nat) (h1 : t < 4294967296) : (t + 1) * 2 ^ lz t ≤ 4294967296 := by
 have h := lt_pow_nd 2 (by omega) t
 have hn : nd 2 t ≤ 32 := nd_le 2 (by omega) t 32 (by omega)
 have h2 : (t + 1) * 2 ^ lz t ≤ 2 ^ nd 2 t * 2 ^ lz t := Nat.mul_le_mul_right _ h
 rw [← Nat.pow_add] at h2
 unfold lz at *
 rw [show nd 2 t + (32 - nd 2 t) = 32 by omega] at h2
 omega
theorem lz_lo (t : Nat) (h0 : 0 < t) (h1 : t < 4294967296) : 2147483648 ≤ t * 2 ^ lz t := by
 have h := pow_nd_le 2 (by omega) t h0
 have hn : nd 2 t ≤ 32 := nd_le 2 (by omega) t 32 (by omega)
 have hp := nd_pos 2 (by omega) t h0
 have h2 : 2 ^ (nd 2 t - 1) * 2 ^ lz t ≤ t * 2 ^ lz t := Nat.mul_le_mul_right _ h
 rw [← Nat.pow_add] at h2
 unfold lz at *
 rw [show nd 2 t - 1 + (32 - nd 2 t) = 31 by omega] at h2
 omega
theorem norm_lt (y m : Nat) (h : nd 4294967296 y = m + 1) : y * 2 ^ lz (dg y m) < 4294967296 ^ (m + 1) := by
 have h1 := lt_pow_nd 4294967296 (by omega) y
 rw [h, pw] at h1
 have hp : 0 < 4294967296 ^ m := Nat.pow_pos (by omega)
 have e : dg y m = y / 4294967296 ^ m := by
  unfold dg; exact Nat.mod_eq_of_lt ((Nat.div_lt_iff_lt_mul hp).2 (by rw [Nat.mul_comm]; exact h1))
 have h2 := lz_hi (dg y m) (dg_lt y m)
 have h3 := Nat.lt_mul_div_succ y hp
 rw [← e] at h3
 rw [pw]
 generalize 4294967296 ^ m = M at *
 generalize hz : 2 ^ lz (dg y m) = z at *
 have hz0 : 0 < z := by rw [← hz]; exact Nat.pow_pos (by omega)
 calc y * z < M * (dg y m + 1) * z := Nat.mul_lt_mul_of_pos_right h3 hz0
  _ = M * ((dg y m + 1) * z) := Nat.mul_assoc ..
  _ ≤ M * 4294967296 := Nat.mul_le_mul_left _ h2
theorem norm_top (y m : Nat) (h : nd 4294967296 y = m + 1) : 2147483648 ≤ dg (y * 2 ^ lz (dg y m)) m := by
 have hn := norm_lt y m h
 have h0 := dg_top y m h
 have h2 := lz_lo (dg y m) h0 (dg_lt y m)
 have hp : 0 < 4294967296 ^ m := Nat.pow_pos (by omega)
 have h1 := lt_pow_nd 4294967296 (by omega) y
 rw [h, pw] at h1
 have e : dg y m = y / 4294967296 ^ m := by
  unfold dg; exact Nat.mod_eq_of_lt ((Nat.div_lt_iff_lt_mul hp).2 (by rw [Nat.mul_comm]; exact h1))
 rw [pw] at hn
 have e2 : ∀ z, z < 4294967296 ^ m * 4294967296 → dg z m = z / 4294967296 ^ m := fun z hz => by
  unfold dg; exact Nat.mod_eq_of_lt ((Nat.div_lt_iff_lt_mul hp).2 (by rw [Nat.mul_comm]; exact hz))
 rw [e2 _ hn]
 rw [Nat.le_div_iff_mul_le hp]
 generalize 2 ^ lz (dg y m) = z at *
 have h4 := Nat.div_mul_le_self y (4294967296 ^ m)
 rw [← e] at h4
 calc 2147483648 * 4294967296 ^ m ≤ dg y m * z * 4294967296 ^ m := Nat.mul_le_mul_right _ h2
  _ = dg y m * 4294967296 ^ m * z := Nat.mul_right_comm ..
  _ ≤ y * z := Nat.mul_le_mul_right _ h4
theorem mag_zero : mag 0 = ⟨#[]⟩ := by decide
theorem start_lt (x y s N m : Nat) (hx : x < 4294967296 ^ N) (hy : nd 4294967296 y = m + 1) (hN : m + 1 ≤ N) : x * 2 ^ s < y * 2 ^ s * 4294967296 ^ (N - m) := by
 have h0 : 0 < y := by
  rcases Nat.eq_zero_or_pos y with h2 | h2
  ·subst h2; rw [nd_zero] at hy; omega
  ·exact h2
 have h1 := pow_nd_le 4294967296 (by omega) y h0
 rw [hy, Nat.add_sub_cancel] at h1
 have h2 : 4294967296 ^ m * 4294967296 ^ (N - m) ≤ y * 4294967296 ^ (N - m) := Nat.mul_le_mul_right _ h1
 rw [← Nat.pow_add, show m + (N - m) = N by omega] at h2
 rw [Nat.mul_right_comm]
 exact Nat.mul_lt_mul_of_pos_right (by omega) (Nat.pow_pos (by omega))
def outFn (q j : Nat) : Nat → Nat := fun p => if p < j then 0 else dg q p
theorem outFn_top (q j n : Nat) (h : n ≤ j) : arr .u32 (fun _ => 0) n = arr .u32 (outFn q j) n := by
 apply arr_congr; intro p hp; unfold outFn; rw [if_pos (by omega)]
theorem outFn_succ (q j : Nat) : upd (outFn q (j + 1)) j (dg q j) = outFn q j := by
 funext p
 unfold upd outFn
 by_cases h : p = j
 ·subst h; rw [if_pos rfl, if_neg (by omega)]
 ·rw [if_neg h]
  by_cases h2 : p < j
  ·rw [if_pos (by omega), if_pos h2]
  ·rw [if_neg (by omega), if_neg h2]
theorem outFn_zero (q : Nat) : outFn q 0 = dg q := by funext p; unfold outFn; rw [if_neg (by omega)]
theorem quo_shift (x y s : Nat) : x * 2 ^ s / (y * 2 ^ s) = x / y := Nat.mul_div_mul_right x y (Nat.pow_pos (by omega))
theorem rem_shift (x y s : Nat) : x * 2 ^ s % (y * 2 ^ s) = x % y * 2 ^ s := Nat.mul_mod_mul_right ..
theorem back_dg (r s i : Nat) (hs : s ≤ 32) : (dg (r * 2 ^ s) (i + 1) * 4294967296 + dg (r * 2 ^ s) i) / 2 ^ s % 4294967296 = dg r i := by
 have hp : 0 < 2 ^ s := Nat.pow_pos (by omega)
 have h1 : ∀ z, dg z (i + 1) * 4294967296 + dg z i = z / 4294967296 ^ i % (4294967296 * 4294967296) := fun z => by
  have h2 := div_succ z i
  have h3 := div_succ z (i + 1)
  unfold dg
  rw [Nat.mod_mul, pw, ← Nat.div_div_eq_div_mul]
  omega
 rw [h1]
 obtain ⟨t, ht⟩ : ∃ t, 2 ^ s * t = 4294967296 := ⟨2 ^ (32 - s), by rw [← Nat.pow_add, show s + (32 - s) = 32 by omega]⟩
 have e : 4294967296 * 4294967296 = 2 ^ s * (t * 4294967296) := by rw [← Nat.mul_assoc, ht]
 rw [e, Nat.mod_mul_right_div_self, Nat.mod_mul_left_mod, Nat.div_div_eq_div_mul, Nat.mul_div_mul_right _ _ hp]
 rfl
theorem comma (x y : Nat) (h : x < y) : x / y = 0 ∧ x % y = x := ⟨Nat.div_eq_of_lt h, Nat.mod_eq_of_lt h⟩
set_option maxRecDepth 100000 in
set_option maxHeartbeats 400000 in
theorem div_less (x y : Nat) (sx : (mag x).size ≤ 4294967296) (sy : (mag y).size ≤ 4294967296) (hbig : (fits8 x && fits8 y) = false) (h : x < y) : DivOk x y := by
 intro w
 have hw := fun w => words_c x y w sx sy
 rw [hbig] at hw
 have H := Lib.hid hw
 have hc := fun w => compare_c x y w sx sy
 rw [show cmpN x y = -1 by unfold cmpN; rw [if_pos h]] at hc
 have HC := Lib.hid hc
 obtain ⟨e1, e2⟩ := comma x y h
 rw [e1, e2, mag_zero]
 clear hw hc e1 e2 h hbig sx sy
 go_enter Tryz.func189, Tryz.ntmps189
 go_wp2_with fail
 (refine (H.out _).mono ?_; rintro e w' ⟨rfl, rfl⟩)
 go_wp2_with fail
 first | (refine (HC.out _).mono ?_; rintro e w' ⟨rfl, rfl⟩) | (go_wp2_with fail; refine (HC.out _).mono ?_; rintro e w' ⟨rfl, hb⟩; obtain ⟨u, rfl⟩ := World.plus_of_below hb; clear hb)
 go_wp2_with fail
 go_ret2
 exact ⟨rfl, by (exact belA)⟩
set_option maxRecDepth 100000 in
set_option maxHeartbeats 800000 in
theorem div_one (x y : Nat) (sx : (mag x).size ≤ 4294967296) (sy : (mag y).size ≤ 4294967296) (hbig : (fits8 x && fits8 y) = false) (h : ¬ x < y) (h1 : nd 4294967296 y = 1) : DivOk x y := by
 intro w
 have hw := fun w => words_c x y w sx sy
 rw [hbig] at hw
 have H := Lib.hid hw
 have hc := fun w => compare_c x y w sx sy
 obtain ⟨c, hcc⟩ : ∃ c, c = cmpN x y := ⟨_, rfl⟩
 rw [← hcc] at hc
 have hc0 : ¬ c < 0 := by rw [hcc]; unfold cmpN; rw [if_neg h]; split <;> omega
 have HC := Lib.hid hc
 have hdx := fun w => digits_c x w sx
 have hdy := fun w => digits_c y w sy
 rw [h1] at hdy
 obtain ⟨n, hn⟩ : ∃ n, n = nd 4294967296 x := ⟨_, rfl⟩
 rw [← hn] at hdx
 have hxl : x < 4294967296 ^ n := by rw [hn]; exact lt_pow_nd _ (by omega) x
 have hyl : y < 4294967296 := by have := lt_pow_nd 4294967296 (by omega) y; rw [h1] at this; omega
 have hy0 : 0 < y := by
  rcases Nat.eq_zero_or_pos y with h2 | h2
  ·subst h2; rw [nd_zero] at h1; omega
  ·exact h2
 have hd0 : dg y 0 = y := by unfold dg; rw [Nat.pow_zero, Nat.div_one]; exact Nat.mod_eq_of_lt hyl
 have hn2 : n ≤ 1073741825 := by rw [hn, ← up4_nd]; unfold up4; omega
 have HX := Lib.hid hdx
 have HY := Lib.hid hdy
 have HXL := Lib.hid hxl
 have hgy := arr_get .u32 (dg y) 1 0 (by omega)
 rw [hd0] at hgy
 have hml := Nat.mod_lt x hy0
 have HG := Lib.hid (fun w => magnitude_c (x % y) w (by omega))
 have hq : x / y < 4294967296 ^ n := Nat.lt_of_le_of_lt (Nat.div_le_self x y) hxl
 have HQ := Lib.hid hq
 clear hw hc hcc hdx hdy h h1 hbig hn hxl hd0 hq sx sy
 go_enter Tryz.func189, Tryz.ntmps189
 go_wp2_with fail
 (refine (H.out _).mono ?_; rintro e w' ⟨rfl, rfl⟩)
 go_wp2_with fail
 (go_wp2_with fail; refine (HC.out _).mono ?_; rintro e w' ⟨rfl, hb⟩; obtain ⟨u, rfl⟩ := World.plus_of_below hb; clear hb)
 have hb1 := World.below_plus w u
 generalize w.plus u = w1 at hb1 ⊢
 go_wp2_with fail
 refine (HY.out _).mono ?_
 rintro e w' ⟨rfl, k1, rfl⟩
 go_wp2_with fail
 refine (HX.out _).mono ?_
 rintro e w' ⟨rfl, k2, rfl⟩
 go_wp2_with fail
 have hgx : ∀ K, (((w1.alloc (.cells (arr .u32 (dg y) 1) 228)).alloc (.cells (arr .u32 (dg x) n) 228)).drewN K).heap[w1.heap.size + 1]? = some (.cells (arr .u32 (dg x) n) 228 (0, 0)) := fun K => by
  have := heap_alloc_new (w1.alloc (.cells (arr .u32 (dg y) 1) 228)) (.cells (arr .u32 (dg x) n) 228)
  rw [World.size_alloc] at this
  exact this
 refine (short_c x y n n n (w1.heap.size + 1) _ HXL.out (by omega) (Nat.le_refl _) (hgx _) hy0 hyl).mono ?_
 rintro e w' ⟨rfl, k3, rfl⟩
 go_wp2_with fail
 refine (bytes_c (x / y) n n (w1.heap.size + 1) _ HQ.out (by omega) (Nat.le_refl _) (fun j hj => by simp [go_sem, arr_get _ _ _ _ hj]) (by simp [go_sem])).mono ?_
 rintro e w' ⟨rfl, hb⟩
 obtain ⟨u, rfl⟩ := World.plus_of_below hb
 clear hb
 go_wp2_with fail
 (go_wp2_with fail; refine (HG.out _).mono ?_; rintro e w' ⟨rfl, hb⟩; (first | (with_reducible (have hb2 := World.plus_of_below ((World.below_plus _ _).trans (hb.mono (World.size_plus _ _)))); obtain ⟨u, rfl⟩ := hb2) | (obtain ⟨u, rfl⟩ := World.plus_of_below hb)); clear hb)
 go_wp2_with fail
 go_ret2
 refine ⟨rfl, hb1.trans (Below.mono ?_ hb1.size)⟩
 (repeat' (first | (with_reducible first | exact Below.refl _ _ | assumption | refine Below.plus0 ?_ _ | refine Below.row ?_ ?_ _ _ | refine Below.alloc0 ?_ _ | refine Below.plus ?_ ?_ _ | refine Below.alloc ?_ ?_ _ | refine Below.drew ?_ | refine Below.drewN ?_ _) | (simp [go_sem]; done) | (simp [go_sem]; omega)))
end Go.Proofs.YtlblfgbpogljoaaGreatDoor

end
section
/- The package integer: div returns the quotient and the remainder of any two magnitudes, the second one not zero. -/
namespace Go.Proofs.YtlblfgbpogljoaaGreatDoor
open Go Go.RowKit
open Vi
@[go_sem] theorem World.setCell_row_other (w : World) (g : Nat) (t : TypeId) (cs : Array Value) (k i : Nat) (v : Value) (h : k ≠ g) : (w.row g t cs).setCell ⟨k, i, none⟩ v = (w.setCell ⟨k, i, none⟩ v).row g t cs := by
 unfold World.setCell World.row
 simp only [World.mk.injEq, and_true]
 apply Array.ext_getElem?
 intro j
 simp only [Array.getElem?_modify, Array.getElem?_setIfInBounds, Array.size_modify]
 by_cases h1 : g = j
 ·subst h1
  rw [if_neg h, if_pos rfl, if_pos rfl]
 ·rw [if_neg h1, if_neg h1]
theorem mulFn_top (T t i n : Nat) (hT : T < 4294967296 ^ (i + n + 1)) : mulFn T t i (n + 1) = dg (t % 4294967296 ^ (i + n + 1)) := by
 funext p
 unfold mulFn
 rw [dg_mod]
 by_cases h : p < i + n + 1
 ·rw [if_pos (by omega), if_pos h]
 ·rw [if_neg (by omega), if_neg h, dg_big T _ p hT (by omega)]
def lowFn (r k : Nat) : Nat → Nat := fun p => if p < k then dg r p else 0
theorem lowFn_zero (r : Nat) : (fun _ => 0) = lowFn r 0 := by funext p; unfold lowFn; rw [if_neg (by omega)]
theorem lowFn_succ (r k : Nat) : upd (lowFn r k) k (dg r k) = lowFn r (k + 1) := by
 funext p
 unfold upd lowFn
 by_cases h : p = k
 ·subst h; rw [if_pos rfl, if_pos (by omega)]
 ·rw [if_neg h]
  by_cases h2 : p < k
  ·rw [if_pos h2, if_pos (by omega)]
  ·rw [if_neg h2, if_neg (by omega)]
theorem lowFn_all (r n : Nat) : arr .u32 (lowFn r n) n = arr .u32 (dg r) n := by
 apply arr_congr; intro p hp; unfold lowFn; rw [if_pos hp]
theorem back_int (r s i : Nat) (hs : s ≤ 32) (z : Nat) (hz : z = dg (r * 2 ^ s) (i + 1) * 4294967296 + dg (r * 2 ^ s) i) : (z : Int) / 2 ^ s % 4294967296 = ((dg r i : Nat) : Int) := by
 have h := back_dg r s i hs
 rw [← hz] at h
 rw [← h, show (2 : Int) ^ s = ((2 ^ s : Nat) : Int) by rw [Int.natCast_pow]; rfl]
 rfl
theorem heap_at (w : World) (o : Obj) (g : Nat) (h : g = w.heap.size) : (w.alloc o).heap[g]? = some o := by subst h; exact heap_alloc_new w o
theorem makeOut (m : Nat) (z : Int) (w : World) (hz : z = (m : Int)) (h : m ≤ 8589934591) : (Instr.makeSlice 226 (.int .i64 z) (.int .i64 z)).run Tryz.prog w = .ok (.slice (some ⟨w.heap.size, 0, none⟩) m m) (w.alloc (.cells (arr .u32 (fun _ => 0) m) 228)) := by
 subst hz; exact make32 m w (by omega)
set_option maxRecDepth 100000 in
set_option maxHeartbeats 4000000 in
theorem div_big (x y p N : Nat) (sx : (mag x).size ≤ 4294967296) (sy : (mag y).size ≤ 4294967296) (hbig : (fits8 x && fits8 y) = false) (h : ¬ x < y) (h1 : nd 4294967296 y = p + 2) (hN : nd 4294967296 x = N) : DivOk x y := by
 intro w
 have hw := fun w => words_c x y w sx sy
 rw [hbig] at hw
 have H := Lib.hid hw
 have hc := fun w => compare_c x y w sx sy
 obtain ⟨c, hcc⟩ : ∃ c, c = cmpN x y := ⟨_, rfl⟩
 rw [← hcc] at hc
 have hc0 : ¬ c < 0 := by rw [hcc]; unfold cmpN; rw [if_neg h]; split <;> omega
 have HC := Lib.hid hc
 have hdx := fun w => digits_c x w sx
 have hdy := fun w => digits_c y w sy
 obtain ⟨n, hn⟩ : ∃ n, n = p + 2 := ⟨_, rfl⟩
 rw [h1, ← hn] at hdy
 rw [hN] at hdx
 have HX := Lib.hid hdx
 have HY := Lib.hid hdy
 have hxl : x < 4294967296 ^ N := by rw [← hN]; exact lt_pow_nd _ (by omega) x
 have hyl : y < 4294967296 ^ n := by rw [hn, ← h1]; exact lt_pow_nd _ (by omega) y
 have hN2 : N ≤ 1073741825 := by rw [← hN, ← up4_nd]; unfold up4; omega
 have hnN : n ≤ N := by rw [hn, ← h1, ← hN]; exact nd_mono _ (by omega) _ _ (by omega)
 obtain ⟨t, ht⟩ : ∃ t, t = dg y (p + 1) := ⟨_, rfl⟩
 have ht0 : 0 < t := by rw [ht]; exact dg_top y (p + 1) h1
 have ht1 : t < 4294967296 := by rw [ht]; exact dg_lt _ _
 obtain ⟨s, hs⟩ : ∃ s, s = lz t := ⟨_, rfl⟩
 have hs32 : s < 32 := by rw [hs]; exact lz_lt t ht0
 have HLZ : Hid (∀ w, Calls Tryz.prog 213 #[.int .u32 (t : Int)] w fun e w' => e = .returned (.int .i64 (s : Int)) ∧ w = w') := Lib.hid fun w => by
  refine (Tryz.bits_LeadingZeros32 (t : Int) w (by omega) (by omega)).mono ?_
  rintro e w' ⟨rfl, rfl⟩
  refine ⟨?_, rfl⟩
  have hb : Lib.bitLen ((t : Int)).toNat = nd 2 t := by rw [Int.toNat_natCast]; exact bitLen_nd t (by omega)
  have hn2 : nd 2 t ≤ 32 := nd_le 2 (by omega) t 32 (by omega)
  rw [hb, hs]
  unfold lz
  congr 2
  omega
 obtain ⟨m, hm⟩ : ∃ m, m + n = N + 1 := ⟨N + 1 - n, by omega⟩
 have hYl : y * 2 ^ s < 4294967296 ^ n := by rw [hs, ht, hn]; exact norm_lt y (p + 1) h1
 have hYt : 2147483648 ≤ dg (y * 2 ^ s) (p + 1) := by rw [hs, ht]; exact norm_top y (p + 1) h1
 have hXm : x * 2 ^ s < y * 2 ^ s * 4294967296 ^ m := by
  have := start_lt x y s N (p + 1) hxl h1 (by omega)
  rwa [show N - (p + 1) = m by omega] at this
 have hget : ∀ w : World, (w.alloc (.cells (arr .u32 (dg y) n) 228)).cell? ⟨w.heap.size, p + 1, none⟩ = some (.int .u32 (t : Int)) := fun w => by
  rw [World.cell?_alloc_new, arr_get _ _ _ _ (by omega), ht]
 have HMK := Lib.hid (fun w => makeOut m ((N : Int) + 1 - (n : Int)) w (by omega) (by omega))
 have e1 : (n : Int) - 1 = (p : Int) + 1 := by omega
 have e2 : ((n : Int) == 1) = false := by rw [beq_eq_false_iff_ne]; omega
 have e3 : (p : Int) + 1 < (n : Int) := by omega
 have HXL := Lib.hid hxl
 have HYL := Lib.hid hyl
 have HN := Lib.hid hn
 have HM := Lib.hid hm
 have HMW := Lib.hid (show wrap64 ((m : Int) - 1) = pre m by unfold wrap64 pre; omega)
 clear hw hc hcc hdx hdy h h1 hN hxl hyl hbig sx sy hs ht hn hm
 go_enter Tryz.func189, Tryz.ntmps189
 go_wp2_with fail
 (refine (H.out _).mono ?_; rintro e w' ⟨rfl, rfl⟩)
 go_wp2_with fail
 (go_wp2_with fail; refine (HC.out _).mono ?_; rintro e w' ⟨rfl, hb⟩; obtain ⟨u, rfl⟩ := World.plus_of_below hb; clear hb)
 have hb1 := World.below_plus w u
 generalize w.plus u = w1 at hb1 ⊢
 go_wp2_with fail
 refine (HY.out _).mono ?_
 rintro e w' ⟨rfl, k1, rfl⟩
 have hgt := hget w1
 go_wp2_with fail
 (refine (HLZ.out _).mono ?_; rintro e w' ⟨rfl, rfl⟩)
 go_wp2_with fail
 refine (HX.out _).mono ?_
 rintro e w' ⟨rfl, k2, rfl⟩
 go_wp2_with fail
 refine (shifted_c x s N N (w1.heap.size + 1) _ HXL.out (by omega) (fun j hj => by simp [go_sem, arr_get _ _ _ _ hj]) (by simp [go_sem]) hs32).mono ?_
 rintro e w' ⟨rfl, k3, rfl⟩
 go_wp2_with fail
 refine (shifted_c y s n n w1.heap.size _ HYL.out (by omega) (fun j hj => by simp [go_sem, arr_get _ _ _ _ hj]) (by simp [go_sem]) hs32).mono ?_
 rintro e w' ⟨rfl, k4, rfl⟩
 go_wp2_with fail
 have hmk := HMK.out
 simp only [hmk]
 clear hmk
 go_wp2_with fail
 obtain ⟨w2, hw2⟩ : ∃ w2, w2 = (((((w1.alloc (.cells (arr .u32 (dg y) n) 228)).alloc (.cells (arr .u32 (dg x) N) 228)).alloc (.cells (arr .u32 (dg (x * 2 ^ s)) (N + 1)) 228)).alloc (.cells (arr .u32 (dg (y * 2 ^ s)) (n + 1)) 228)).alloc (.cells (arr .u32 (fun _ => 0) m) 228)) := ⟨_, rfl⟩
 rw [← hw2]
 have hbw : Below w.heap.size w w2 := hb1.trans (Below.mono (by rw [hw2]; (repeat' (first | (with_reducible first | exact Below.refl _ _ | assumption | refine Below.plus0 ?_ _ | refine Below.row ?_ ?_ _ _ | refine Below.alloc0 ?_ _ | refine Below.plus ?_ ?_ _ | refine Below.alloc ?_ ?_ _ | refine Below.drew ?_ | refine Below.drewN ?_ _) | (simp [go_sem]; done) | (simp [go_sem]; omega)))) hb1.size)
 have hs2 : w2.heap.size = w1.heap.size + 1 + 1 + 1 + 1 + 1 := by rw [hw2]; simp
 have hgo : w2.heap[w1.heap.size + 1 + 1 + 1 + 1]? = some (.cells (arr .u32 (fun _ => 0) m) 228 (0, 0)) := by rw [hw2]; exact heap_at _ _ _ (by simp)
 have hgx : w2.heap[w1.heap.size + 1 + 1]? = some (.cells (arr .u32 (dg (x * 2 ^ s)) (N + 1)) 228 (0, 0)) := by rw [hw2, heap_alloc_old _ _ (show w1.heap.size + 1 + 1 < _ by simp), heap_alloc_old _ _ (show w1.heap.size + 1 + 1 < _ by simp)]; exact heap_at _ _ _ (by simp)
 have hgy : Row32 w2 (w1.heap.size + 1 + 1 + 1) n (dg (y * 2 ^ s)) := by intro j hj; rw [hw2]; simp [go_sem, arr_get _ _ _ _ (show j < n + 1 by omega)]
 have hws : w.heap.size ≤ w1.heap.size := hb1.size
 obtain ⟨ob, hob⟩ : ∃ b, b = w1.heap.size + 1 + 1 + 1 + 1 := ⟨_, rfl⟩
 rw [← hob] at hgo ⊢
 obtain ⟨yb, hyb⟩ : ∃ b, b = w1.heap.size + 1 + 1 + 1 := ⟨_, rfl⟩
 rw [← hyb] at hgy ⊢
 obtain ⟨xb, hxb⟩ : ∃ b, b = w1.heap.size + 1 + 1 := ⟨_, rfl⟩
 rw [← hxb] at hgx ⊢
 have n1 : yb ≠ xb := by omega
 have n2 : yb ≠ ob := by omega
 have n3 : xb ≠ ob := by omega
 have n4 : ob ≠ xb := by omega
 have l1 : xb < w2.heap.size := by omega
 have l2 : yb < w2.heap.size := by omega
 have l3 : ob < w2.heap.size := by omega
 have b1 : w.heap.size ≤ xb := by omega
 have b3 : w.heap.size ≤ ob := by omega
 obtain ⟨Y, hY⟩ : ∃ Y, Y = y * 2 ^ s := ⟨_, rfl⟩
 obtain ⟨A, hA⟩ : ∃ A, A = x * 2 ^ s := ⟨_, rfl⟩
 have hq : A / Y = x / y := by rw [hA, hY]; exact quo_shift x y s
 have hr : A % Y = x % y * 2 ^ s := by rw [hA, hY]; exact rem_shift x y s
 rw [← hY] at hYl hYt hXm hgy
 rw [← hA] at hXm hgx
 have HQ := Lib.hid hq
 have HQm := Lib.hid (Nat.div_lt_of_lt_mul hXm)
 have HRn := Lib.hid (Nat.lt_trans (Nat.mod_lt x (show 0 < y by
  rcases Nat.eq_zero_or_pos y with h0 | h0
  ·rw [hY, h0] at hYt; rw [Nat.zero_mul, dg_zero] at hYt; omega
  ·exact h0)) HYL.out)
 have HR := Lib.hid hr
 have HSX := Lib.hid (World.row_self w2 xb 228 _ hgx)
 have HSO := Lib.hid (World.row_self w2 ob 228 _ hgo)
 have HYl := Lib.hid hYl
 have HYt := Lib.hid hYt
 have HXm := Lib.hid (Nat.mod_eq_of_lt hXm)
 have HB := Lib.hid hbw
 have Hgy := Lib.hid hgy
 clear e1 e3 hq hr hw2 hob hyb hxb hs2 hb1 hgo hgx hgy hYl hYt hXm hbw hA hY hgt hget HX HY HC H HXL HYL HLZ HMK hws
 go_loopw [16] (fun v wr => ∃ j k : Nat, j ≤ m ∧ v = .int .i64 (pre j) ∧ wr = ((w2.row ob 228 (arr .u32 (outFn (A / Y) j) m)).row xb 228 (arr .u32 (dg (A % (Y * 4294967296 ^ j))) (N + 1))).drewN k) (fun v _ => (intOf v + 1).toNat)
 case atStart => exact ⟨m, _, Nat.le_refl _, by rw [HMW.out], by rw [HXm.out, ← outFn_top (A / Y) m m (Nat.le_refl _), HSO.out, HSX.out]⟩
 case round =>
  obtain ⟨j, k, hj, rfl, rfl⟩ := hrel
  cases j with
  | zero =>
   have e : pre 0 = -1 := rfl
   rw [e]
   obtain ⟨r, hrr⟩ : ∃ z, z = x % y := ⟨_, rfl⟩
   have hrn : r < 4294967296 ^ n := by rw [hrr]; exact HRn.out
   have hre : A % (Y * 4294967296 ^ 0) = r * 2 ^ s := by rw [Nat.pow_zero, Nat.mul_one, HR.out, hrr]
   have hqm : A / Y < 4294967296 ^ m := HQm.out
   obtain ⟨q, hqq⟩ : ∃ z, z = A / Y := ⟨_, rfl⟩
   rw [← hqq] at hqm
   rw [hre, outFn_zero, ← hqq]
   have HRN := Lib.hid hrn
   have HQM := Lib.hid hqm
   have HE1 : Hid (x / y = q) := Lib.hid (by rw [hqq, HQ.out])
   have HE2 : Hid (x % y = r) := Lib.hid hrr.symm
   have HMK2 := Lib.hid (make32 n · (by have := HM.out; omega))
   have hm := HM.out
   clear e hrn hre hqm hqq hrr HYt HXm HQ HQm HR HRn HSX HSO Hgy
   go_wp2_with fail
   have hmk := HMK2.out
   simp only [hmk]
   clear hmk
   go_wp2_with fail
   go_loopw [277] (fun v wr => ∃ k k3 : Nat, k ≤ n ∧ v = .int .i64 (k : Int) ∧ wr = (((w2.row ob 228 (arr .u32 (dg q) m)).row xb 228 (arr .u32 (dg (r * 2 ^ s)) (N + 1))).alloc (.cells (arr .u32 (lowFn r k) n) 228)).drewN k3) (fun v _ => n - (intOf v).toNat)
   case atStart => exact ⟨0, k, Nat.zero_le _, rfl, by rw [← lowFn_zero]⟩
   case round =>
    obtain ⟨k4, k3, hk, rfl, rfl⟩ := hrel
    by_cases hlt : k4 < n
    ·obtain ⟨k5, hk5⟩ : ∃ z, z = k4 + 1 := ⟨_, rfl⟩
     obtain ⟨ua, hua⟩ : ∃ z, z = dg (r * 2 ^ s) k4 := ⟨_, rfl⟩
     obtain ⟨ub, hub⟩ : ∃ z, z = dg (r * 2 ^ s) k5 := ⟨_, rfl⟩
     have hg1 := arr_get .u32 (dg (r * 2 ^ s)) (N + 1) k4 (by omega)
     have hg2 := arr_get .u32 (dg (r * 2 ^ s)) (N + 1) k5 (by omega)
     have hg3 := arr_get .u32 (lowFn r k4) n k4 hlt
     rw [← hua] at hg1
     rw [← hub] at hg2
     have huac : ua < 4294967296 := by rw [hua]; exact dg_lt _ _
     have hubc : ub < 4294967296 := by rw [hub]; exact dg_lt _ _
     have hor := or_shl32 ub ua hubc huac
     obtain ⟨z, hz⟩ : ∃ z, z = ub * 4294967296 + ua := ⟨_, rfl⟩
     rw [← hz] at hor
     have hzb : z < 18446744073709551616 := by omega
     have hbk := back_int r s k4 (by omega) z (by rw [hz, hub, hua, hk5])
     have HS3 := Lib.hid (lowFn_succ r k4)
     have s6 : (k4 : Int) + 1 = (k5 : Int) := by omega
     have s8 : (k5 : Int) < (N : Int) + 1 := by omega
     have s9 : (k4 : Int) < (N : Int) + 1 := by omega
     have hkn : (k4 : Int) < (n : Int) := by omega
     have Hk5 := Lib.hid hk5
     clear hua hub hz hk5
     go_wp2_with fail
     (refine wp_region_exact_t 19 (by kernel_rfl) (by kernel_rfl) ?_; simp only [List.take_succ_cons, List.take_zero, List.drop_succ_cons, List.drop_zero]; repeat go_big_quiet_step (fail)); (refine wpQuiet_nil ?_; rintro _ rfl)
     go_wp2_with fail
     exact ⟨⟨k5, k3 + 1, by have := Hk5.out; omega, rfl, by rw [arr_set, HS3.out, Hk5.out]⟩, by have := Hk5.out; simp [intOf]; omega⟩
    ·have e : n = k4 := by omega
     subst e
     have HLA := Lib.hid (lowFn_all r n)
     go_wp2_with fail
     rw [HLA.out]
     refine (bytes_c q m m ob _ HQM.out (by omega) (Nat.le_refl _) (fun j hj => by simp [go_sem, l1, l3, n3, n4, Nat.ne_of_lt l3, arr_get _ _ _ _ hj]) (by simp [go_sem]; omega)).mono ?_
     rintro e w' ⟨rfl, hb⟩
     obtain ⟨u2, rfl⟩ := World.plus_of_below hb
     clear hb
     go_wp2_with fail
     refine (bytes_c r n n w2.heap.size _ HRN.out (by omega) (Nat.le_refl _) (fun j hj => by simp [go_sem, arr_get _ _ _ _ hj]) (by simp [go_sem])).mono ?_
     rintro e w' ⟨rfl, hb⟩
     obtain ⟨u3, rfl⟩ := World.plus_of_below hb
     clear hb
     go_wp2_with fail
     go_ret2
     have hbw := HB.out
     rw [HE1.out, HE2.out]
     exact ⟨rfl, by (repeat' (first | (with_reducible first | exact Below.refl _ _ | assumption | refine Below.plus0 ?_ _ | refine Below.row ?_ ?_ _ _ | refine Below.alloc0 ?_ _ | refine Below.plus ?_ ?_ _ | refine Below.alloc ?_ ?_ _ | refine Below.drew ?_ | refine Below.drewN ?_ _) | (simp [go_sem]; done) | (simp [go_sem]; omega)))⟩
  | succ i =>
   have e : pre (i + 1) = (i : Int) := by unfold pre; omega
   rw [e]
   clear e
   obtain ⟨R, hR⟩ : ∃ R, R = A % (Y * 4294967296 ^ (i + 1)) := ⟨_, rfl⟩
   rw [← hR]
   have hn := HN.out
   have hm := HM.out
   have hy0 : 0 < Y := by
    rcases Nat.eq_zero_or_pos Y with h0 | h0
    ·have := HYt.out; subst h0; rw [dg_zero] at this; omega
    ·exact h0
   have hRl : R < 4294967296 ^ (i + n + 1) := by rw [hR]; exact rest_lt A Y i n HYl.out hy0
   have hUl : R / 4294967296 ^ i < Y * 4294967296 := by rw [hR]; exact rest_u A Y i hy0
   have hQ : R / 4294967296 ^ i / Y = dg (A / Y) i := by rw [hR]; exact rest_q A Y i
   have hnext : R - 4294967296 ^ i * (dg (A / Y) i * Y) = A % (Y * 4294967296 ^ i) := by rw [hR]; exact rest_next A Y i
   have hrle : 4294967296 ^ i * (dg (A / Y) i * Y) ≤ R := by rw [hR]; exact rest_le A Y i
   have hrgt : R < 4294967296 ^ i * ((dg (A / Y) i + 1) * Y) := by rw [hR]; exact rest_gt A Y i hy0
   obtain ⟨a0, ha0⟩ : ∃ a, a = i + n := ⟨_, rfl⟩
   obtain ⟨a1, ha1⟩ : ∃ a, a = i + (p + 1) := ⟨_, rfl⟩
   obtain ⟨a2, ha2⟩ : ∃ a, a = i + p := ⟨_, rfl⟩
   obtain ⟨q1, hq1⟩ : ∃ a, a = p + 1 := ⟨_, rfl⟩
   have hYp : Y < 4294967296 ^ (p + 2) := by rw [← hn]; exact HYl.out
   obtain ⟨u0, hu0⟩ : ∃ z, z = dg R a0 := ⟨_, rfl⟩
   obtain ⟨u1, hu1⟩ : ∃ z, z = dg R a1 := ⟨_, rfl⟩
   obtain ⟨u2, hu2⟩ : ∃ z, z = dg R a2 := ⟨_, rfl⟩
   obtain ⟨y1, hy1⟩ : ∃ z, z = dg Y (p + 1) := ⟨_, rfl⟩
   obtain ⟨y2, hy2⟩ : ∃ z, z = dg Y p := ⟨_, rfl⟩
   obtain ⟨Q, hQQ⟩ : ∃ z, z = dg (A / Y) i := ⟨_, rfl⟩
   obtain ⟨U, hU⟩ : ∃ z, z = R / 4294967296 ^ i := ⟨_, rfl⟩
   obtain ⟨hi, hhi⟩ : ∃ z, z = U / 4294967296 ^ (p + 1) := ⟨_, rfl⟩
   rw [← hU] at hUl hQ
   rw [← hQQ] at hQ hnext hrle hrgt
   have hy1b : 2147483648 ≤ y1 := by rw [hy1]; exact HYt.out
   have hy1c : y1 < 4294967296 := by rw [hy1]; exact dg_lt _ _
   have hy2c : y2 < 4294967296 := by rw [hy2]; exact dg_lt _ _
   have hu0c : u0 < 4294967296 := by rw [hu0]; exact dg_lt _ _
   have hu1c : u1 < 4294967296 := by rw [hu1]; exact dg_lt _ _
   have hu2c : u2 < 4294967296 := by rw [hu2]; exact dg_lt _ _
   have hQB : Q < 4294967296 := by rw [hQQ]; exact dg_lt _ _
   have hhi2 : u0 * 4294967296 + u1 = hi := by
    have z0 : u0 = dg U (p + 2) := by rw [hu0, ha0, hn, dg_div, hU]
    have z1 : u1 = dg U (p + 1) := by rw [hu1, ha1, dg_div, hU]
    rw [z0, z1, hhi]
    exact guess_hi U Y p hYp hUl
   have hhis : hi < y1 * 4294967296 + 4294967296 := by rw [hhi, hy1]; exact guess_small U Y p hYp hUl
   have hst : Q ≤ hi / y1 := by rw [← hQ, hhi, hy1]; exact guess_start U Y p hYp (by rw [← hy1]; omega)
   have HGS : Hid (∀ g r, g * y1 + r = hi → (4294967296 ≤ g ∨ r * 4294967296 + u2 < g * y2) → Q < g) := Lib.hid fun g r h1 h2 => by
    rw [← hQ]
    refine guess_step U Y p g r hYp hy0 hUl (by rw [← hy1, ← hhi]; exact h1) ?_
    have z2 : u2 = dg U p := by rw [hu2, ha2, dg_div, hU]
    rw [z2, hy2] at h2
    exact h2
   have HGE : Hid (∀ g r, g * y1 + r = hi → g < 4294967296 → g * y2 ≤ r * 4294967296 + u2 → g ≤ Q + 1) := Lib.hid fun g r h1 h3 h2 => by
    rw [← hQ]
    refine guess_end U Y p g r hYp (by rw [← hy1]; omega) (by rw [← hy1, ← hhi]; exact h1) h3 ?_
    have z2 : u2 = dg U p := by rw [hu2, ha2, dg_div, hU]
    rw [z2, hy2] at h2
    exact h2
   have hga0 := arr_get .u32 (dg R) (N + 1) a0 (by omega)
   have hga1 := arr_get .u32 (dg R) (N + 1) a1 (by omega)
   have hga2 := arr_get .u32 (dg R) (N + 1) a2 (by omega)
   rw [← hu0] at hga0
   rw [← hu1] at hga1
   rw [← hu2] at hga2
   have hgy1 := Hgy.out (p + 1) (by omega)
   rw [← hy1, ← hq1] at hgy1
   have hgy2 := Hgy.out p (by omega)
   rw [← hy2] at hgy2
   have f0 : (i : Int) + (n : Int) = (a0 : Int) := by omega
   have f1 : (a0 : Int) - 1 = (a1 : Int) := by omega
   have f2 : (a0 : Int) - 2 = (a2 : Int) := by omega
   have f3 : (n : Int) - 1 = (q1 : Int) := by omega
   have f4 : (n : Int) - 2 = (p : Int) := by omega
   have w0 : IntKind.i64.wrap ((i : Int) + (n : Int)) = (a0 : Int) := by rw [f0]; exact IntWalk.i64_in _ (by omega)
   have w1 : IntKind.i64.wrap ((a0 : Int) - 1) = (a1 : Int) := by rw [f1]; exact IntWalk.i64_in _ (by omega)
   have w2' : IntKind.i64.wrap ((a0 : Int) - 2) = (a2 : Int) := by rw [f2]; exact IntWalk.i64_in _ (by omega)
   have w3 : IntKind.i64.wrap ((n : Int) - 1) = (q1 : Int) := by rw [f3]; exact IntWalk.i64_in _ (by omega)
   have w4 : IntKind.i64.wrap ((n : Int) - 2) = (p : Int) := by rw [f4]; exact IntWalk.i64_in _ (by omega)
   have l0 : (a0 : Int) < (N : Int) + 1 := by omega
   have l1' : (a1 : Int) < (N : Int) + 1 := by omega
   have l2' : (a2 : Int) < (N : Int) + 1 := by omega
   have l3' : (q1 : Int) < (n : Int) := by omega
   have l4' : (p : Int) < (n : Int) := by omega
   have hor := or_shl32 u0 u1 hu0c hu1c
   rw [hhi2] at hor
   have hhb : hi < 18446744073709551616 := by omega
   have HNX := Lib.hid hnext
   have HRL := Lib.hid hrle
   have HRG := Lib.hid hrgt
   have HRl := Lib.hid hRl
   have HST := Lib.hid hst
   have HHS := Lib.hid hhis
   have Ha0 := Lib.hid ha0
   have Ha1 := Lib.hid ha1
   have Ha2 := Lib.hid ha2
   have Hu0 := Lib.hid hu0
   have HQQ := Lib.hid hQQ
   have Hhi2 := Lib.hid hhi2
   have hijm : i < m := by omega
   clear hR hn hm hRl hUl hQ hnext hrle hrgt ha0 ha1 ha2 hq1 hYp hu0 hu1 hu2 hy1 hy2 hQQ hU hhi hhi2 hhis hst
   go_wp2_with fail
   (refine wp_region_exact (by kernel_rfl) (by kernel_rfl) ?_; repeat go_big_quiet_step (fail)); (refine wpQuiet_nil ?_; rintro _ rfl)
   obtain ⟨g0, hg0⟩ : ∃ z, z = hi / y1 := ⟨_, rfl⟩
   obtain ⟨r0, hr0⟩ : ∃ z, z = hi % y1 := ⟨_, rfl⟩
   have v1 : (hi : Int).tdiv (y1 : Int) = (g0 : Int) := by rw [hg0]; exact Int.ofNat_tdiv hi y1
   have v2 : (hi : Int).tmod (y1 : Int) = (r0 : Int) := by rw [hr0]; exact Int.ofNat_tmod hi y1
   have v1' : (hi : Int) / (y1 : Int) = (g0 : Int) := by rw [hg0]; rfl
   have v2' : (hi : Int) % (y1 : Int) = (r0 : Int) := by rw [hr0]; rfl
   have v3 : ((y1 : Int) == 0) = false := by rw [beq_eq_false_iff_ne]; omega
   have hr0b : r0 < y1 := by rw [hr0]; exact Nat.mod_lt _ (by omega)
   have hgr : g0 * y1 + r0 = hi := by rw [hg0, hr0]; exact Nat.div_add_mod' hi y1
   have hg0Q : Q ≤ g0 := by rw [hg0]; exact HST.out
   have hg0b : g0 < 18446744073709551616 := by rw [hg0]; exact Nat.lt_of_le_of_lt (Nat.div_le_self _ _) hhb
   have v4 : IntKind.u64.wrap (g0 : Int) = (g0 : Int) := u64_of_nat g0 (by omega)
   have v5 : IntKind.u64.wrap (r0 : Int) = (r0 : Int) := u64_of_nat r0 (by omega)
   have hgB : g0 ≤ 4294967297 := by
    have h5 := HHS.out
    rw [hg0]
    have : hi / y1 < 4294967298 := by
     rw [Nat.div_lt_iff_lt_mul (by omega)]; omega
    omega
   clear hg0 hr0
   go_upto_region 20 with fail
   (refine wp_region_exact (by kernel_rfl) (by kernel_rfl) ?_; repeat go_big_quiet_step (fail)); (refine wpQuiet_nil ?_; rintro _ rfl)
   clear v1 v2 v1' v2' v3 v4 v5
   go_upto_block 2 with fail
   go_cut [18, 19] (fun g r wx => ∃ gn k2 : Nat, Q ≤ gn ∧ gn ≤ Q + 1 ∧ gn < 4294967296 ∧ g = .int .u64 (gn : Int) ∧ wx = ((w2.row ob 228 (arr .u32 (outFn (A / Y) (i + 1)) m)).row xb 228 (arr .u32 (dg R) (N + 1))).drewN k2)
   case first =>
    go_wp2_with fail
    go_loopw [18, 19] (fun g r wr => ∃ gn rn k2 : Nat, gn * y1 + rn = hi ∧ Q ≤ gn ∧ rn < 4294967296 ∧ gn ≤ 4294967297 ∧ g = .int .u64 (gn : Int) ∧ r = .int .u64 (rn : Int) ∧ wr = ((w2.row ob 228 (arr .u32 (outFn (A / Y) (i + 1)) m)).row xb 228 (arr .u32 (dg R) (N + 1))).drewN k2) (fun g _ _ => (intOf g).toNat)
    case atStart => exact ⟨g0, r0, k + 1 + 1, hgr, hg0Q, by omega, hgB, rfl, rfl, rfl⟩
    case round =>
     obtain ⟨gn, rn, k2, hgr2, hgQ, hrB, hgB2, rfl, rfl, rfl⟩ := hrel
     clear hgr hg0Q hgB hg0b hr0b
     by_cases hA : 4294967296 ≤ gn
     ·have t1 : (4294967296 : Int) ≤ (gn : Int) := by omega
      have hQg : Q < gn := by omega
      go_wp2_with fail
      (refine wp_region_exact (by kernel_rfl) (by kernel_rfl) ?_; repeat go_big_quiet_step (fail)); (refine wpQuiet_nil ?_; rintro _ rfl)
      obtain ⟨g', hg'⟩ : ∃ g', gn = g' + 1 := ⟨gn - 1, by omega⟩
      obtain ⟨rs, hrs⟩ : ∃ z, z = rn + y1 := ⟨_, rfl⟩
      have tw1 : IntKind.u64.wrap ((gn : Int) - 1) = (g' : Int) := by rw [IntKind.wrap_u64]; omega
      have tw2 : IntKind.u64.wrap ((rn : Int) + (y1 : Int)) = (rs : Int) := by rw [IntKind.wrap_u64]; omega
      have hm2 : g' * y1 + rs = hi := by rw [hrs, ← hgr2, hg', Nat.add_mul, Nat.one_mul]; omega
      have HM2 := Lib.hid hm2
      have Hg' := Lib.hid hg'
      have HgQ := Lib.hid (show Q ≤ g' by omega)
      have hgB3 : g' ≤ 4294967297 := by omega
      clear hg' hrs hgr2 hm2
      by_cases hrB2 : 4294967296 ≤ rs
      ·have t5 : (4294967296 : Int) ≤ (rs : Int) := by omega
       go_wp2_with fail
       go_meet
       case rel =>
        have hgg : g' < 4294967296 := by
         apply Nat.lt_of_not_le
         intro hge
         have h7 := Nat.mul_le_mul_right y1 hge
         have h8 := HM2.out
         have h9 := HHS.out
         omega
        have h10 : g' * y2 ≤ rs * 4294967296 + u2 := by
         have h11 : g' * y2 ≤ 4294967295 * 4294967295 := Nat.mul_le_mul (by omega) (by omega)
         omega
        exact ⟨g', k2 + 1, HgQ.out, HGE.out g' rs HM2.out hgg h10, hgg, rfl, rfl⟩
      ·have t5 : ¬ (4294967296 : Int) ≤ (rs : Int) := by omega
       go_wp2_with fail
       go_roundw
       case rel => exact ⟨g', rs, k2 + 1, HM2.out, HgQ.out, by omega, hgB3, rfl, rfl, rfl⟩
       case measure => have := Hg'.out; first | (simp [intOf]; done) | (simp [intOf]; omega)
     ·have t1 : ¬ (4294967296 : Int) ≤ (gn : Int) := by omega
      have td1 : decide ((4294967296 : Int) ≤ (gn : Int)) = false := decide_eq_false t1
      have tl1 : gn < 4294967296 := by omega
      obtain ⟨P, hP⟩ : ∃ P, P = gn * y2 := ⟨_, rfl⟩
      have hPb : P ≤ 4294967295 * 4294967295 := by rw [hP]; exact Nat.mul_le_mul (by omega) (by omega)
      have t2 : IntKind.u64.wrap ((gn : Int) * (y2 : Int)) = (P : Int) := by
       rw [← Int.natCast_mul, ← hP, IntKind.wrap_u64]; omega
      have hor2 := or_shl32 rn u2 hrB hu2c
      obtain ⟨z2, hz2⟩ : ∃ z, z = rn * 4294967296 + u2 := ⟨_, rfl⟩
      rw [← hz2] at hor2
      by_cases hC : z2 < P
      ·have t3 : (z2 : Int) < (P : Int) := by omega
       have hQg : Q < gn := HGS.out gn rn hgr2 (.inr (by rw [← hz2, ← hP]; exact hC))
       clear hP hz2
       go_wp2_with fail
       (refine wp_region_exact (by kernel_rfl) (by kernel_rfl) ?_; repeat go_big_quiet_step (fail)); (refine wpQuiet_nil ?_; rintro _ rfl)
       obtain ⟨g', hg'⟩ : ∃ g', gn = g' + 1 := ⟨gn - 1, by omega⟩
       obtain ⟨rs, hrs⟩ : ∃ z, z = rn + y1 := ⟨_, rfl⟩
       have tw1 : IntKind.u64.wrap ((gn : Int) - 1) = (g' : Int) := by rw [IntKind.wrap_u64]; omega
       have tw2 : IntKind.u64.wrap ((rn : Int) + (y1 : Int)) = (rs : Int) := by rw [IntKind.wrap_u64]; omega
       have hm2 : g' * y1 + rs = hi := by rw [hrs, ← hgr2, hg', Nat.add_mul, Nat.one_mul]; omega
       have HM2 := Lib.hid hm2
       have Hg' := Lib.hid hg'
       have HgQ := Lib.hid (show Q ≤ g' by omega)
       have hgB3 : g' ≤ 4294967297 := by omega
       clear hg' hrs hgr2 hm2
       by_cases hrB2 : 4294967296 ≤ rs
       ·have t5 : (4294967296 : Int) ≤ (rs : Int) := by omega
        go_wp2_with fail
        go_meet
        case rel =>
         have hgg : g' < 4294967296 := by
          apply Nat.lt_of_not_le
          intro hge
          have h7 := Nat.mul_le_mul_right y1 hge
          have h8 := HM2.out
          have h9 := HHS.out
          omega
         have h10 : g' * y2 ≤ rs * 4294967296 + u2 := by
          have h11 : g' * y2 ≤ 4294967295 * 4294967295 := Nat.mul_le_mul (by omega) (by omega)
          omega
         exact ⟨g', k2 + 1, HgQ.out, HGE.out g' rs HM2.out hgg h10, hgg, rfl, rfl⟩
       ·have t5 : ¬ (4294967296 : Int) ≤ (rs : Int) := by omega
        go_wp2_with fail
        go_roundw
        case rel => exact ⟨g', rs, k2 + 1, HM2.out, HgQ.out, by omega, hgB3, rfl, rfl, rfl⟩
        case measure => have := Hg'.out; first | (simp [intOf]; done) | (simp [intOf]; omega)
      ·have t3 : ¬ (z2 : Int) < (P : Int) := by omega
       have td3 : decide ((z2 : Int) < (P : Int)) = false := decide_eq_false t3
       have hge := HGE.out gn rn hgr2 (by omega) (by rw [← hz2, ← hP]; omega)
       clear hP hz2
       go_wp2_with fail
       (refine wp_region_exact (by kernel_rfl) (by kernel_rfl) ?_; repeat go_big_quiet_step (fail)); (refine wpQuiet_nil ?_; rintro _ rfl)
       go_wp2_with fail
       go_meet
       case rel => exact ⟨gn, k2 + 1, hgQ, hge, by omega, rfl, rfl⟩
   case rest =>
    obtain ⟨gn, k2, hg1, hg2, hg3, rfl, rfl⟩ := hcut
    have hn := HN.out
    have hV : gn * Y ≤ 4294967296 ^ (n + 1) := by
     rw [pw, Nat.mul_comm]
     exact Nat.mul_le_mul (Nat.le_of_lt HYl.out) (Nat.le_of_lt hg3)
    have HV := Lib.hid hV
    obtain ⟨T, hT⟩ : ∃ T, T = kT R (gn * Y) n i := ⟨_, rfl⟩
    have HSL := Lib.hid (subFn_low R (gn * Y) n i hV)
    rw [← hT] at HSL
    have HT := Lib.hid hT
    have HM0 := Lib.hid (my_zero T gn Y i)
    clear hV hT hn hgr hg0Q hg0b hgB hr0b w1 w2' w3 w4 f1 f2 f3 f4 l1' l2' l3' l4' hor hhb hga1 hga2 hgy1 hgy2 HGS HGE HST HHS
    go_wp2_with fail
    go_loopw [20, 21, 168] (fun b c v wr => ∃ k bn cn : Nat, k ≤ n ∧ v = .int .i64 (k : Int) ∧ b = .int .i64 (bn : Int) ∧ c = .int .u64 (cn : Int) ∧ bn ≤ 1 ∧ cn < 4294967296 ∧ Hid (cn + bn = my T gn Y i k) ∧ wr = ((w2.row ob 228 (arr .u32 (outFn (A / Y) (i + 1)) m)).row xb 228 (arr .u32 (subFn R T i k) (N + 1))).drewN k2) (fun _ _ v _ => n - (intOf v).toNat)
    case atStart => exact ⟨0, 0, 0, Nat.zero_le _, rfl, rfl, rfl, by omega, by omega, Lib.hid (by rw [HM0.out]), by rw [← HSL.out]⟩
    case round =>
     obtain ⟨k, bn, cn, hk, rfl, rfl, rfl, hbn, hcn, HCk, rfl⟩ := hrel
     have hm := HM.out
     by_cases hlt : k < n
     ·obtain ⟨ak, hak⟩ : ∃ z, z = i + k := ⟨_, rfl⟩
      obtain ⟨rk, hrk⟩ : ∃ z, z = dg R ak := ⟨_, rfl⟩
      obtain ⟨yk, hyk⟩ : ∃ z, z = dg Y k := ⟨_, rfl⟩
      obtain ⟨tk, htk⟩ : ∃ z, z = dg T ak := ⟨_, rfl⟩
      have hgk := arr_get .u32 (subFn R T i k) (N + 1) ak (by omega)
      rw [show subFn R T i k ak = rk by rw [hak, subFn_at, hrk, hak]] at hgk
      have hgyk := Hgy.out k hlt
      rw [← hyk] at hgyk
      have hst := kT_step R gn Y n i k HV.out (by omega)
      rw [← HT.out, ← HCk.out, ← hak, ← hrk, ← hyk, ← htk] at hst
      have hrkc : rk < 4294967296 := by rw [hrk]; exact dg_lt _ _
      have hykc : yk < 4294967296 := by rw [hyk]; exact dg_lt _ _
      have htkc : tk < 4294967296 := by rw [htk]; exact dg_lt _ _
      obtain ⟨C1, hC1⟩ : ∃ z, z = my T gn Y i (k + 1) := ⟨_, rfl⟩
      rw [← hC1] at hst
      obtain ⟨P, hP⟩ : ∃ P, P = gn * yk := ⟨_, rfl⟩
      have hPb : P ≤ 4294967295 * 4294967295 := by rw [hP]; exact Nat.mul_le_mul (by omega) (by omega)
      have s1 : IntKind.u64.wrap ((gn : Int) * (yk : Int)) = (P : Int) := by
       rw [← Int.natCast_mul, ← hP, IntKind.wrap_u64]; omega
      rw [← hP] at hst
      obtain ⟨S, hS⟩ : ∃ z, z = cn + P := ⟨_, rfl⟩
      have s2 : IntKind.u64.wrap ((cn : Int) + (P : Int)) = (S : Int) := by rw [IntKind.wrap_u64]; omega
      obtain ⟨lo, hlo⟩ : ∃ z, z = S % 4294967296 := ⟨_, rfl⟩
      obtain ⟨hiS, hhiS⟩ : ∃ z, z = S / 4294967296 := ⟨_, rfl⟩
      have s3 : (S : Int) % 4294967296 = (lo : Int) := by omega
      have s4 : (S : Int) / 4294967296 = (hiS : Int) := by omega
      have hloc : lo < 4294967296 := by omega
      have hhic : hiS < 4294967296 := by omega
      obtain ⟨dI, hdI⟩ : ∃ z : Int, z = (rk : Int) - (bn : Int) - (lo : Int) := ⟨_, rfl⟩
      have s5 : (rk : Int) - (bn : Int) - (lo : Int) = dI := hdI.symm
      have s6 : (k : Int) + (i : Int) = (ak : Int) := by omega
      have s7 : IntKind.i64.wrap ((k : Int) + (i : Int)) = (ak : Int) := by rw [s6]; exact IntWalk.i64_in _ (by omega)
      have s8 : (ak : Int) < (N : Int) + 1 := by omega
      have s9 : (tk : Int) % 4294967296 = (tk : Int) := by omega
      have HS3 := Lib.hid (subFn_succ R T i k)
      rw [← hak, ← htk] at HS3
      have hkn : (k : Int) < (n : Int) := by omega
      by_cases hneg : dI < 0
      ·have s10 : dI + 4294967296 = (tk : Int) := by omega
       have HC2 : Hid (hiS + 1 = my T gn Y i (k + 1)) := Lib.hid (by rw [← hC1]; omega)
       clear hak hrk hyk htk hst hC1 hP hS hlo hhiS hdI
       go_wp2_with fail
       exact ⟨⟨k + 1, 1, hiS, by omega, by go_num, rfl, rfl, by omega, hhic, HC2, by rw [arr_set, HS3.out]⟩, by simp [intOf]; omega⟩
      ·have s10 : dI = (tk : Int) := by omega
       have HC2 : Hid (hiS + 0 = my T gn Y i (k + 1)) := Lib.hid (by rw [← hC1]; omega)
       clear hak hrk hyk htk hst hC1 hP hS hlo hhiS hdI
       go_wp2_with fail
       exact ⟨⟨k + 1, 0, hiS, by omega, by go_num, rfl, rfl, by omega, hhic, HC2, by rw [arr_set, HS3.out]⟩, by simp [intOf]; omega⟩
     ·have e : n = k := by omega
      subst e
      obtain ⟨tk, htk⟩ : ∃ z, z = dg T a0 := ⟨_, rfl⟩
      have htkc : tk < 4294967296 := by rw [htk]; exact dg_lt _ _
      have hga := arr_get .u32 (subFn R T i n) (N + 1) a0 (by omega)
      rw [show subFn R T i n a0 = u0 by rw [Ha0.out, subFn_at, Hu0.out, Ha0.out]] at hga
      have hst := kT_step R gn Y n i n HV.out (Nat.le_refl _)
      have hlast := kT_last R gn Y n i HYl.out HRl.out HV.out
      rw [← HT.out] at hst hlast
      rw [← HCk.out, ← Ha0.out, ← Hu0.out, ← htk, dg_big Y n n HYl.out (Nat.le_refl _), Nat.mul_zero, hlast] at hst
      have HF0 : Hid (upd (subFn R T i n) a0 tk = dg (T % 4294967296 ^ (i + n + 1))) := Lib.hid (by rw [htk, Ha0.out, subFn_succ, subFn_top R T n i HRl.out])
      have hgob := arr_get .u32 (outFn (A / Y) (i + 1)) m i hijm
      have him : (i : Int) < (m : Int) := by omega
      rcases (by omega : gn = Q ∨ gn = Q + 1) with hgq | hgq
      ·have hnl : ¬ R < 4294967296 ^ i * (gn * Y) := by rw [hgq]; exact Nat.not_lt.2 HRL.out
       rw [if_neg hnl] at hst
       have s5 : (u0 : Int) - (bn : Int) - (cn : Int) = (tk : Int) := by omega
       have s9 : (tk : Int) % 4294967296 = (tk : Int) := by omega
       have s10 : ¬ ((tk : Int) < 0) := by omega
       have s11 : (gn : Int) % 4294967296 = (gn : Int) := by omega
       have HF : Hid (upd (subFn R T i n) a0 tk = dg (A % (Y * 4294967296 ^ i))) := Lib.hid (by
        rw [HF0.out, HT.out, kT_fits R gn Y n i HRl.out HV.out hnl, hgq, HNX.out])
       have HO : Hid (upd (outFn (A / Y) (i + 1)) i gn = outFn (A / Y) i) := Lib.hid (by rw [hgq, HQQ.out, outFn_succ])
       clear hst hlast htk hnl hgq
       go_wp2_with fail
       exact ⟨⟨i, k2, by omega, rfl, by rw [arr_set, HO.out, arr_set, HF.out]⟩, by simp [intOf]⟩
      ·have hnl : R < 4294967296 ^ i * (gn * Y) := by rw [hgq]; exact HRG.out
       rw [if_pos hnl] at hst
       obtain ⟨dI, hdI⟩ : ∃ z : Int, z = (u0 : Int) - (bn : Int) - (cn : Int) := ⟨_, rfl⟩
       have s5 : (u0 : Int) - (bn : Int) - (cn : Int) = dI := hdI.symm
       have s10 : dI < 0 := by omega
       have s9 : dI % 4294967296 = (tk : Int) := by omega
       have s12 : IntKind.u64.wrap ((gn : Int) - 1) = (Q : Int) := by rw [IntKind.wrap_u64]; omega
       have s13 : (Q : Int) % 4294967296 = (Q : Int) := by omega
       have hTl : T < 4294967296 ^ (i + n + 1) := by rw [HT.out]; exact kT_over R gn Y n i HRl.out HV.out hnl
       have HF : Hid (upd (subFn R T i n) a0 tk = dg T) := Lib.hid (by rw [HF0.out, Nat.mod_eq_of_lt hTl])
       obtain ⟨t', ht'⟩ : ∃ z, z = T + 4294967296 ^ i * (1 * Y) := ⟨_, rfl⟩
       have HZ := Lib.hid (mulFn_zero T (1 * Y) i (N + 1))
       rw [← ht'] at HZ
       have HBA : Hid (t' % 4294967296 ^ (i + n + 1) = A % (Y * 4294967296 ^ i)) := Lib.hid (by
        have hv := HV.out
        have hr2 := HRG.out
        have ht2 := HT.out
        rw [hgq] at hv ht2
        rw [ht', ht2, back_all R Q Y n i HRl.out hv hr2 HRL.out, HNX.out])
       have HTT := Lib.hid ht'
       have HTL := Lib.hid hTl
       have HO : Hid (upd (outFn (A / Y) (i + 1)) i Q = outFn (A / Y) i) := Lib.hid (by rw [HQQ.out, outFn_succ])
       have HM1 := Lib.hid (my_zero T 1 Y i)
       have Htk := Lib.hid htk
       clear hst hlast htk hnl hgq hdI hTl ht' HF0
       go_wp2_with fail
       go_loopw [25, 231] (fun c v wr => ∃ k k3 : Nat, k ≤ n ∧ v = .int .i64 (k : Int) ∧ c = .int .u64 (my T 1 Y i k : Int) ∧ wr = ((w2.row ob 228 (arr .u32 (outFn (A / Y) (i + 1)) m)).row xb 228 (arr .u32 (mulFn T t' i k) (N + 1))).drewN k3) (fun _ v _ => n - (intOf v).toNat)
       case atStart => exact ⟨0, k2, Nat.zero_le _, rfl, by rw [HM1.out]; rfl, by rw [arr_set, HF.out, HZ.out]⟩
       case round =>
        obtain ⟨k, k3, hk, rfl, rfl, rfl⟩ := hrel
        by_cases hlt : k < n
        ·obtain ⟨ak, hak⟩ : ∃ z, z = i + k := ⟨_, rfl⟩
         obtain ⟨tk2, htk2⟩ : ∃ z, z = dg T ak := ⟨_, rfl⟩
         obtain ⟨yk, hyk⟩ : ∃ z, z = dg Y k := ⟨_, rfl⟩
         have hgk := arr_get .u32 (mulFn T t' i k) (N + 1) ak (by omega)
         rw [show mulFn T t' i k ak = tk2 by rw [hak, mulFn_at, htk2, hak]] at hgk
         have hgyk := Hgy.out k hlt
         rw [← hyk] at hgyk
         have hst := my_step T 1 Y i k
         rw [← HTT.out, ← hak, ← htk2, ← hyk, Nat.one_mul] at hst
         have hykc : yk < 4294967296 := by rw [hyk]; exact dg_lt _ _
         have htkc2 : tk2 < 4294967296 := by rw [htk2]; exact dg_lt _ _
         have hmc := my_lt T 1 Y i k (by omega)
         have hzc : dg t' ak < 4294967296 := dg_lt _ _
         obtain ⟨mk, hmk⟩ : ∃ z, z = my T 1 Y i k := ⟨_, rfl⟩
         rw [← hmk] at hst hmc ⊢
         obtain ⟨S1, hS1⟩ : ∃ z, z = tk2 + yk := ⟨_, rfl⟩
         obtain ⟨S, hS⟩ : ∃ z, z = mk + S1 := ⟨_, rfl⟩
         have z1 : IntKind.u64.wrap ((tk2 : Int) + (yk : Int)) = (S1 : Int) := by rw [IntKind.wrap_u64]; omega
         have z2 : IntKind.u64.wrap ((mk : Int) + (S1 : Int)) = (S : Int) := by rw [IntKind.wrap_u64]; omega
         have z3 : (S : Int) % 4294967296 = (dg t' ak : Int) := by omega
         have z4 : (S : Int) / 4294967296 = (my T 1 Y i (k + 1) : Int) := by omega
         have s6 : (k : Int) + (i : Int) = (ak : Int) := by omega
         have s7 : IntKind.i64.wrap ((k : Int) + (i : Int)) = (ak : Int) := by rw [s6]; exact IntWalk.i64_in _ (by omega)
         have s8 : (ak : Int) < (N : Int) + 1 := by omega
         have HS3 := Lib.hid (mulFn_succ T t' i k)
         rw [← hak] at HS3
         have hkn : (k : Int) < (n : Int) := by omega
         clear hak htk2 hyk hst hmk hS1 hS
         go_wp2_with fail
         (refine wp_region_exact (by kernel_rfl) (by kernel_rfl) ?_; repeat go_big_quiet_step (fail)); (refine wpQuiet_nil ?_; rintro _ rfl)
         go_wp2_with fail
         exact ⟨⟨k + 1, k3 + 1, by omega, by go_num, rfl, by rw [arr_set, HS3.out]⟩, by simp [intOf]; omega⟩
        ·have e : n = k := by omega
         subst e
         have hga2 := arr_get .u32 (mulFn T t' i n) (N + 1) a0 (by omega)
         rw [show mulFn T t' i n a0 = tk by rw [Ha0.out, mulFn_at, Htk.out, Ha0.out]] at hga2
         have hst := my_step T 1 Y i n
         rw [← HTT.out, ← Ha0.out, ← Htk.out, dg_big Y n n HYl.out (Nat.le_refl _)] at hst
         have hmc := my_lt T 1 Y i n (by omega)
         obtain ⟨mk, hmk⟩ : ∃ z, z = my T 1 Y i n := ⟨_, rfl⟩
         rw [← hmk] at hst hmc ⊢
         obtain ⟨zz, hzz⟩ : ∃ z, z = dg t' a0 := ⟨_, rfl⟩
         have hzzc : zz < 4294967296 := by rw [hzz]; exact dg_lt _ _
         rw [← hzz] at hst
         have z1 : (mk : Int) % 4294967296 = (mk : Int) := by omega
         have z2 : IntKind.u32.wrap ((tk : Int) + (mk : Int)) = (zz : Int) := by rw [IntKind.wrap_u32]; omega
         have HG : Hid (upd (mulFn T t' i n) a0 zz = dg (A % (Y * 4294967296 ^ i))) := Lib.hid (by rw [hzz, Ha0.out, mulFn_succ, mulFn_top T t' i n HTL.out, HBA.out])
         clear hst hmk hzz
         go_wp2_with fail
         exact ⟨⟨i, k3, by omega, rfl, by rw [arr_set, HO.out, arr_set, HG.out]⟩, by simp [intOf]⟩
theorem div_ok (x y : Nat) (sx : (mag x).size ≤ 4294967296) (sy : (mag y).size ≤ 4294967296) (hy : 0 < y) : DivOk x y := by
 by_cases hb : (fits8 x && fits8 y) = true
 ·rw [Bool.and_eq_true] at hb
  exact div_small x y hb.1 hb.2 hy
 ·have hb2 : (fits8 x && fits8 y) = false := by simpa using hb
  by_cases h : x < y
  ·exact div_less x y sx sy hb2 h
  ·have hp := nd_pos 4294967296 (by omega) y hy
   by_cases h1 : nd 4294967296 y = 1
   ·exact div_one x y sx sy hb2 h h1
   ·exact div_big x y (nd 4294967296 y - 2) _ sx sy hb2 h (by omega) rfl
theorem DivMod_c (x y : Int) (w : World) (hy : y ≠ 0) (sx : (mg x).size ≤ 4294967295) (sy : (mg y).size ≤ 4294967296) : Calls Tryz.prog 198 #[.agg #[.bool (sg x), .string (mg x)], .agg #[.bool (sg y), .string (mg y)]] w fun e w' => e = .returned (.tuple #[.agg #[.bool (sg (x / y)), .string (mg (x / y))], .agg #[.bool (sg (x % y)), .string (mg (x % y))], .int .i64 0]) ∧ Below w.heap.size w w' :=
 DivMod_of x y w hy sx sy (div_ok _ _ (by show (mag x.natAbs).size ≤ _; exact Nat.le_trans sx (by omega)) sy (by omega))
end Go.Proofs.YtlblfgbpogljoaaGreatDoor

end
section
namespace Go.Proofs.YtlblfgbpogljoaaGreatDoor
open Go Go.RowKit
open Vi
def strOf : Value → ByteArray | .string s => s | _ => ⟨#[]⟩
set_option maxRecDepth 100000 in
set_option maxHeartbeats 1600000 in
theorem Gcd_c (a b : Int) (g : Int) (hg : g = (Nat.gcd a.natAbs b.natAbs : Nat)) (w : World) (ha : (mg a).size ≤ 4294967290) (hb : (mg b).size ≤ 4294967290) : Calls Tryz.prog 163 #[.agg #[.bool (sg a), .string (mg a)], .agg #[.bool (sg b), .string (mg b)]] w fun e w' => e = .returned (.agg #[.bool (sg g), .string (mg g)]) ∧ Below w.heap.size w w' := by
 obtain ⟨G, hG⟩ : ∃ G, G = Nat.gcd a.natAbs b.natAbs := ⟨_, rfl⟩
 rw [← hG] at hg
 have ea : mg a = mag a.natAbs := rfl
 have eb : mg b = mag b.natAbs := rfl
 obtain ⟨X0, hX0⟩ : ∃ X, X = a.natAbs := ⟨_, rfl⟩
 obtain ⟨Y0, hY0⟩ : ∃ X, X = b.natAbs := ⟨_, rfl⟩
 rw [← hX0] at ea hG
 rw [← hY0] at eb hG
 rw [ea] at ha ⊢
 rw [eb] at hb ⊢
 have HG := Lib.hid hG
 have HM : Hid (∀ w, Calls Tryz.prog 167 #[.bool false, .string (mag G)] w fun e w' => e = .returned (.agg #[.bool (sg g), .string (mg g)]) ∧ Below w.heap.size w w') := Lib.hid fun w => made_c false g G (by rw [hg]; rfl) w
 clear ea eb hX0 hY0 hG hg
 obtain ⟨sa, hsa⟩ : ∃ s, s = sg a := ⟨_, rfl⟩
 obtain ⟨sb, hsb⟩ : ∃ s, s = sg b := ⟨_, rfl⟩
 rw [← hsa, ← hsb]
 clear hsa hsb
 go_enter Tryz.func163, Tryz.ntmps163
 go_wp2_with fail
 (refine wp_region_exact (by kernel_rfl) (by kernel_rfl) ?_; repeat go_big_quiet_step (fail)); (refine wpQuiet_nil ?_; rintro _ rfl)
 go_wp2_with fail
 go_loopw [5, 6] (fun x y wr => ∃ (X Y : Nat) (u' : World), Hid (Nat.gcd X Y = G) ∧ (mag X).size ≤ 4294967290 ∧ (mag Y).size ≤ 4294967290 ∧ x = .string (mag X) ∧ y = .string (mag Y) ∧ wr = (((w.alloc (.cells #[.bool sa, .string (mag X0)] 26)).alloc (.cells #[.bool sb, .string (mag Y0)] 26)).alloc (.cells #[.bool false, .string ⟨#[]⟩] 26)).plus u') (fun _ y _ => num (strOf y))
 case atStart =>
  obtain ⟨u', hu⟩ := World.plus_of_below (w := (((w.alloc (.cells #[.bool sa, .string (mag X0)] 26)).alloc (.cells #[.bool sb, .string (mag Y0)] 26)).alloc (.cells #[.bool false, .string ⟨#[]⟩] 26))) (w' := (((w.alloc (.cells #[.bool sa, .string (mag X0)] 26)).alloc (.cells #[.bool sb, .string (mag Y0)] 26)).alloc (.cells #[.bool false, .string ⟨#[]⟩] 26)).drew) ((Below.refl _ _).drew)
  exact ⟨X0, Y0, u', Lib.hid HG.out.symm, ha, hb, rfl, rfl, hu⟩
 case round =>
  obtain ⟨X, Y, u', HX, hx, hy, rfl, rfl, rfl⟩ := hrel
  by_cases h0 : Y = 0
  ·subst h0
   have e : X = G := by rw [← HX.out, Nat.gcd_zero_right]
   rw [e, mag_zero]
   go_wp2_with fail
   (go_wp2_with fail; refine (HM.out _).mono ?_; rintro e w' ⟨rfl, hb⟩; (first | (with_reducible (have hb2 := World.plus_of_below ((World.below_plus _ _).trans (hb.mono (World.size_plus _ _)))); obtain ⟨u, rfl⟩ := hb2) | (obtain ⟨u, rfl⟩ := World.plus_of_below hb)); clear hb)
   go_wp2_with fail
   refine bodyPost_ret (by simp [results, Tryz.results163, go_sem]; rfl) rfl ?_
   exact ⟨rfl, by (exact belA)⟩
  ·have hne : (mag Y).toList.isEmpty = false := mag_empty_not Y h0
   have hw := fun w => words_c X Y w (by omega) (by omega)
   by_cases hf : (fits8 X && fits8 Y) = true
   ·rw [hf] at hw
    rw [Bool.and_eq_true] at hf
    rw [wv_of X hf.1, wv_of Y hf.2] at hw
    have H := Lib.hid hw
    have lX : X < 18446744073709551616 := by have := fits8_iff X; rw [hf.1] at this; simpa using this.symm
    have lY : Y < 18446744073709551616 := by have := fits8_iff Y; rw [hf.2] at this; simpa using this.symm
    clear hw hf
    go_wp2_with fail
    (refine (H.out _).mono ?_; rintro e w' ⟨rfl, rfl⟩)
    go_wp2_with fail
    go_loopw [7, 8] (fun p q wr => ∃ (u v : Nat) (u' : World), Hid (Nat.gcd u v = G) ∧ u < 18446744073709551616 ∧ v < 18446744073709551616 ∧ p = .int .u64 (u : Int) ∧ q = .int .u64 (v : Int) ∧ wr = (((w.alloc (.cells #[.bool sa, .string (mag X0)] 26)).alloc (.cells #[.bool sb, .string (mag Y0)] 26)).alloc (.cells #[.bool false, .string ⟨#[]⟩] 26)).plus u') (fun _ q _ => (intOf q).toNat)
    case atStart => exact ⟨X, Y, u', HX, lX, lY, rfl, rfl, rfl⟩
    case round =>
     obtain ⟨u, v, u2, HU, lu, lv, rfl, rfl, rfl⟩ := hrel
     by_cases hv : v = 0
     ·subst hv
      have e : u = G := by rw [← HU.out, Nat.gcd_zero_right]
      rw [show ((0 : Nat) : Int) = 0 from rfl, e]
      rw [e] at lu
      have HMG := Lib.hid (fun w => magnitude_c G w lu)
      clear e HU
      go_wp2_with fail
      (go_wp2_with fail; refine (HMG.out _).mono ?_; rintro e w' ⟨rfl, hb⟩; (first | (with_reducible (have hb2 := World.plus_of_below ((World.below_plus _ _).trans (hb.mono (World.size_plus _ _)))); obtain ⟨u, rfl⟩ := hb2) | (obtain ⟨u, rfl⟩ := World.plus_of_below hb)); clear hb)
      go_wp2_with fail
      (go_wp2_with fail; refine (HM.out _).mono ?_; rintro e w' ⟨rfl, hb⟩; (first | (with_reducible (have hb2 := World.plus_of_below ((World.below_plus _ _).trans (hb.mono (World.size_plus _ _)))); obtain ⟨u, rfl⟩ := hb2) | (obtain ⟨u, rfl⟩ := World.plus_of_below hb)); clear hb)
      go_wp2_with fail
      refine bodyPost_ret (by simp [results, Tryz.results163, go_sem]; rfl) rfl ?_
      exact ⟨rfl, by (exact belA)⟩
     ·obtain ⟨r, hr⟩ : ∃ z, z = u % v := ⟨_, rfl⟩
      have HN : Hid (Nat.gcd v r = G) := Lib.hid (by rw [hr, ← HU.out, Nat.gcd_comm u v, Nat.gcd_rec v u, Nat.gcd_comm])
      have hrl : r < v := by rw [hr]; exact Nat.mod_lt _ (by omega)
      have HRL := Lib.hid hrl
      have e1 : (u : Int).tmod (v : Int) = (r : Int) := by rw [hr]; exact Int.ofNat_tmod u v
      have e2 : ((v : Int) == 0) = false := by rw [beq_eq_false_iff_ne]; omega
      have e3 : IntKind.u64.wrap (r : Int) = (r : Int) := u64_of_nat r (by omega)
      have lr : r < 18446744073709551616 := by omega
      clear hr hrl
      go_wp2_with fail
      ((first | (with_reducible refine wp_region_steady_plus (by kernel_rfl) (by kernel_rfl) ?_) | refine wp_region_steady (by kernel_rfl) (by kernel_rfl) ?_); repeat go_big_quiet_step (fail)); (refine wpQuiet_nil ?_; rintro _ ⟨u, rfl⟩)
      clear e1
      go_wp2_with fail
      exact ⟨⟨v, r, _, HN, lv, lr, rfl, rfl, rfl⟩, by have := HRL.out; simp [intOf]; omega⟩
   ·have hf2 : (fits8 X && fits8 Y) = false := by simpa using hf
    rw [hf2] at hw
    have H := Lib.hid hw
    have hd := div_ok X Y (by omega) (by omega) (by omega)
    obtain ⟨q, hq⟩ : ∃ z, z = X / Y := ⟨_, rfl⟩
    obtain ⟨r, hr⟩ : ∃ z, z = X % Y := ⟨_, rfl⟩
    have HD : Hid (∀ w, Calls Tryz.prog 189 #[.string (mag X), .string (mag Y)] w fun e w' => e = .returned (.tuple #[.string (mag q), .string (mag r)]) ∧ Below w.heap.size w w') := Lib.hid fun w => by rw [hq, hr]; exact hd w
    have HN : Hid (Nat.gcd Y r = G) := Lib.hid (by rw [hr, ← HX.out, Nat.gcd_comm X Y, Nat.gcd_rec Y X, Nat.gcd_comm])
    have hrl : r < Y := by rw [hr]; exact Nat.mod_lt _ (by omega)
    have hrs : (mag r).size ≤ 4294967290 := Nat.le_trans (size_mag_mono r Y (by omega)) hy
    have HRL := Lib.hid hrl
    clear hw hf hf2 hd hq hr hrl
    go_wp2_with fail
    (refine (H.out _).mono ?_; rintro e w' ⟨rfl, rfl⟩)
    go_wp2_with fail
    (go_wp2_with fail; refine (HD.out _).mono ?_; rintro e w' ⟨rfl, hb⟩; (first | (with_reducible (have hb2 := World.plus_of_below ((World.below_plus _ _).trans (hb.mono (World.size_plus _ _)))); obtain ⟨u, rfl⟩ := hb2) | (obtain ⟨u, rfl⟩ := World.plus_of_below hb)); clear hb)
    go_wp2_with fail
    exact ⟨⟨Y, r, u, HN, hy, hrs, rfl, rfl, rfl⟩, by show num (mag r) < num (mag Y); rw [num_mag, num_mag]; exact HRL.out⟩
end Go.Proofs.YtlblfgbpogljoaaGreatDoor

end
section
namespace Go.Proofs.YtlblfgbpogljoaaGreatDoor
open Go Go.RowKit
open Vi
theorem v1 : (Value.agg #[.bool (sg (-7 % 2)), .string (mg (-7 % 2))]) = .agg #[.bool false, .string ⟨#[1]⟩] := by
 rw [show sg (-7 % 2) = false by decide, show mg (-7 % 2) = ⟨#[1]⟩ by decide]
end Go.Proofs.YtlblfgbpogljoaaGreatDoor

end
