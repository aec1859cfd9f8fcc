/- Part 4 of the proof; what it holds is said text by text. -/
import Derived.Test.YtlblfgbpogljoaaGreatDoorProg
import Derived.Test.YtlblfgbpogljoaaGreatDoorWbC
set_option linter.unusedSimpArgs false
set_option linter.unusedVariables false
section
/- The package integer: add returns the sum of two magnitudes. -/
namespace Go.Proofs.YtlblfgbpogljoaaGreatDoor
open Go Go.RowKit
open Vi
theorem add64_run (x y : Nat) (w : World) : (callFunc 205 #[.int .u64 (x : Int), .int .u64 (y : Int), .int .u64 0]).run Tryz.prog w =
      .ok (.value (.tuple #[.int .u64 (((x + y) % 18446744073709551616 : Nat) : Int), .int .u64 (((x + y) / 18446744073709551616 : Nat) : Int)])) w := by
 rw [run_callFunc_extern Tryz.func205 (by kernel_rfl) (by kernel_rfl) (by kernel_rfl) (e := add64Entry) (by kernel_rfl), run_add64 x y 0 (by omega) (by omega) (by omega) (by omega)]
 simp only [Result.andThen]
 congr 5 <;> omega
set_option maxHeartbeats 400000 in
theorem add_small (x y : Nat) (w : World) (h8 : fits8 x = true) (h9 : fits8 y = true) (h : x + y < 2 ^ 64) : Calls Tryz.prog 182 #[.string (mag x), .string (mag y)] w fun e w' => e = .returned (.string (mag (x + y))) ∧ Below w.heap.size w w' := by
 have hw := words_c x y w (by unfold fits8 at h8; simp at h8; omega) (by unfold fits8 at h9; simp at h9; omega)
 rw [h8, h9, wv_of x h8, wv_of y h9] at hw
 have H := Lib.hid hw
 have ha := add64_run x y
 rw [show (x + y) % 18446744073709551616 = x + y by omega, show (x + y) / 18446744073709551616 = 0 by omega] at ha
 have e : ((x + y : Nat) : Int) = (x : Int) + (y : Int) := by omega
 clear hw h8 h9
 go_enter Tryz.func182, Tryz.ntmps182
 go_wp2_with fail
 (refine (H.out).mono ?_; rintro e w' ⟨rfl, rfl⟩)
 have hm := fun w => magnitude_c (x + y) w h
 rw [Int.natCast_add] at hm
 (go_wp2_with fail; refine (hm _).mono ?_; rintro e w' ⟨rfl, hb⟩; (first | (with_reducible (have hb2 := World.plus_of_below ((World.below_plus _ _).trans (hb.mono (World.size_plus _ _)))); obtain ⟨u, rfl⟩ := hb2) | (obtain ⟨u, rfl⟩ := World.plus_of_below hb)); clear hb)
 go_wp2_with fail
 go_ret
 exact ⟨rfl, by (exact belA)⟩
def cy (x y i : Nat) : Nat := (x % 4294967296 ^ i + y % 4294967296 ^ i) / 4294967296 ^ i
theorem cy_zero (x y : Nat) : cy x y 0 = 0 := by unfold cy; simp [Nat.mod_one]
theorem cy_le (x y i : Nat) : cy x y i ≤ 1 := by
 unfold cy
 have h := Nat.pow_pos (n := i) (show 0 < 4294967296 by omega)
 have h1 := Nat.mod_lt x h
 have h2 := Nat.mod_lt y h
 have : (x % 4294967296 ^ i + y % 4294967296 ^ i) / 4294967296 ^ i < 2 := by
  rw [Nat.div_lt_iff_lt_mul h]; omega
 omega
theorem sum_eq (x y i : Nat) : cy x y i + dg x i + dg y i = dg (x + y) i + 4294967296 * cy x y (i + 1) := by
 have hp := Nat.pow_pos (n := i) (show 0 < 4294967296 by omega)
 have hp1 := Nat.pow_pos (n := i + 1) (show 0 < 4294967296 by omega)
 have e1 : (x % 4294967296 ^ (i + 1) + y % 4294967296 ^ (i + 1)) / 4294967296 ^ i = cy x y i + dg x i + dg y i := by
  rw [mod_succ, mod_succ]
  unfold cy
  rw [show x % 4294967296 ^ i + 4294967296 ^ i * dg x i + (y % 4294967296 ^ i + 4294967296 ^ i * dg y i) = (x % 4294967296 ^ i + y % 4294967296 ^ i) + 4294967296 ^ i * (dg x i + dg y i) by rw [Nat.mul_add]; omega]
  rw [Nat.add_mul_div_left _ _ hp]; omega
 have e2 : (x % 4294967296 ^ (i + 1) + y % 4294967296 ^ (i + 1)) / 4294967296 ^ i % 4294967296 = dg (x + y) i := by
  unfold dg
  rw [← Nat.mod_mul_right_div_self, ← Nat.mod_mul_right_div_self, ← Nat.pow_succ, ← Nat.add_mod]
 have e3 : (x % 4294967296 ^ (i + 1) + y % 4294967296 ^ (i + 1)) / 4294967296 ^ i / 4294967296 = cy x y (i + 1) := by
  unfold cy
  rw [Nat.div_div_eq_div_mul, ← Nat.pow_succ]
 rw [← e1, ← e2, ← e3, Nat.mod_add_div]
theorem sum_dg (x y i : Nat) : (cy x y i + dg x i + dg y i) % 4294967296 = dg (x + y) i := by
 rw [sum_eq, Nat.add_mul_mod_self_left, Nat.mod_eq_of_lt (dg_lt _ _)]
theorem sum_cy (x y i : Nat) : (cy x y i + dg x i + dg y i) / 4294967296 = cy x y (i + 1) := by
 rw [sum_eq, Nat.add_mul_div_left _ _ (by omega), Nat.div_eq_of_lt (dg_lt _ _), Nat.zero_add]
def sumFn (x y i : Nat) : Nat → Nat := fun k => if k < i then dg (x + y) k else dg x k
theorem sumFn_zero (x y n : Nat) : arr .u32 (sumFn x y 0) n = arr .u32 (dg x) n := by
 apply arr_congr; intro k _; unfold sumFn; rw [if_neg (by omega)]
theorem sumFn_at (x y i : Nat) : sumFn x y i i = dg x i := by unfold sumFn; rw [if_neg (by omega)]
theorem sumFn_succ (x y i : Nat) : upd (sumFn x y i) i (dg (x + y) i) = sumFn x y (i + 1) := by
 funext k
 unfold upd sumFn
 by_cases h : k = i
 ·subst h; rw [if_pos rfl, if_pos (by omega)]
 ·rw [if_neg h]
  by_cases h2 : k < i
  ·rw [if_pos h2, if_pos (by omega)]
  ·rw [if_neg h2, if_neg (by omega)]
theorem sumFn_all (x y n : Nat) : arr .u32 (sumFn x y n) n = arr .u32 (dg (x + y)) n := by
 apply arr_congr; intro k hk; unfold sumFn; rw [if_pos hk]
theorem make32s (n : Nat) (w : World) (h : n ≤ 8589934591) : (Instr.makeSlice 226 (.int .i64 ((n : Int) + 1)) (.int .i64 ((n : Int) + 1))).run Tryz.prog w = .ok (.slice (some ⟨w.heap.size, 0, none⟩) (n + 1) (n + 1)) (w.alloc (.cells (arr .u32 (fun _ => 0) (n + 1)) 228)) :=
 make32 (n + 1) w (by omega)
theorem sum_bound (x y n : Nat) (hx : x < 4294967296 ^ n) (hy : y < 4294967296 ^ n) : x + y < 4294967296 ^ (n + 1) := by
 rw [Nat.pow_succ]; omega
theorem copy_fresh (W : World) (g gx n m c c' k : Nat) (ty : TypeId) (f : Nat → Nat) (hg : g = W.heap.size) (hnm : n ≤ m) (hgx : gx < W.heap.size) (hx : Row32 W gx n f) (hz : ∀ i, n ≤ i → f i = 0) :
    (Builtin.copy_ #[226, 226] ty #[.slice (some ⟨g, 0, none⟩) m c, .slice (some ⟨gx, 0, none⟩) n c']).run Tryz.prog ((W.alloc (.cells (arr .u32 (fun _ => 0) m) 228)).drewN k) = .ok (.int .i64 (n : Int)) ((W.alloc (.cells (arr .u32 f m) 228)).drewN k) := by
 subst hg
 have hinfo : (Tryz.prog.info? 228).map (·.size) = some 1 := by kernel_rfl
 have hnew : ((W.alloc (.cells (arr .u32 (fun _ => 0) m) 228)).drewN k).heap[W.heap.size]? = some (.cells (arr .u32 (fun _ => 0) m) 228 (0, 0)) := heap_alloc_new W _
 have hl : (arr .u32 f n).toList.length = n := by simp [arr_size]
 have := run_copy_row (P := Tryz.prog) ((W.alloc (.cells (arr .u32 (fun _ => 0) m) 228)).drewN k) 226 226 ty 228 W.heap.size 0 m c ⟨gx, 0, none⟩ n c' (arr .u32 (fun _ => 0) m) 228 (arr .u32 f n).toList (by kernel_rfl) hinfo hnew
  (by rw [hl]; exact (Nat.min_eq_left hnm).symm) (fun j v hj => by
   have hjn : j < n := by
    rcases Nat.lt_or_ge j n with h | h
    ·exact h
    ·rw [Array.getElem?_toList, arr_none _ _ _ _ h] at hj; cases hj
   rw [Array.getElem?_toList, arr_get _ _ _ _ hjn] at hj
   have e : (⟨gx, 0, none⟩ : Addr).add j = ⟨gx, j, none⟩ := by unfold Addr.add; split <;> simp_all
   rw [e, World.cell?_drewN, World.cell?_alloc_past _ _ _ hgx, hx j hjn]; exact hj) (by rw [hl, arr_size]; omega) (arr_oneCell _ _ _)
 rw [this, hl]
 have e2 : ((arr IntKind.u32 (fun _ => 0) m).toList.take 0 ++ (arr IntKind.u32 f n).toList ++ (arr IntKind.u32 (fun _ => 0) m).toList.drop (0 + n)).toArray = arr .u32 f m := by
  apply Array.toList_inj.1
  rw [arr_toList, arr_toList, arr_toList]
  apply List.ext_getElem?
  intro i
  simp only [List.take_zero, List.nil_append, Nat.zero_add]
  by_cases hi : i < n
  ·rw [List.getElem?_append_left (by simpa using hi)]; simp [hi, show i < m by omega]
  ·rw [List.getElem?_append_right (by simpa using hi)]
   simp only [List.length_map, List.length_range, List.getElem?_drop, List.getElem?_map]
   rw [show n + (i - n) = i by omega]
   by_cases him : i < m
   ·simp [him, hz i (by omega)]
   ·simp [him]
 rw [e2, World.row_setRow _ _ _ _ _ hnew, World.row_drewN, World.row_alloc]; rfl
set_option maxRecDepth 100000 in
set_option maxHeartbeats 800000 in
theorem add_big (x y nx ny : Nat) (w : World) (hx : (mag x).size ≤ 4294967296) (hy : (mag y).size ≤ 4294967296) (hnx : nd 4294967296 x = nx) (hny : nd 4294967296 y = ny) (hbig : (fits8 x && fits8 y) = false) (hle : ny ≤ nx) :
    Calls Tryz.prog 182 #[.string (mag x), .string (mag y)] w fun e w' => e = .returned (.string (mag (x + y))) ∧ Below w.heap.size w w' := by
 have hw := fun w => words_c x y w hx hy
 rw [hbig] at hw
 clear hbig
 have H := Lib.hid hw
 have hdx := fun w => digits_c x w hx
 have hdy := fun w => digits_c y w hy
 rw [hnx] at hdx
 rw [hny] at hdy
 have HX := Lib.hid hdx
 have HY := Lib.hid hdy
 have hxl : x < 4294967296 ^ nx := by rw [← hnx]; exact lt_pow_nd _ (by omega) x
 have hyl : y < 4294967296 ^ ny := by rw [← hny]; exact lt_pow_nd _ (by omega) y
 have hnx2 : nx ≤ 1073741825 := by rw [← hnx, ← up4_nd]; unfold up4; omega
 have hny2 : ny ≤ 1073741825 := by rw [← hny, ← up4_nd]; unfold up4; omega
 have HXL := Lib.hid hxl
 have HYL := Lib.hid hyl
 have HT := Lib.hid (sum_bound x y nx (by exact hxl) (by exact Nat.lt_of_lt_of_le hyl (Nat.pow_le_pow_right (by omega) (by omega))))
 have HMK := Lib.hid (make32s nx · (by omega))
 clear hw hdx hdy hnx hny hxl hyl
 go_enter Tryz.func182, Tryz.ntmps182
 go_wp2_with fail
 (refine (H.out _).mono ?_; rintro e w' ⟨rfl, rfl⟩)
 go_wp2_with fail
 refine (HX.out _).mono ?_
 rintro e w' ⟨rfl, k1, rfl⟩
 go_wp2_with fail
 refine (HY.out _).mono ?_
 rintro e w' ⟨rfl, k2, rfl⟩
 go_wp2_with fail
 have hmk := HMK.out
 have hcp := fun ty k => copy_fresh ((w.alloc (.cells (arr .u32 (dg x) nx) 228)).alloc (.cells (arr .u32 (dg y) ny) 228)) (w.heap.size + 1 + 1) (w.heap.size) nx (nx + 1) (nx + 1) nx k ty (dg x) (by simp) (by omega) (by simp; try omega) (fun i hi => by simp [go_sem, arr_get _ _ _ _ hi]) (fun i hi => dg_big x nx i HXL.out hi)
 simp only [hmk]
 go_wp2_with fail
 clear hcp hmk
 have H0 := Lib.hid (sumFn_zero x y (nx + 1))
 have HC0 := Lib.hid (cy_zero x y)
 go_loopw [13, 53] (fun c v wr => ∃ i : Nat, i ≤ nx + 1 ∧ v = .int .i64 i ∧ c = .int .u64 (cy x y i : Int) ∧ wr = (((w.alloc (.cells (arr .u32 (dg x) nx) 228)).alloc (.cells (arr .u32 (dg y) ny) 228)).alloc (.cells (arr .u32 (sumFn x y i) (nx + 1)) 228)).drewN (k1 + k2)) (fun _ v _ => nx + 1 - (intOf v).toNat)
 case atStart => exact ⟨0, Nat.zero_le _, rfl, by rw [HC0.out]; rfl, by rw [H0.out]⟩
 case round =>
  obtain ⟨i, hi, rfl, rfl, rfl⟩ := hrel
  have hcy := cy_le x y i
  have hdx1 := dg_lt x i
  have hdy1 := dg_lt y i
  by_cases hlt : i < nx + 1
  ·have hg := arr_get .u32 (sumFn x y i) (nx + 1) i hlt
   rw [sumFn_at] at hg
   have HS3 := Lib.hid (sumFn_succ x y i)
   by_cases hly : i < ny
   ·have hgy := arr_get .u32 (dg y) ny i hly
    have HS1 := Lib.hid (show ((cy x y i : Int) + dg x i + dg y i) % 4294967296 = (dg (x + y) i : Int) by have := sum_dg x y i; omega)
    have HS2 := Lib.hid (show ((cy x y i : Int) + dg x i + dg y i) / 4294967296 = (cy x y (i + 1) : Int) by have := sum_cy x y i; omega)
    go_wp2_with fail
    refine ⟨⟨i + 1, by omega, by go_num, by rw [HS2.out], ?_⟩, by simp [intOf]; omega⟩
    rw [HS1.out, arr_set, HS3.out]
   ·have hy0 := dg_big y ny i HYL.out (by omega)
    have HS1 := Lib.hid (show ((cy x y i : Int) + dg x i) % 4294967296 = (dg (x + y) i : Int) by have := sum_dg x y i; omega)
    have HS2 := Lib.hid (show ((cy x y i : Int) + dg x i) / 4294967296 = (cy x y (i + 1) : Int) by have := sum_cy x y i; omega)
    clear hy0
    go_wp2_with fail
    refine ⟨⟨i + 1, by omega, by go_num, by rw [HS2.out], ?_⟩, by simp [intOf]; omega⟩
    rw [HS1.out, arr_set, HS3.out]
  ·have e : i = nx + 1 := by omega
   subst e
   have HA := Lib.hid (sumFn_all x y (nx + 1))
   go_wp2_with fail
   rw [HA.out]
   refine (bytes_c (x + y) (nx + 1) (nx + 1) (w.heap.size + 1 + 1) _ HT.out (by omega) (Nat.le_refl _) (fun i hi => by simp [go_sem, arr_get _ _ _ _ hi]) (by simp [go_sem])).mono ?_
   rintro e w' ⟨rfl, hb⟩
   obtain ⟨u, rfl⟩ := World.plus_of_below hb
   clear hb
   go_wp2_with fail
   go_ret
   exact ⟨rfl, by (exact belA)⟩
set_option maxRecDepth 100000 in
set_option maxHeartbeats 800000 in
theorem add_big_swap (x y nx ny : Nat) (w : World) (hx : (mag x).size ≤ 4294967296) (hy : (mag y).size ≤ 4294967296) (hnx : nd 4294967296 x = nx) (hny : nd 4294967296 y = ny) (hbig : (fits8 x && fits8 y) = false) (hle : nx < ny) :
    Calls Tryz.prog 182 #[.string (mag x), .string (mag y)] w fun e w' => e = .returned (.string (mag (x + y))) ∧ Below w.heap.size w w' := by
 have hw := fun w => words_c x y w hx hy
 rw [hbig] at hw
 clear hbig
 have H := Lib.hid hw
 have hdx := fun w => digits_c x w hx
 have hdy := fun w => digits_c y w hy
 rw [hnx] at hdx
 rw [hny] at hdy
 have HX := Lib.hid hdx
 have HY := Lib.hid hdy
 have hxl : x < 4294967296 ^ nx := by rw [← hnx]; exact lt_pow_nd _ (by omega) x
 have hyl : y < 4294967296 ^ ny := by rw [← hny]; exact lt_pow_nd _ (by omega) y
 have hnx2 : nx ≤ 1073741825 := by rw [← hnx, ← up4_nd]; unfold up4; omega
 have hny2 : ny ≤ 1073741825 := by rw [← hny, ← up4_nd]; unfold up4; omega
 have HXL := Lib.hid hxl
 have HYL := Lib.hid hyl
 have HT := Lib.hid (sum_bound y x ny (by exact hyl) (by exact Nat.lt_of_lt_of_le hxl (Nat.pow_le_pow_right (by omega) (by omega))))
 have HMK := Lib.hid (make32s ny · (by omega))
 clear hw hdx hdy hnx hny hxl hyl
 go_enter Tryz.func182, Tryz.ntmps182
 go_wp2_with fail
 (refine (H.out _).mono ?_; rintro e w' ⟨rfl, rfl⟩)
 go_wp2_with fail
 refine (HX.out _).mono ?_
 rintro e w' ⟨rfl, k1, rfl⟩
 go_wp2_with fail
 refine (HY.out _).mono ?_
 rintro e w' ⟨rfl, k2, rfl⟩
 go_wp2_with fail
 have hmk := HMK.out
 have hcp := fun ty k => copy_fresh ((w.alloc (.cells (arr .u32 (dg x) nx) 228)).alloc (.cells (arr .u32 (dg y) ny) 228)) (w.heap.size + 1 + 1) (w.heap.size + 1) ny (ny + 1) (ny + 1) ny k ty (dg y) (by simp) (by omega) (by simp; try omega) (fun i hi => by simp [go_sem, arr_get _ _ _ _ hi]) (fun i hi => dg_big y ny i HYL.out hi)
 simp only [hmk]
 go_wp2_with fail
 clear hcp hmk
 have H0 := Lib.hid (sumFn_zero y x (ny + 1))
 have HC0 := Lib.hid (cy_zero y x)
 go_loopw [13, 53] (fun c v wr => ∃ i : Nat, i ≤ ny + 1 ∧ v = .int .i64 i ∧ c = .int .u64 (cy y x i : Int) ∧ wr = (((w.alloc (.cells (arr .u32 (dg x) nx) 228)).alloc (.cells (arr .u32 (dg y) ny) 228)).alloc (.cells (arr .u32 (sumFn y x i) (ny + 1)) 228)).drewN (k1 + k2)) (fun _ v _ => ny + 1 - (intOf v).toNat)
 case atStart => exact ⟨0, Nat.zero_le _, rfl, by rw [HC0.out]; rfl, by rw [H0.out]⟩
 case round =>
  obtain ⟨i, hi, rfl, rfl, rfl⟩ := hrel
  have hcy := cy_le y x i
  have hdx1 := dg_lt y i
  have hdy1 := dg_lt x i
  by_cases hlt : i < ny + 1
  ·have hg := arr_get .u32 (sumFn y x i) (ny + 1) i hlt
   rw [sumFn_at] at hg
   have HS3 := Lib.hid (sumFn_succ y x i)
   by_cases hly : i < nx
   ·have hgy := arr_get .u32 (dg x) nx i hly
    have HS1 := Lib.hid (show ((cy y x i : Int) + dg y i + dg x i) % 4294967296 = (dg (y + x) i : Int) by have := sum_dg y x i; omega)
    have HS2 := Lib.hid (show ((cy y x i : Int) + dg y i + dg x i) / 4294967296 = (cy y x (i + 1) : Int) by have := sum_cy y x i; omega)
    go_wp2_with fail
    refine ⟨⟨i + 1, by omega, by go_num, by rw [HS2.out], ?_⟩, by simp [intOf]; omega⟩
    rw [HS1.out, arr_set, HS3.out]
   ·have hy0 := dg_big x nx i HXL.out (by omega)
    have HS1 := Lib.hid (show ((cy y x i : Int) + dg y i) % 4294967296 = (dg (y + x) i : Int) by have := sum_dg y x i; omega)
    have HS2 := Lib.hid (show ((cy y x i : Int) + dg y i) / 4294967296 = (cy y x (i + 1) : Int) by have := sum_cy y x i; omega)
    clear hy0
    go_wp2_with fail
    refine ⟨⟨i + 1, by omega, by go_num, by rw [HS2.out], ?_⟩, by simp [intOf]; omega⟩
    rw [HS1.out, arr_set, HS3.out]
  ·have e : i = ny + 1 := by omega
   subst e
   have HA := Lib.hid (sumFn_all y x (ny + 1))
   go_wp2_with fail
   rw [HA.out]
   refine (bytes_c (y + x) (ny + 1) (ny + 1) (w.heap.size + 1 + 1) _ HT.out (by omega) (Nat.le_refl _) (fun i hi => by simp [go_sem, arr_get _ _ _ _ hi]) (by simp [go_sem])).mono ?_
   rintro e w' ⟨rfl, hb⟩
   obtain ⟨u, rfl⟩ := World.plus_of_below hb
   clear hb
   go_wp2_with fail
   go_ret
   exact ⟨by rw [Nat.add_comm x y]; rfl, by (exact belA)⟩
set_option maxRecDepth 100000 in
set_option maxHeartbeats 800000 in
theorem add_over (x y nx ny : Nat) (w : World) (hx : (mag x).size ≤ 4294967296) (hy : (mag y).size ≤ 4294967296) (hnx : nd 4294967296 x = nx) (hny : nd 4294967296 y = ny) (h8 : fits8 x = true) (h9 : fits8 y = true) (hov : ¬ x + y < 2 ^ 64) (hle : ny ≤ nx) :
    Calls Tryz.prog 182 #[.string (mag x), .string (mag y)] w fun e w' => e = .returned (.string (mag (x + y))) ∧ Below w.heap.size w w' := by
 have hw := fun w => words_c x y w hx hy
 have hx64 := wv_lt x
 have hy64 := wv_lt y
 rw [h8, h9, wv_of x h8, wv_of y h9] at hw
 rw [wv_of x h8] at hx64
 rw [wv_of y h9] at hy64
 have ha := add64_run x y
 obtain ⟨z, hz⟩ : ∃ z, z = (x + y) % 18446744073709551616 := ⟨_, rfl⟩
 rw [show (x + y) / 18446744073709551616 = 1 by omega, ← hz] at ha
 clear hov hx64 hy64 hz h8 h9
 have H := Lib.hid hw
 have hdx := fun w => digits_c x w hx
 have hdy := fun w => digits_c y w hy
 rw [hnx] at hdx
 rw [hny] at hdy
 have HX := Lib.hid hdx
 have HY := Lib.hid hdy
 have hxl : x < 4294967296 ^ nx := by rw [← hnx]; exact lt_pow_nd _ (by omega) x
 have hyl : y < 4294967296 ^ ny := by rw [← hny]; exact lt_pow_nd _ (by omega) y
 have hnx2 : nx ≤ 1073741825 := by rw [← hnx, ← up4_nd]; unfold up4; omega
 have hny2 : ny ≤ 1073741825 := by rw [← hny, ← up4_nd]; unfold up4; omega
 have HXL := Lib.hid hxl
 have HYL := Lib.hid hyl
 have HT := Lib.hid (sum_bound x y nx (by exact hxl) (by exact Nat.lt_of_lt_of_le hyl (Nat.pow_le_pow_right (by omega) (by omega))))
 have HMK := Lib.hid (make32s nx · (by omega))
 clear hw hdx hdy hnx hny hxl hyl
 go_enter Tryz.func182, Tryz.ntmps182
 go_wp2_with fail
 (refine (H.out _).mono ?_; rintro e w' ⟨rfl, rfl⟩)
 go_wp2_with fail
 refine (HX.out _).mono ?_
 rintro e w' ⟨rfl, k1, rfl⟩
 go_wp2_with fail
 refine (HY.out _).mono ?_
 rintro e w' ⟨rfl, k2, rfl⟩
 go_wp2_with fail
 have hmk := HMK.out
 have hcp := fun ty k => copy_fresh ((w.alloc (.cells (arr .u32 (dg x) nx) 228)).alloc (.cells (arr .u32 (dg y) ny) 228)) (w.heap.size + 1 + 1) (w.heap.size) nx (nx + 1) (nx + 1) nx k ty (dg x) (by simp) (by omega) (by simp; try omega) (fun i hi => by simp [go_sem, arr_get _ _ _ _ hi]) (fun i hi => dg_big x nx i HXL.out hi)
 simp only [hmk]
 go_wp2_with fail
 clear hcp hmk
 have H0 := Lib.hid (sumFn_zero x y (nx + 1))
 have HC0 := Lib.hid (cy_zero x y)
 go_loopw [13, 53] (fun c v wr => ∃ i : Nat, i ≤ nx + 1 ∧ v = .int .i64 i ∧ c = .int .u64 (cy x y i : Int) ∧ wr = (((w.alloc (.cells (arr .u32 (dg x) nx) 228)).alloc (.cells (arr .u32 (dg y) ny) 228)).alloc (.cells (arr .u32 (sumFn x y i) (nx + 1)) 228)).drewN (k1 + k2)) (fun _ v _ => nx + 1 - (intOf v).toNat)
 case atStart => exact ⟨0, Nat.zero_le _, rfl, by rw [HC0.out]; rfl, by rw [H0.out]⟩
 case round =>
  obtain ⟨i, hi, rfl, rfl, rfl⟩ := hrel
  have hcy := cy_le x y i
  have hdx1 := dg_lt x i
  have hdy1 := dg_lt y i
  by_cases hlt : i < nx + 1
  ·have hg := arr_get .u32 (sumFn x y i) (nx + 1) i hlt
   rw [sumFn_at] at hg
   have HS3 := Lib.hid (sumFn_succ x y i)
   by_cases hly : i < ny
   ·have hgy := arr_get .u32 (dg y) ny i hly
    have HS1 := Lib.hid (show ((cy x y i : Int) + dg x i + dg y i) % 4294967296 = (dg (x + y) i : Int) by have := sum_dg x y i; omega)
    have HS2 := Lib.hid (show ((cy x y i : Int) + dg x i + dg y i) / 4294967296 = (cy x y (i + 1) : Int) by have := sum_cy x y i; omega)
    go_wp2_with fail
    refine ⟨⟨i + 1, by omega, by go_num, by rw [HS2.out], ?_⟩, by simp [intOf]; omega⟩
    rw [HS1.out, arr_set, HS3.out]
   ·have hy0 := dg_big y ny i HYL.out (by omega)
    have HS1 := Lib.hid (show ((cy x y i : Int) + dg x i) % 4294967296 = (dg (x + y) i : Int) by have := sum_dg x y i; omega)
    have HS2 := Lib.hid (show ((cy x y i : Int) + dg x i) / 4294967296 = (cy x y (i + 1) : Int) by have := sum_cy x y i; omega)
    clear hy0
    go_wp2_with fail
    refine ⟨⟨i + 1, by omega, by go_num, by rw [HS2.out], ?_⟩, by simp [intOf]; omega⟩
    rw [HS1.out, arr_set, HS3.out]
  ·have e : i = nx + 1 := by omega
   subst e
   have HA := Lib.hid (sumFn_all x y (nx + 1))
   go_wp2_with fail
   rw [HA.out]
   refine (bytes_c (x + y) (nx + 1) (nx + 1) (w.heap.size + 1 + 1) _ HT.out (by omega) (Nat.le_refl _) (fun i hi => by simp [go_sem, arr_get _ _ _ _ hi]) (by simp [go_sem])).mono ?_
   rintro e w' ⟨rfl, hb⟩
   obtain ⟨u, rfl⟩ := World.plus_of_below hb
   clear hb
   go_wp2_with fail
   go_ret
   exact ⟨rfl, by (exact belA)⟩
set_option maxRecDepth 100000 in
set_option maxHeartbeats 800000 in
theorem add_over_swap (x y nx ny : Nat) (w : World) (hx : (mag x).size ≤ 4294967296) (hy : (mag y).size ≤ 4294967296) (hnx : nd 4294967296 x = nx) (hny : nd 4294967296 y = ny) (h8 : fits8 x = true) (h9 : fits8 y = true) (hov : ¬ x + y < 2 ^ 64) (hle : nx < ny) :
    Calls Tryz.prog 182 #[.string (mag x), .string (mag y)] w fun e w' => e = .returned (.string (mag (x + y))) ∧ Below w.heap.size w w' := by
 have hw := fun w => words_c x y w hx hy
 have hx64 := wv_lt x
 have hy64 := wv_lt y
 rw [h8, h9, wv_of x h8, wv_of y h9] at hw
 rw [wv_of x h8] at hx64
 rw [wv_of y h9] at hy64
 have ha := add64_run x y
 obtain ⟨z, hz⟩ : ∃ z, z = (x + y) % 18446744073709551616 := ⟨_, rfl⟩
 rw [show (x + y) / 18446744073709551616 = 1 by omega, ← hz] at ha
 clear hov hx64 hy64 hz h8 h9
 have H := Lib.hid hw
 have hdx := fun w => digits_c x w hx
 have hdy := fun w => digits_c y w hy
 rw [hnx] at hdx
 rw [hny] at hdy
 have HX := Lib.hid hdx
 have HY := Lib.hid hdy
 have hxl : x < 4294967296 ^ nx := by rw [← hnx]; exact lt_pow_nd _ (by omega) x
 have hyl : y < 4294967296 ^ ny := by rw [← hny]; exact lt_pow_nd _ (by omega) y
 have hnx2 : nx ≤ 1073741825 := by rw [← hnx, ← up4_nd]; unfold up4; omega
 have hny2 : ny ≤ 1073741825 := by rw [← hny, ← up4_nd]; unfold up4; omega
 have HXL := Lib.hid hxl
 have HYL := Lib.hid hyl
 have HT := Lib.hid (sum_bound y x ny (by exact hyl) (by exact Nat.lt_of_lt_of_le hxl (Nat.pow_le_pow_right (by omega) (by omega))))
 have HMK := Lib.hid (make32s ny · (by omega))
 clear hw hdx hdy hnx hny hxl hyl
 go_enter Tryz.func182, Tryz.ntmps182
 go_wp2_with fail
 (refine (H.out _).mono ?_; rintro e w' ⟨rfl, rfl⟩)
 go_wp2_with fail
 refine (HX.out _).mono ?_
 rintro e w' ⟨rfl, k1, rfl⟩
 go_wp2_with fail
 refine (HY.out _).mono ?_
 rintro e w' ⟨rfl, k2, rfl⟩
 go_wp2_with fail
 have hmk := HMK.out
 have hcp := fun ty k => copy_fresh ((w.alloc (.cells (arr .u32 (dg x) nx) 228)).alloc (.cells (arr .u32 (dg y) ny) 228)) (w.heap.size + 1 + 1) (w.heap.size + 1) ny (ny + 1) (ny + 1) ny k ty (dg y) (by simp) (by omega) (by simp; try omega) (fun i hi => by simp [go_sem, arr_get _ _ _ _ hi]) (fun i hi => dg_big y ny i HYL.out hi)
 simp only [hmk]
 go_wp2_with fail
 clear hcp hmk
 have H0 := Lib.hid (sumFn_zero y x (ny + 1))
 have HC0 := Lib.hid (cy_zero y x)
 go_loopw [13, 53] (fun c v wr => ∃ i : Nat, i ≤ ny + 1 ∧ v = .int .i64 i ∧ c = .int .u64 (cy y x i : Int) ∧ wr = (((w.alloc (.cells (arr .u32 (dg x) nx) 228)).alloc (.cells (arr .u32 (dg y) ny) 228)).alloc (.cells (arr .u32 (sumFn y x i) (ny + 1)) 228)).drewN (k1 + k2)) (fun _ v _ => ny + 1 - (intOf v).toNat)
 case atStart => exact ⟨0, Nat.zero_le _, rfl, by rw [HC0.out]; rfl, by rw [H0.out]⟩
 case round =>
  obtain ⟨i, hi, rfl, rfl, rfl⟩ := hrel
  have hcy := cy_le y x i
  have hdx1 := dg_lt y i
  have hdy1 := dg_lt x i
  by_cases hlt : i < ny + 1
  ·have hg := arr_get .u32 (sumFn y x i) (ny + 1) i hlt
   rw [sumFn_at] at hg
   have HS3 := Lib.hid (sumFn_succ y x i)
   by_cases hly : i < nx
   ·have hgy := arr_get .u32 (dg x) nx i hly
    have HS1 := Lib.hid (show ((cy y x i : Int) + dg y i + dg x i) % 4294967296 = (dg (y + x) i : Int) by have := sum_dg y x i; omega)
    have HS2 := Lib.hid (show ((cy y x i : Int) + dg y i + dg x i) / 4294967296 = (cy y x (i + 1) : Int) by have := sum_cy y x i; omega)
    go_wp2_with fail
    refine ⟨⟨i + 1, by omega, by go_num, by rw [HS2.out], ?_⟩, by simp [intOf]; omega⟩
    rw [HS1.out, arr_set, HS3.out]
   ·have hy0 := dg_big x nx i HXL.out (by omega)
    have HS1 := Lib.hid (show ((cy y x i : Int) + dg y i) % 4294967296 = (dg (y + x) i : Int) by have := sum_dg y x i; omega)
    have HS2 := Lib.hid (show ((cy y x i : Int) + dg y i) / 4294967296 = (cy y x (i + 1) : Int) by have := sum_cy y x i; omega)
    clear hy0
    go_wp2_with fail
    refine ⟨⟨i + 1, by omega, by go_num, by rw [HS2.out], ?_⟩, by simp [intOf]; omega⟩
    rw [HS1.out, arr_set, HS3.out]
  ·have e : i = ny + 1 := by omega
   subst e
   have HA := Lib.hid (sumFn_all y x (ny + 1))
   go_wp2_with fail
   rw [HA.out]
   refine (bytes_c (y + x) (ny + 1) (ny + 1) (w.heap.size + 1 + 1) _ HT.out (by omega) (Nat.le_refl _) (fun i hi => by simp [go_sem, arr_get _ _ _ _ hi]) (by simp [go_sem])).mono ?_
   rintro e w' ⟨rfl, hb⟩
   obtain ⟨u, rfl⟩ := World.plus_of_below hb
   clear hb
   go_wp2_with fail
   go_ret
   exact ⟨by rw [Nat.add_comm x y]; rfl, by (exact belA)⟩
theorem add_c (x y : Nat) (w : World) (hx : (mag x).size ≤ 4294967296) (hy : (mag y).size ≤ 4294967296) :
    Calls Tryz.prog 182 #[.string (mag x), .string (mag y)] w fun e w' => e = .returned (.string (mag (x + y))) ∧ Below w.heap.size w w' := by
 by_cases h8 : fits8 x = true
 ·by_cases h9 : fits8 y = true
  ·by_cases h : x + y < 2 ^ 64
   ·exact add_small x y w h8 h9 h
   ·rcases Nat.lt_or_ge (nd 4294967296 x) (nd 4294967296 y) with h2 | h2
    ·exact add_over_swap x y _ _ w hx hy rfl rfl h8 h9 h h2
    ·exact add_over x y _ _ w hx hy rfl rfl h8 h9 h h2
  ·have hb : (fits8 x && fits8 y) = false := by simp at h9; rw [h9]; simp
   rcases Nat.lt_or_ge (nd 4294967296 x) (nd 4294967296 y) with h2 | h2
   ·exact add_big_swap x y _ _ w hx hy rfl rfl hb h2
   ·exact add_big x y _ _ w hx hy rfl rfl hb h2
 ·have hb : (fits8 x && fits8 y) = false := by simp at h8; rw [h8]; simp
  rcases Nat.lt_or_ge (nd 4294967296 x) (nd 4294967296 y) with h2 | h2
  ·exact add_big_swap x y _ _ w hx hy rfl rfl hb h2
  ·exact add_big x y _ _ w hx hy rfl rfl hb h2
end Go.Proofs.YtlblfgbpogljoaaGreatDoor

end
section
/- The package integer: sub returns the difference of two magnitudes. -/
namespace Go.Proofs.YtlblfgbpogljoaaGreatDoor
open Go Go.RowKit
open Vi
def bwm (m x y : Nat) : Nat := if x % m < y % m then 1 else 0
def bw (x y i : Nat) : Nat := bwm (4294967296 ^ i) x y
theorem bw_zero (x y : Nat) : bw x y 0 = 0 := by unfold bw bwm; simp [Nat.mod_one]
theorem bw_le (x y i : Nat) : bw x y i ≤ 1 := by unfold bw bwm; split <;> omega
theorem diff_mod (m x y : Nat) (hp : 0 < m) (h : y ≤ x) : (x - y) % m + y % m = x % m + m * bwm m x y := by
 have h1 := Nat.mod_lt x hp
 have h2 := Nat.mod_lt y hp
 have h3 := Nat.mod_lt (x - y) hp
 have e : ((x - y) % m + y % m) % m = x % m := by
  rw [← Nat.add_mod, Nat.sub_add_cancel h]
 unfold bwm
 by_cases hs : (x - y) % m + y % m < m
 ·rw [Nat.mod_eq_of_lt hs] at e
  rw [if_neg (by omega)]; omega
 ·rw [Nat.mod_eq_sub_mod (by omega), Nat.mod_eq_of_lt (by omega)] at e
  rw [if_pos (by omega)]; omega
theorem diff_eq (x y i : Nat) (h : y ≤ x) : dg (x - y) i + bw x y i + dg y i = dg x i + 4294967296 * bw x y (i + 1) := by
 have hp := Nat.pow_pos (n := i) (show 0 < 4294967296 by omega)
 have e1 := diff_mod (4294967296 ^ i) x y hp h
 have e2 := diff_mod (4294967296 ^ (i + 1)) x y (Nat.pow_pos (by omega)) h
 rw [mod_succ (x - y), mod_succ x, mod_succ y] at e2
 show dg (x - y) i + bwm (4294967296 ^ i) x y + dg y i = dg x i + 4294967296 * bwm (4294967296 ^ (i + 1)) x y
 generalize bwm (4294967296 ^ i) x y = b at *
 generalize bwm (4294967296 ^ (i + 1)) x y = b' at *
 rw [Nat.pow_succ] at e2
 generalize 4294967296 ^ i = m at *
 have e3 : m * (dg (x - y) i + b + dg y i) = m * (dg x i + 4294967296 * b') := by
  rw [Nat.mul_add, Nat.mul_add, Nat.mul_add, ← Nat.mul_assoc]
  omega
 exact Nat.eq_of_mul_eq_mul_left hp e3
def difFn (x y i : Nat) : Nat → Nat := fun k => if k < i then dg (x - y) k else dg x k
theorem difFn_zero (x y n : Nat) : arr .u32 (difFn x y 0) n = arr .u32 (dg x) n := by
 apply arr_congr; intro k _; unfold difFn; rw [if_neg (by omega)]
theorem difFn_at (x y i : Nat) : difFn x y i i = dg x i := by unfold difFn; rw [if_neg (by omega)]
theorem difFn_succ (x y i : Nat) : upd (difFn x y i) i (dg (x - y) i) = difFn x y (i + 1) := by
 funext k
 unfold upd difFn
 by_cases h : k = i
 ·subst h; rw [if_pos rfl, if_pos (by omega)]
 ·rw [if_neg h]
  by_cases h2 : k < i
  ·rw [if_pos h2, if_pos (by omega)]
  ·rw [if_neg h2, if_neg (by omega)]
theorem difFn_all (x y n : Nat) : arr .u32 (difFn x y n) n = arr .u32 (dg (x - y)) n := by
 apply arr_congr; intro k hk; unfold difFn; rw [if_pos hk]
set_option maxRecDepth 100000 in
set_option maxHeartbeats 400000 in
theorem sub_small (x y : Nat) (w : World) (hle : y ≤ x) (h8 : fits8 x = true) (h9 : fits8 y = true) : Calls Tryz.prog 184 #[.string (mag x), .string (mag y)] w fun e w' => e = .returned (.string (mag (x - y))) ∧ Below w.heap.size w w' := by
 have hw := words_c x y w (by unfold fits8 at h8; simp at h8; omega) (by unfold fits8 at h9; simp at h9; omega)
 have hl := wv_lt x
 rw [wv_of x h8] at hl
 rw [h8, h9, wv_of x h8, wv_of y h9] at hw
 have H := Lib.hid hw
 have hm := fun w => magnitude_c (x - y) w (by omega)
 obtain ⟨z, hz⟩ : ∃ z, x - y = z := ⟨_, rfl⟩
 rw [hz] at hm ⊢
 have hs : IntKind.u64.wrap ((x : Int) - (y : Int)) = (z : Int) := by rw [IntKind.wrap_u64]; omega
 have HM := Lib.hid hm
 clear hw h8 h9 hm hz hl hle
 go_enter Tryz.func184, Tryz.ntmps184
 go_wp2_with fail
 (refine (H.out).mono ?_; rintro e w' ⟨rfl, rfl⟩)
 (go_wp2_with fail; refine (HM.out _).mono ?_; rintro e w' ⟨rfl, hb⟩; (first | (with_reducible (have hb2 := World.plus_of_below ((World.below_plus _ _).trans (hb.mono (World.size_plus _ _)))); obtain ⟨u, rfl⟩ := hb2) | (obtain ⟨u, rfl⟩ := World.plus_of_below hb)); clear hb)
 go_wp2_with fail
 go_ret
 exact ⟨rfl, by (exact belA)⟩
theorem dif_digit (x y i : Nat) (h : y ≤ x) (hd : (dg x i : Int) - bw x y i - dg y i < 0) : (dg x i : Int) - bw x y i - dg y i + 4294967296 = (dg (x - y) i : Int) ∧ bw x y (i + 1) = 1 := by
 have h1 := diff_eq x y i h
 have h2 := bw_le x y (i + 1)
 have h3 := dg_lt (x - y) i
 omega
theorem dif_digit' (x y i : Nat) (h : y ≤ x) (hd : ¬ (dg x i : Int) - bw x y i - dg y i < 0) : (dg x i : Int) - bw x y i - dg y i = (dg (x - y) i : Int) ∧ bw x y (i + 1) = 0 := by
 have h1 := diff_eq x y i h
 have h2 := bw_le x y (i + 1)
 have h3 := dg_lt (x - y) i
 have h4 := dg_lt x i
 omega
set_option maxRecDepth 100000 in
set_option maxHeartbeats 800000 in
theorem sub_big (x y nx ny : Nat) (w : World) (hx : (mag x).size ≤ 4294967296) (hy : (mag y).size ≤ 4294967296) (hnx : nd 4294967296 x = nx) (hny : nd 4294967296 y = ny) (hbig : (fits8 x && fits8 y) = false) (hxy : y ≤ x) :
    Calls Tryz.prog 184 #[.string (mag x), .string (mag y)] w fun e w' => e = .returned (.string (mag (x - y))) ∧ Below w.heap.size w w' := by
 have hw := fun w => words_c x y w hx hy
 have hle : ny ≤ nx := by rw [← hnx, ← hny]; exact nd_mono _ (by omega) y x hxy
 rw [hbig] at hw
 clear hbig
 have H := Lib.hid hw
 have hdx := fun w => digits_c x w hx
 have hdy := fun w => digits_c y w hy
 rw [hnx] at hdx
 rw [hny] at hdy
 have HX := Lib.hid hdx
 have HY := Lib.hid hdy
 have hxl : x < 4294967296 ^ nx := by rw [← hnx]; exact lt_pow_nd _ (by omega) x
 have hyl : y < 4294967296 ^ ny := by rw [← hny]; exact lt_pow_nd _ (by omega) y
 have hnx2 : nx ≤ 1073741825 := by rw [← hnx, ← up4_nd]; unfold up4; omega
 have HXL := Lib.hid hxl
 have HYL := Lib.hid hyl
 have HXY := Lib.hid hxy
 have HT := Lib.hid (Nat.lt_of_le_of_lt (Nat.sub_le x y) hxl)
 have HMK := Lib.hid (fun w => make32 nx w (by omega))
 clear hw hdx hdy hnx hny hxl hyl hxy
 go_enter Tryz.func184, Tryz.ntmps184
 go_wp2_with fail
 (refine (H.out _).mono ?_; rintro e w' ⟨rfl, rfl⟩)
 go_wp2_with fail
 refine (HX.out _).mono ?_
 rintro e w' ⟨rfl, k1, rfl⟩
 go_wp2_with fail
 refine (HY.out _).mono ?_
 rintro e w' ⟨rfl, k2, rfl⟩
 go_wp2_with fail
 have hmk := HMK.out
 have hcp := fun ty k => copy_fresh ((w.alloc (.cells (arr .u32 (dg x) nx) 228)).alloc (.cells (arr .u32 (dg y) ny) 228)) (w.heap.size + 1 + 1) (w.heap.size) nx nx nx nx k ty (dg x) (by simp) (by omega) (by simp; try omega) (fun i hi => by simp [go_sem, arr_get _ _ _ _ hi]) (fun i hi => dg_big x nx i HXL.out hi)
 simp only [hmk]
 go_wp2_with fail
 clear hcp hmk
 have H0 := Lib.hid (difFn_zero x y nx)
 have HC0 := Lib.hid (bw_zero x y)
 go_loopw [11, 38] (fun c v wr => ∃ i : Nat, i ≤ nx ∧ v = .int .i64 i ∧ c = .int .i64 (bw x y i : Int) ∧ wr = (((w.alloc (.cells (arr .u32 (dg x) nx) 228)).alloc (.cells (arr .u32 (dg y) ny) 228)).alloc (.cells (arr .u32 (difFn x y i) nx) 228)).drewN (k1 + k2)) (fun _ v _ => nx - (intOf v).toNat)
 case atStart => exact ⟨0, Nat.zero_le _, rfl, by rw [HC0.out]; rfl, by rw [H0.out]⟩
 case round =>
  obtain ⟨i, hi, rfl, rfl, rfl⟩ := hrel
  have hcy := bw_le x y i
  have hdx1 := dg_lt x i
  have hdy1 := dg_lt y i
  by_cases hlt : i < nx
  ·have hg := arr_get .u32 (difFn x y i) nx i hlt
   rw [difFn_at] at hg
   have HS3 := Lib.hid (difFn_succ x y i)
   by_cases hly : i < ny
   ·have hgy := arr_get .u32 (dg y) ny i hly
    by_cases hd : (dg x i : Int) - bw x y i - dg y i < 0
    ·obtain ⟨h1, h2⟩ := dif_digit x y i HXY.out hd
     have HS1 := Lib.hid h1
     have HS2 := Lib.hid h2
     clear h1 h2
     go_wp2_with fail
     refine ⟨⟨i + 1, by omega, by go_num, by rw [HS2.out]; rfl, ?_⟩, by simp [intOf]; omega⟩
     rw [HS1.out, arr_set, HS3.out]
    ·obtain ⟨h1, h2⟩ := dif_digit' x y i HXY.out hd
     have HS1 := Lib.hid h1
     have HS2 := Lib.hid h2
     clear h1 h2
     go_wp2_with fail
     refine ⟨⟨i + 1, by omega, by go_num, by rw [HS2.out]; rfl, ?_⟩, by simp [intOf]; omega⟩
     rw [HS1.out, arr_set, HS3.out]
   ·have hy0 := dg_big y ny i HYL.out (by omega)
    by_cases hd : (dg x i : Int) - bw x y i < 0
    ·obtain ⟨h1, h2⟩ := dif_digit x y i HXY.out (by omega)
     have HS1 := Lib.hid (show (dg x i : Int) - bw x y i + 4294967296 = (dg (x - y) i : Int) by omega)
     have HS2 := Lib.hid h2
     clear h1 h2 hy0
     go_wp2_with fail
     refine ⟨⟨i + 1, by omega, by go_num, by rw [HS2.out]; rfl, ?_⟩, by simp [intOf]; omega⟩
     rw [HS1.out, arr_set, HS3.out]
    ·obtain ⟨h1, h2⟩ := dif_digit' x y i HXY.out (by omega)
     have HS1 := Lib.hid (show (dg x i : Int) - bw x y i = (dg (x - y) i : Int) by omega)
     have HS2 := Lib.hid h2
     clear h1 h2 hy0
     go_wp2_with fail
     refine ⟨⟨i + 1, by omega, by go_num, by rw [HS2.out]; rfl, ?_⟩, by simp [intOf]; omega⟩
     rw [HS1.out, arr_set, HS3.out]
  ·have e : i = nx := by omega
   subst e
   have HA := Lib.hid (difFn_all x y i)
   go_wp2_with fail
   rw [HA.out]
   refine (bytes_c (x - y) i i (w.heap.size + 1 + 1) _ HT.out (by omega) (Nat.le_refl _) (fun i hi => by simp [go_sem, arr_get _ _ _ _ hi]) (by simp [go_sem])).mono ?_
   rintro e w' ⟨rfl, hb⟩
   obtain ⟨u, rfl⟩ := World.plus_of_below hb
   clear hb
   go_wp2_with fail
   go_ret
   exact ⟨rfl, by (exact belA)⟩
theorem sub_c (x y : Nat) (w : World) (hx : (mag x).size ≤ 4294967296) (hy : (mag y).size ≤ 4294967296) (hle : y ≤ x) :
    Calls Tryz.prog 184 #[.string (mag x), .string (mag y)] w fun e w' => e = .returned (.string (mag (x - y))) ∧ Below w.heap.size w w' := by
 by_cases h8 : fits8 x = true
 ·by_cases h9 : fits8 y = true
  ·exact sub_small x y w hle h8 h9
  ·have hb : (fits8 x && fits8 y) = false := by simp at h9; rw [h9]; simp
   exact sub_big x y _ _ w hx hy rfl rfl hb hle
 ·have hb : (fits8 x && fits8 y) = false := by simp at h8; rw [h8]; simp
  exact sub_big x y _ _ w hx hy rfl rfl hb hle
end Go.Proofs.YtlblfgbpogljoaaGreatDoor

end
section
/- The package integer: mul returns the product of two magnitudes. -/
namespace Go.Proofs.YtlblfgbpogljoaaGreatDoor
open Go Go.RowKit
open Vi
theorem mul64_c (x y : Nat) (hx : x < 2 ^ 64) (hy : y < 2 ^ 64) (w : World) : Calls Tryz.prog 193 #[.int .u64 (x : Int), .int .u64 (y : Int)] w fun e w' => e = .returned (.tuple #[.int .u64 ((x * y / 18446744073709551616 : Nat) : Int), .int .u64 ((x * y % 18446744073709551616 : Nat) : Int)]) ∧ w = w' :=
 (Tryz.bits_Mul64 x y hx hy w).mono fun _ _ ⟨he, hw⟩ => ⟨he, hw.symm⟩
set_option maxRecDepth 100000 in
set_option maxHeartbeats 400000 in
theorem mul_small (x y : Nat) (w : World) (h8 : fits8 x = true) (h9 : fits8 y = true) (h : x * y < 2 ^ 64) : Calls Tryz.prog 169 #[.string (mag x), .string (mag y)] w fun e w' => e = .returned (.string (mag (x * y))) ∧ Below w.heap.size w w' := by
 have hw := words_c x y w (by unfold fits8 at h8; simp at h8; omega) (by unfold fits8 at h9; simp at h9; omega)
 have hx64 := wv_lt x
 have hy64 := wv_lt y
 rw [h8, h9, wv_of x h8, wv_of y h9] at hw
 rw [wv_of x h8] at hx64
 rw [wv_of y h9] at hy64
 have H := Lib.hid hw
 have hm := fun w => mul64_c x y hx64 hy64 w
 obtain ⟨z, hz⟩ : ∃ z, x * y = z := ⟨_, rfl⟩
 rw [hz] at hm h ⊢
 rw [show z % 18446744073709551616 = z by omega, show z / 18446744073709551616 = 0 by omega] at hm
 have HM := Lib.hid hm
 have HG := Lib.hid (fun w => magnitude_c z w h)
 clear hw hm hx64 hy64 h8 h9 hz h
 go_enter Tryz.func169, Tryz.ntmps169
 go_wp2_with fail
 (refine (H.out).mono ?_; rintro e w' ⟨rfl, rfl⟩)
 go_wp2_with fail
 (refine (HM.out _).mono ?_; rintro e w' ⟨rfl, rfl⟩)
 (go_wp2_with fail; refine (HG.out _).mono ?_; rintro e w' ⟨rfl, hb⟩; (first | (with_reducible (have hb2 := World.plus_of_below ((World.below_plus _ _).trans (hb.mono (World.size_plus _ _)))); obtain ⟨u, rfl⟩ := hb2) | (obtain ⟨u, rfl⟩ := World.plus_of_below hb)); clear hb)
 go_wp2_with fail
 go_ret
 exact ⟨rfl, by (exact belA)⟩
def my (o d y i k : Nat) : Nat := (o % 4294967296 ^ (i + k) + 4294967296 ^ i * (d * (y % 4294967296 ^ k))) / 4294967296 ^ (i + k)
theorem my_zero (o d y i : Nat) : my o d y i 0 = 0 := by
 unfold my
 rw [Nat.pow_zero, Nat.mod_one, Nat.mul_zero, Nat.mul_zero, Nat.add_zero, Nat.add_zero]
 exact Nat.div_eq_of_lt (Nat.mod_lt _ (Nat.pow_pos (by omega)))
theorem my_lt (o d y i k : Nat) (hd : d < 4294967296) : my o d y i k < 4294967296 := by
 unfold my
 have hM : 0 < 4294967296 ^ (i + k) := Nat.pow_pos (by omega)
 rw [Nat.div_lt_iff_lt_mul hM]
 have h1 := Nat.mod_lt o hM
 have h2 := Nat.mod_lt y (Nat.pow_pos (n := k) (show 0 < 4294967296 by omega))
 have h3 : 4294967296 ^ i * (d * (y % 4294967296 ^ k)) ≤ 4294967296 ^ i * (4294967295 * 4294967296 ^ k) :=
  Nat.mul_le_mul_left _ (Nat.mul_le_mul (by omega) (by omega))
 have h4 : 4294967296 ^ i * (4294967295 * 4294967296 ^ k) = 4294967295 * 4294967296 ^ (i + k) := by
  rw [Nat.mul_left_comm, Nat.pow_add]
 omega
theorem my_step (o d y i k : Nat) : my o d y i k + dg o (i + k) + d * dg y k = dg (o + 4294967296 ^ i * (d * y)) (i + k) + 4294967296 * my o d y i (k + 1) := by
 have hM : 0 < 4294967296 ^ (i + k) := Nat.pow_pos (by omega)
 have e1 : o % 4294967296 ^ (i + (k + 1)) + 4294967296 ^ i * (d * (y % 4294967296 ^ (k + 1))) = (o % 4294967296 ^ (i + k) + 4294967296 ^ i * (d * (y % 4294967296 ^ k))) + 4294967296 ^ (i + k) * (dg o (i + k) + d * dg y k) := by
  rw [← Nat.add_assoc i k 1, mod_succ o, mod_succ y, Nat.pow_add 4294967296 i k]
  simp only [Nat.mul_add]
  rw [Nat.mul_left_comm d (4294967296 ^ k), Nat.mul_assoc (4294967296 ^ i)  (4294967296 ^ k) (d * dg y k)]
  omega
 have e2 : (o % 4294967296 ^ (i + (k + 1)) + 4294967296 ^ i * (d * (y % 4294967296 ^ (k + 1)))) / 4294967296 ^ (i + k) = my o d y i k + (dg o (i + k) + d * dg y k) := by
  rw [e1, Nat.add_mul_div_left _ _ hM]; rfl
 have e3 : my o d y i (k + 1) = (my o d y i k + (dg o (i + k) + d * dg y k)) / 4294967296 := by
  rw [← e2, Nat.div_div_eq_div_mul, ← Nat.pow_succ]; rfl
 have e4 : dg (o + 4294967296 ^ i * (d * y)) (i + k) = (my o d y i k + (dg o (i + k) + d * dg y k)) % 4294967296 := by
  rw [← e2]
  unfold dg
  rw [← Nat.mod_mul_right_div_self, ← Nat.mod_mul_right_div_self (_ + _ : Nat), ← Nat.pow_succ]
  congr 1
  show _ = (o % 4294967296 ^ (i + k + 1) + 4294967296 ^ i * (d * (y % 4294967296 ^ (k + 1)))) % 4294967296 ^ (i + k + 1)
  have e5 : 4294967296 ^ i * (d * y) = 4294967296 ^ i * (d * (y % 4294967296 ^ (k + 1))) + 4294967296 ^ (i + k + 1) * (d * (y / 4294967296 ^ (k + 1))) := by
   rw [Nat.add_assoc, Nat.pow_add 4294967296 i (k + 1), Nat.mul_assoc, ← Nat.mul_add]
   congr 1
   rw [Nat.mul_left_comm, ← Nat.mul_add, Nat.mod_add_div]
  rw [e5, ← Nat.add_assoc, Nat.add_mul_mod_self_left, Nat.mod_add_mod]
 rw [e3, e4, Nat.mod_add_div]; omega
theorem dg_add_low (o i z p : Nat) (h : p < i) : dg (o + 4294967296 ^ i * z) p = dg o p := by
 unfold dg
 rw [← Nat.mod_mul_right_div_self, ← Nat.mod_mul_right_div_self, ← Nat.pow_succ]
 congr 1
 obtain ⟨m, rfl⟩ : ∃ m, i = (p + 1) + m := ⟨i - (p + 1), by omega⟩
 rw [Nat.pow_add, Nat.mul_assoc, Nat.add_mul_mod_self_left]
def mulFn (o t i k : Nat) : Nat → Nat := fun p => if p < i + k then dg t p else dg o p
theorem mulFn_zero (o z i n : Nat) : arr .u32 (dg o) n = arr .u32 (mulFn o (o + 4294967296 ^ i * z) i 0) n := by
 apply arr_congr; intro p _; unfold mulFn
 split
 ·rw [dg_add_low _ _ _ _ (by omega)]
 ·rfl
theorem mulFn_at (o t i k : Nat) : mulFn o t i k (i + k) = dg o (i + k) := by unfold mulFn; rw [if_neg (by omega)]
theorem mulFn_succ (o t i k : Nat) : upd (mulFn o t i k) (i + k) (dg t (i + k)) = mulFn o t i (k + 1) := by
 funext p
 unfold upd mulFn
 by_cases h : p = i + k
 ·subst h; rw [if_pos rfl, if_pos (by omega)]
 ·rw [if_neg h]
  by_cases h2 : p < i + k
  ·rw [if_pos h2, if_pos (by omega)]
  ·rw [if_neg h2, if_neg (by omega)]
theorem row_lt (o d y i n : Nat) (ho : o < 4294967296 ^ (i + n)) (hy : y < 4294967296 ^ n) (hd : d < 4294967296) : o + 4294967296 ^ i * (d * y) < 4294967296 ^ (i + n + 1) := by
 have h3 : 4294967296 ^ i * (d * y) ≤ 4294967296 ^ i * (4294967295 * 4294967296 ^ n) :=
  Nat.mul_le_mul_left _ (Nat.mul_le_mul (by omega) (by omega))
 have h4 : 4294967296 ^ i * (4294967295 * 4294967296 ^ n) = 4294967295 * 4294967296 ^ (i + n) := by
  rw [Nat.mul_left_comm, Nat.pow_add]
 rw [Nat.pow_succ]
 omega
theorem my_last (o d y i n : Nat) (ho : o < 4294967296 ^ (i + n)) (hy : y < 4294967296 ^ n) (hd : d < 4294967296) : my o d y i n = dg (o + 4294967296 ^ i * (d * y)) (i + n) := by
 have h := row_lt o d y i n ho hy hd
 unfold my dg
 rw [Nat.mod_eq_of_lt ho, Nat.mod_eq_of_lt hy]
 symm
 apply Nat.mod_eq_of_lt
 rw [Nat.div_lt_iff_lt_mul (Nat.pow_pos (by omega)), show 4294967296 * 4294967296 ^ (i + n) = 4294967296 ^ (i + n + 1) by rw [Nat.pow_succ, Nat.mul_comm]]
 exact h
theorem mulFn_all (o d y i n m : Nat) (ho : o < 4294967296 ^ (i + n)) (hy : y < 4294967296 ^ n) (hd : d < 4294967296) :
    arr .u32 (upd (mulFn o (o + 4294967296 ^ i * (d * y)) i n) (i + n) (my o d y i n)) m = arr .u32 (dg (o + 4294967296 ^ i * (d * y))) m := by
 have h := row_lt o d y i n ho hy hd
 apply arr_congr
 intro p _
 unfold upd mulFn
 by_cases h1 : p = i + n
 ·subst h1; rw [if_pos rfl, my_last o d y i n ho hy hd]
 ·rw [if_neg h1]
  by_cases h2 : p < i + n
  ·rw [if_pos h2]
  ·rw [if_neg h2, dg_big o (i + n) p ho (by omega), dg_big _ (i + n + 1) p h (by omega)]
theorem part_mul (x y i : Nat) : x % 4294967296 ^ i * y + 4294967296 ^ i * (dg x i * y) = x % 4294967296 ^ (i + 1) * y := by
 rw [mod_succ, Nat.add_mul, Nat.mul_assoc]
theorem make32t (n m : Nat) (w : World) (h : n + m ≤ 8589934591) : (Instr.makeSlice 226 (.int .i64 ((n : Int) + (m : Int) + 1)) (.int .i64 ((n : Int) + (m : Int) + 1))).run Tryz.prog w = .ok (.slice (some ⟨w.heap.size, 0, none⟩) (n + m + 1) (n + m + 1)) (w.alloc (.cells (arr .u32 (fun _ => 0) (n + m + 1)) 228)) :=
 make32 (n + m + 1) w (by omega)
theorem zero_row (n x y : Nat) : arr .u32 (fun _ => 0) n = arr .u32 (dg (x % 4294967296 ^ 0 * y)) n := by
 apply arr_congr; intro i _; rw [Nat.pow_zero, Nat.mod_one, Nat.zero_mul, dg_zero]
theorem prod_lt (x y nx ny : Nat) (hx : x < 4294967296 ^ nx) (hy : y < 4294967296 ^ ny) : x * y < 4294967296 ^ (nx + ny + 1) := by
 have h1 : x * y ≤ 4294967296 ^ nx * 4294967296 ^ ny := Nat.mul_le_mul (by omega) (by omega)
 rw [← Nat.pow_add] at h1
 have h2 : 0 < 4294967296 ^ (nx + ny) := Nat.pow_pos (by omega)
 rw [Nat.pow_succ]; omega
theorem part_lt (x y i n : Nat) (hy : y < 4294967296 ^ n) : x % 4294967296 ^ i * y < 4294967296 ^ (i + n) := by
 rw [Nat.pow_add]
 have h1 := Nat.mod_lt x (Nat.pow_pos (n := i) (show 0 < 4294967296 by omega))
 calc x % 4294967296 ^ i * y ≤ x % 4294967296 ^ i * 4294967296 ^ n := Nat.mul_le_mul_left _ (by omega)
  _ < 4294967296 ^ i * 4294967296 ^ n := Nat.mul_lt_mul_of_pos_right h1 (Nat.pow_pos (by omega))
set_option maxRecDepth 100000 in
set_option maxHeartbeats 1600000 in
theorem mul_big (x y nx ny : Nat) (w : World) (hx : (mag x).size ≤ 4294967296) (hy : (mag y).size ≤ 4294967296) (hnx : nd 4294967296 x = nx) (hny : nd 4294967296 y = ny) (hbig : (fits8 x && fits8 y) = false) :
    Calls Tryz.prog 169 #[.string (mag x), .string (mag y)] w fun e w' => e = .returned (.string (mag (x * y))) ∧ Below w.heap.size w w' := by
 have hw := fun w => words_c x y w hx hy
 rw [hbig] at hw
 clear hbig
 have H := Lib.hid hw
 have hdx := fun w => digits_c x w hx
 have hdy := fun w => digits_c y w hy
 rw [hnx] at hdx
 rw [hny] at hdy
 have HX := Lib.hid hdx
 have HY := Lib.hid hdy
 have hxl : x < 4294967296 ^ nx := by rw [← hnx]; exact lt_pow_nd _ (by omega) x
 have hyl : y < 4294967296 ^ ny := by rw [← hny]; exact lt_pow_nd _ (by omega) y
 have hnx2 : nx ≤ 1073741825 := by rw [← hnx, ← up4_nd]; unfold up4; omega
 have hny2 : ny ≤ 1073741825 := by rw [← hny, ← up4_nd]; unfold up4; omega
 have HXL := Lib.hid hxl
 have HYL := Lib.hid hyl
 have HT := Lib.hid (prod_lt x y nx ny hxl hyl)
 have HMK := Lib.hid (make32t nx ny · (by omega))
 clear hw hdx hdy hnx hny hxl hyl
 go_enter Tryz.func169, Tryz.ntmps169
 go_wp2_with fail
 (refine (H.out _).mono ?_; rintro e w' ⟨rfl, rfl⟩)
 go_wp2_with fail
 refine (HX.out _).mono ?_
 rintro e w' ⟨rfl, k1, rfl⟩
 go_wp2_with fail
 refine (HY.out _).mono ?_
 rintro e w' ⟨rfl, k2, rfl⟩
 go_wp2_with fail
 have hmk := HMK.out
 simp only [hmk]
 clear hmk
 go_wp2_with fail
 have H0 := Lib.hid (zero_row (nx + ny + 1) x y)
 go_loopw [48] (fun v wr => ∃ i k3 : Nat, i ≤ nx ∧ v = .int .i64 i ∧ wr = (((w.alloc (.cells (arr .u32 (dg x) nx) 228)).alloc (.cells (arr .u32 (dg y) ny) 228)).alloc (.cells (arr .u32 (dg (x % 4294967296 ^ i * y)) (nx + ny + 1)) 228)).drewN k3) (fun v _ => nx - (intOf v).toNat)
 case atStart => exact ⟨0, k1 + k2, Nat.zero_le _, rfl, by rw [H0.out]⟩
 case round =>
  obtain ⟨i, k3, hi, rfl, rfl⟩ := hrel
  by_cases hlt : i < nx
  ·have hgx := arr_get .u32 (dg x) nx i hlt
   have hdx1 := dg_lt x i
   go_wp2_with fail
   clear hgx
   obtain ⟨o, ho⟩ : ∃ o, o = x % 4294967296 ^ i * y := ⟨_, rfl⟩
   have hol := part_lt x y i ny HYL.out
   rw [← ho] at hol ⊢
   have HOL := Lib.hid hol
   have HO := Lib.hid ho
   clear ho hol
   obtain ⟨d, hd⟩ : ∃ d, d = dg x i := ⟨_, rfl⟩
   rw [← hd] at hdx1 ⊢
   have HD := Lib.hid hd
   clear hd
   obtain ⟨t, ht⟩ : ∃ t, t = o + 4294967296 ^ i * (d * y) := ⟨_, rfl⟩
   have HTT := Lib.hid ht
   have HZ := Lib.hid (mulFn_zero o (d * y) i (nx + ny + 1))
   rw [← ht] at HZ
   clear ht
   have HM0 := Lib.hid (my_zero o d y i)
   go_loopw [15, 55] (fun c v wr => ∃ k k3 : Nat, k ≤ ny ∧ v = .int .i64 k ∧ c = .int .u64 (my o d y i k : Int) ∧ wr = (((w.alloc (.cells (arr .u32 (dg x) nx) 228)).alloc (.cells (arr .u32 (dg y) ny) 228)).alloc (.cells (arr .u32 (mulFn o t i k) (nx + ny + 1)) 228)).drewN k3) (fun _ v _ => ny - (intOf v).toNat)
   case atStart => exact ⟨0, k3, Nat.zero_le _, rfl, by rw [HM0.out]; rfl, by rw [HZ.out]⟩
   case round =>
    obtain ⟨k, k3, hk, rfl, rfl, rfl⟩ := hrel
    by_cases hlt2 : k < ny
    ·have hgy := arr_get .u32 (dg y) ny k hlt2
     have hgo := arr_get .u32 (mulFn o t i k) (nx + ny + 1) (i + k) (by omega)
     rw [mulFn_at] at hgo
     have hst := my_step o d y i k
     rw [← HTT.out] at hst
     have hc1 := my_lt o d y i k hdx1
     have ho1 := dg_lt o (i + k)
     have hy1 := dg_lt y k
     have ht1 := dg_lt t (i + k)
     have hp1 : d * dg y k ≤ 4294967295 * 4294967295 := Nat.mul_le_mul (by omega) (by omega)
     obtain ⟨P, hP⟩ : ∃ P, P = d * dg y k := ⟨_, rfl⟩
     rw [← hP] at hst hp1
     have e1 : IntKind.u64.wrap ((d : Int) * (dg y k : Int)) = (P : Int) := by
      rw [← Int.natCast_mul, ← hP, IntKind.wrap_u64]; omega
     clear hP
     obtain ⟨Q, hQ⟩ : ∃ Q, Q = dg o (i + k) + P := ⟨_, rfl⟩
     have e2 : IntKind.u64.wrap ((dg o (i + k) : Int) + (P : Int)) = (Q : Int) := by
      rw [IntKind.wrap_u64]; omega
     obtain ⟨R, hR⟩ : ∃ R, R = my o d y i k + Q := ⟨_, rfl⟩
     have e3 : IntKind.u64.wrap ((my o d y i k : Int) + (Q : Int)) = (R : Int) := by
      rw [IntKind.wrap_u64]; omega
     have HR1 := Lib.hid (show (R : Int) % 4294967296 = (dg t (i + k) : Int) by omega)
     have HR2 := Lib.hid (show (R : Int) / 4294967296 = (my o d y i (k + 1) : Int) by omega)
     have HS3 := Lib.hid (mulFn_succ o t i k)
     have e4 : IntKind.i64.wrap ((i : Int) + (k : Int)) = (i : Int) + (k : Int) := IntWalk.i64_in _ (by omega)
     have e5 : (0 : Int) ≤ (i : Int) + (k : Int) := by omega
     have e6 : ((i : Int) + (k : Int)).toNat = i + k := by omega
     have e7 : (i : Int) + (k : Int) < (nx : Int) + (ny : Int) + 1 := by omega
     clear hst hQ hR ht1 hp1
     go_wp2_with fail
     (refine wp_region_exact (by kernel_rfl) (by kernel_rfl) ?_; repeat go_big_quiet_step (fail)); (refine wpQuiet_nil ?_; rintro _ rfl)
     clear e1 e2 e3 e4
     go_wp2_with fail
     refine ⟨⟨k + 1, k3 + 1, by omega, by go_num, by rw [HR2.out], ?_⟩, by simp [intOf]; omega⟩
     rw [HR1.out, arr_set, HS3.out]
    ·have e : k = ny := by omega
     subst e
     have hgo := arr_get .u32 (mulFn o t i k) (nx + k + 1) (i + k) (by omega)
     have hc1 := my_lt o d y i k hdx1
     have HF := Lib.hid (mulFn_all o d y i k (nx + k + 1) HOL.out HYL.out hdx1)
     have HN := Lib.hid (part_mul x y i)
     go_wp2_with fail
     refine ⟨⟨i + 1, k3, by omega, by go_num, ?_⟩, by simp [intOf]; omega⟩
     rw [arr_set, HTT.out, HF.out, HO.out, HD.out, HN.out]
  ·have e : i = nx := by omega
   subst e
   have HA := Lib.hid (Nat.mod_eq_of_lt HXL.out)
   go_wp2_with fail
   rw [HA.out]
   refine (bytes_c (x * y) (i + ny + 1) (i + ny + 1) (w.heap.size + 1 + 1) _ HT.out (by omega) (Nat.le_refl _) (fun j hj => by simp [go_sem, arr_get _ _ _ _ hj]) (by simp [go_sem])).mono ?_
   rintro e w' ⟨rfl, hb⟩
   obtain ⟨u, rfl⟩ := World.plus_of_below hb
   clear hb
   go_wp2_with fail
   go_ret
   exact ⟨rfl, by (exact belA)⟩
set_option maxRecDepth 100000 in
set_option maxHeartbeats 1600000 in
theorem mul_over (x y nx ny : Nat) (w : World) (hx : (mag x).size ≤ 4294967296) (hy : (mag y).size ≤ 4294967296) (hnx : nd 4294967296 x = nx) (hny : nd 4294967296 y = ny) (h8 : fits8 x = true) (h9 : fits8 y = true) (hov : ¬ x * y < 2 ^ 64) :
    Calls Tryz.prog 169 #[.string (mag x), .string (mag y)] w fun e w' => e = .returned (.string (mag (x * y))) ∧ Below w.heap.size w w' := by
 have hw := fun w => words_c x y w hx hy
 have hx64 := wv_lt x
 have hy64 := wv_lt y
 rw [h8, h9, wv_of x h8, wv_of y h9] at hw
 rw [wv_of x h8] at hx64
 rw [wv_of y h9] at hy64
 have hm := fun w => mul64_c x y hx64 hy64 w
 obtain ⟨zh, hzh⟩ : ∃ z, x * y / 18446744073709551616 = z := ⟨_, rfl⟩
 obtain ⟨zl, hzl⟩ : ∃ z, x * y % 18446744073709551616 = z := ⟨_, rfl⟩
 rw [hzh, hzl] at hm
 have hb : ((zh : Int) == 0) = false := by rw [beq_eq_false_iff_ne]; omega
 have HM := Lib.hid hm
 clear hx64 hy64 h8 h9 hm hzh hzl hov
 have H := Lib.hid hw
 have hdx := fun w => digits_c x w hx
 have hdy := fun w => digits_c y w hy
 rw [hnx] at hdx
 rw [hny] at hdy
 have HX := Lib.hid hdx
 have HY := Lib.hid hdy
 have hxl : x < 4294967296 ^ nx := by rw [← hnx]; exact lt_pow_nd _ (by omega) x
 have hyl : y < 4294967296 ^ ny := by rw [← hny]; exact lt_pow_nd _ (by omega) y
 have hnx2 : nx ≤ 1073741825 := by rw [← hnx, ← up4_nd]; unfold up4; omega
 have hny2 : ny ≤ 1073741825 := by rw [← hny, ← up4_nd]; unfold up4; omega
 have HXL := Lib.hid hxl
 have HYL := Lib.hid hyl
 have HT := Lib.hid (prod_lt x y nx ny hxl hyl)
 have HMK := Lib.hid (make32t nx ny · (by omega))
 clear hw hdx hdy hnx hny hxl hyl
 go_enter Tryz.func169, Tryz.ntmps169
 go_wp2_with fail
 (refine (H.out _).mono ?_; rintro e w' ⟨rfl, rfl⟩)
 go_wp2_with fail
 (refine (HM.out _).mono ?_; rintro e w' ⟨rfl, rfl⟩)
 go_wp2_with fail
 refine (HX.out _).mono ?_
 rintro e w' ⟨rfl, k1, rfl⟩
 go_wp2_with fail
 refine (HY.out _).mono ?_
 rintro e w' ⟨rfl, k2, rfl⟩
 go_wp2_with fail
 have hmk := HMK.out
 simp only [hmk]
 clear hmk
 go_wp2_with fail
 have H0 := Lib.hid (zero_row (nx + ny + 1) x y)
 go_loopw [48] (fun v wr => ∃ i k3 : Nat, i ≤ nx ∧ v = .int .i64 i ∧ wr = (((w.alloc (.cells (arr .u32 (dg x) nx) 228)).alloc (.cells (arr .u32 (dg y) ny) 228)).alloc (.cells (arr .u32 (dg (x % 4294967296 ^ i * y)) (nx + ny + 1)) 228)).drewN k3) (fun v _ => nx - (intOf v).toNat)
 case atStart => exact ⟨0, k1 + k2, Nat.zero_le _, rfl, by rw [H0.out]⟩
 case round =>
  obtain ⟨i, k3, hi, rfl, rfl⟩ := hrel
  by_cases hlt : i < nx
  ·have hgx := arr_get .u32 (dg x) nx i hlt
   have hdx1 := dg_lt x i
   go_wp2_with fail
   clear hgx
   obtain ⟨o, ho⟩ : ∃ o, o = x % 4294967296 ^ i * y := ⟨_, rfl⟩
   have hol := part_lt x y i ny HYL.out
   rw [← ho] at hol ⊢
   have HOL := Lib.hid hol
   have HO := Lib.hid ho
   clear ho hol
   obtain ⟨d, hd⟩ : ∃ d, d = dg x i := ⟨_, rfl⟩
   rw [← hd] at hdx1 ⊢
   have HD := Lib.hid hd
   clear hd
   obtain ⟨t, ht⟩ : ∃ t, t = o + 4294967296 ^ i * (d * y) := ⟨_, rfl⟩
   have HTT := Lib.hid ht
   have HZ := Lib.hid (mulFn_zero o (d * y) i (nx + ny + 1))
   rw [← ht] at HZ
   clear ht
   have HM0 := Lib.hid (my_zero o d y i)
   go_loopw [15, 55] (fun c v wr => ∃ k k3 : Nat, k ≤ ny ∧ v = .int .i64 k ∧ c = .int .u64 (my o d y i k : Int) ∧ wr = (((w.alloc (.cells (arr .u32 (dg x) nx) 228)).alloc (.cells (arr .u32 (dg y) ny) 228)).alloc (.cells (arr .u32 (mulFn o t i k) (nx + ny + 1)) 228)).drewN k3) (fun _ v _ => ny - (intOf v).toNat)
   case atStart => exact ⟨0, k3, Nat.zero_le _, rfl, by rw [HM0.out]; rfl, by rw [HZ.out]⟩
   case round =>
    obtain ⟨k, k3, hk, rfl, rfl, rfl⟩ := hrel
    by_cases hlt2 : k < ny
    ·have hgy := arr_get .u32 (dg y) ny k hlt2
     have hgo := arr_get .u32 (mulFn o t i k) (nx + ny + 1) (i + k) (by omega)
     rw [mulFn_at] at hgo
     have hst := my_step o d y i k
     rw [← HTT.out] at hst
     have hc1 := my_lt o d y i k hdx1
     have ho1 := dg_lt o (i + k)
     have hy1 := dg_lt y k
     have ht1 := dg_lt t (i + k)
     have hp1 : d * dg y k ≤ 4294967295 * 4294967295 := Nat.mul_le_mul (by omega) (by omega)
     obtain ⟨P, hP⟩ : ∃ P, P = d * dg y k := ⟨_, rfl⟩
     rw [← hP] at hst hp1
     have e1 : IntKind.u64.wrap ((d : Int) * (dg y k : Int)) = (P : Int) := by
      rw [← Int.natCast_mul, ← hP, IntKind.wrap_u64]; omega
     clear hP
     obtain ⟨Q, hQ⟩ : ∃ Q, Q = dg o (i + k) + P := ⟨_, rfl⟩
     have e2 : IntKind.u64.wrap ((dg o (i + k) : Int) + (P : Int)) = (Q : Int) := by
      rw [IntKind.wrap_u64]; omega
     obtain ⟨R, hR⟩ : ∃ R, R = my o d y i k + Q := ⟨_, rfl⟩
     have e3 : IntKind.u64.wrap ((my o d y i k : Int) + (Q : Int)) = (R : Int) := by
      rw [IntKind.wrap_u64]; omega
     have HR1 := Lib.hid (show (R : Int) % 4294967296 = (dg t (i + k) : Int) by omega)
     have HR2 := Lib.hid (show (R : Int) / 4294967296 = (my o d y i (k + 1) : Int) by omega)
     have HS3 := Lib.hid (mulFn_succ o t i k)
     have e4 : IntKind.i64.wrap ((i : Int) + (k : Int)) = (i : Int) + (k : Int) := IntWalk.i64_in _ (by omega)
     have e5 : (0 : Int) ≤ (i : Int) + (k : Int) := by omega
     have e6 : ((i : Int) + (k : Int)).toNat = i + k := by omega
     have e7 : (i : Int) + (k : Int) < (nx : Int) + (ny : Int) + 1 := by omega
     clear hst hQ hR ht1 hp1
     go_wp2_with fail
     (refine wp_region_exact (by kernel_rfl) (by kernel_rfl) ?_; repeat go_big_quiet_step (fail)); (refine wpQuiet_nil ?_; rintro _ rfl)
     clear e1 e2 e3 e4
     go_wp2_with fail
     refine ⟨⟨k + 1, k3 + 1, by omega, by go_num, by rw [HR2.out], ?_⟩, by simp [intOf]; omega⟩
     rw [HR1.out, arr_set, HS3.out]
    ·have e : k = ny := by omega
     subst e
     have hgo := arr_get .u32 (mulFn o t i k) (nx + k + 1) (i + k) (by omega)
     have hc1 := my_lt o d y i k hdx1
     have HF := Lib.hid (mulFn_all o d y i k (nx + k + 1) HOL.out HYL.out hdx1)
     have HN := Lib.hid (part_mul x y i)
     go_wp2_with fail
     refine ⟨⟨i + 1, k3, by omega, by go_num, ?_⟩, by simp [intOf]; omega⟩
     rw [arr_set, HTT.out, HF.out, HO.out, HD.out, HN.out]
  ·have e : i = nx := by omega
   subst e
   have HA := Lib.hid (Nat.mod_eq_of_lt HXL.out)
   go_wp2_with fail
   rw [HA.out]
   refine (bytes_c (x * y) (i + ny + 1) (i + ny + 1) (w.heap.size + 1 + 1) _ HT.out (by omega) (Nat.le_refl _) (fun j hj => by simp [go_sem, arr_get _ _ _ _ hj]) (by simp [go_sem])).mono ?_
   rintro e w' ⟨rfl, hb⟩
   obtain ⟨u, rfl⟩ := World.plus_of_below hb
   clear hb
   go_wp2_with fail
   go_ret
   exact ⟨rfl, by (exact belA)⟩
theorem mul_c (x y : Nat) (w : World) (hx : (mag x).size ≤ 4294967296) (hy : (mag y).size ≤ 4294967296) :
    Calls Tryz.prog 169 #[.string (mag x), .string (mag y)] w fun e w' => e = .returned (.string (mag (x * y))) ∧ Below w.heap.size w w' := by
 by_cases h8 : fits8 x = true
 ·by_cases h9 : fits8 y = true
  ·by_cases h : x * y < 2 ^ 64
   ·exact mul_small x y w h8 h9 h
   ·exact mul_over x y _ _ w hx hy rfl rfl h8 h9 h
  ·have hb : (fits8 x && fits8 y) = false := by simp at h9; rw [h9]; simp
   exact mul_big x y _ _ w hx hy rfl rfl hb
 ·have hb : (fits8 x && fits8 y) = false := by simp at h8; rw [h8]; simp
  exact mul_big x y _ _ w hx hy rfl rfl hb
end Go.Proofs.YtlblfgbpogljoaaGreatDoor

end
section
/- Plain laws of long division: the guess of a digit, what is taken away, what is added back. No program in sight. -/
namespace Go.Proofs.YtlblfgbpogljoaaGreatDoor
open Go
open Vi
theorem pw (m : Nat) : (4294967296 : Nat) ^ (m + 1) = 4294967296 ^ m * 4294967296 := Nat.pow_succ ..
theorem pw2 (m : Nat) : (4294967296 : Nat) ^ (m + 2) = 4294967296 ^ (m + 1) * 4294967296 := by
 rw [show m + 2 = m + 1 + 1 by omega, pw (m + 1)]
theorem hi_abs (u y p b : Nat) (hp : 0 < p) (hb : 0 < b) (hy : y < p * b) (hu : u < y * b) : u / (p * b) % b * b + u / p % b = u / p := by
 rw [← Nat.div_div_eq_div_mul]
 have h1 : u / p < b * b := by
  rw [Nat.div_lt_iff_lt_mul hp, Nat.mul_comm (b * b), ← Nat.mul_assoc]
  exact Nat.lt_of_lt_of_le hu (Nat.mul_le_mul_right _ (Nat.le_of_lt hy))
 generalize u / p = v at *
 have h2 : v / b < b := (Nat.div_lt_iff_lt_mul hb).2 h1
 rw [Nat.mod_eq_of_lt h2]
 exact Nat.div_add_mod' v b
theorem guess_hi (u y m : Nat) (hy : y < 4294967296 ^ (m + 2)) (hu : u < y * 4294967296) : dg u (m + 2) * 4294967296 + dg u (m + 1) = u / 4294967296 ^ (m + 1) := by
 unfold dg
 rw [pw2] at hy ⊢
 exact hi_abs u y _ 4294967296 (Nat.pow_pos (by omega)) (by omega) hy hu
theorem top_two (y m : Nat) (hy : y < 4294967296 ^ (m + 2)) : y / 4294967296 ^ (m + 1) = dg y (m + 1) := by
 unfold dg
 rw [pw2] at hy
 have := (Nat.div_lt_iff_lt_mul (y := 4294967296) (Nat.pow_pos (n := m + 1) (show 0 < 4294967296 by omega))).2 (by rw [Nat.mul_comm]; exact hy)
 rw [Nat.mod_eq_of_lt this]
theorem small_abs (u y p b : Nat) (hp : 0 < p) (hu : u < y * b) : u / p < y / p * b + b := by
 rw [Nat.div_lt_iff_lt_mul hp]
 have h1 := Nat.lt_mul_div_succ y hp
 have h2 : y * b ≤ p * (y / p + 1) * b := Nat.mul_le_mul_right _ (Nat.le_of_lt h1)
 have e : (y / p * b + b) * p = p * (y / p + 1) * b := by
  rw [← Nat.succ_mul, Nat.mul_right_comm, Nat.mul_comm p]
 omega
theorem guess_small (u y m : Nat) (hy : y < 4294967296 ^ (m + 2)) (hu : u < y * 4294967296) : u / 4294967296 ^ (m + 1) < dg y (m + 1) * 4294967296 + 4294967296 := by
 rw [← top_two y m hy]
 exact small_abs u y _ 4294967296 (Nat.pow_pos (by omega)) hu
theorem guess_start (u y m : Nat) (hy : y < 4294967296 ^ (m + 2)) (h1 : 0 < dg y (m + 1)) : u / y ≤ u / 4294967296 ^ (m + 1) / dg y (m + 1) := by
 rw [Nat.le_div_iff_mul_le h1, Nat.le_div_iff_mul_le (Nat.pow_pos (by omega)), ← top_two y m hy, Nat.mul_assoc]
 have h2 := Nat.div_mul_le_self y (4294967296 ^ (m + 1))
 have h3 := Nat.div_mul_le_self u y
 exact Nat.le_trans (Nat.mul_le_mul_left _ h2) h3
theorem two_digits (z m : Nat) : z / 4294967296 ^ m = dg z m + 4294967296 * (z / 4294967296 ^ (m + 1)) := div_succ z m
theorem guess_step (u y m g r : Nat) (hy : y < 4294967296 ^ (m + 2)) (hy0 : 0 < y) (hu : u < y * 4294967296) (hg : g * dg y (m + 1) + r = u / 4294967296 ^ (m + 1)) (h : 4294967296 ≤ g ∨ r * 4294967296 + dg u m < g * dg y m) : u / y < g := by
 rw [Nat.div_lt_iff_lt_mul hy0]
 rcases h with h | h
 ·have := Nat.mul_le_mul_left y h
  rw [Nat.mul_comm g]; omega
 ·have hp : 0 < 4294967296 ^ m := Nat.pow_pos (by omega)
  have e1 : u / 4294967296 ^ m < g * (y / 4294967296 ^ m) := by
   rw [two_digits u m, two_digits y m, top_two y m hy, ← hg, Nat.mul_add g, Nat.mul_left_comm g]
   generalize g * dg y (m + 1) = a at *
   omega
  have h2 := Nat.lt_mul_div_succ u hp
  have h3 : 4294967296 ^ m * (u / 4294967296 ^ m + 1) ≤ 4294967296 ^ m * (g * (y / 4294967296 ^ m)) := Nat.mul_le_mul_left _ e1
  have h4 : 4294967296 ^ m * (g * (y / 4294967296 ^ m)) ≤ g * y := by
   rw [Nat.mul_left_comm]
   exact Nat.mul_le_mul_left _ (Nat.mul_div_le _ _)
  omega
theorem guess_end (u y m g r : Nat) (hy : y < 4294967296 ^ (m + 2)) (hy1 : 2147483648 ≤ dg y (m + 1)) (hg : g * dg y (m + 1) + r = u / 4294967296 ^ (m + 1)) (hB : g < 4294967296) (h : g * dg y m ≤ r * 4294967296 + dg u m) : g ≤ u / y + 1 := by
 have hp : 0 < 4294967296 ^ m := Nat.pow_pos (by omega)
 cases g with
 | zero => exact Nat.zero_le _
 | succ g =>
  have hy0 : 0 < y := by
   rcases Nat.eq_zero_or_pos y with h0 | h0
   ·subst h0; unfold dg at hy1; simp at hy1
   ·exact h0
  have e1 : (g + 1) * (y / 4294967296 ^ m) ≤ u / 4294967296 ^ m := by
   rw [two_digits u m, two_digits y m, top_two y m hy, ← hg, Nat.mul_add (g + 1), Nat.mul_left_comm (g + 1)]
   generalize (g + 1) * dg y (m + 1) = a at *
   omega
  have h2 := Nat.lt_mul_div_succ y hp
  have h5 : g ≤ y / 4294967296 ^ m := by rw [two_digits y m, top_two y m hy]; omega
  have h3 : g * y ≤ g * (4294967296 ^ m * (y / 4294967296 ^ m + 1)) := Nat.mul_le_mul_left _ (Nat.le_of_lt h2)
  have h4 : g * (y / 4294967296 ^ m + 1) ≤ u / 4294967296 ^ m := by
   rw [Nat.mul_add, Nat.mul_one]
   rw [Nat.add_mul, Nat.one_mul] at e1
   omega
  have h6 : g * y ≤ u := by
   rw [Nat.mul_left_comm] at h3
   have h7 := Nat.mul_le_mul_left (4294967296 ^ m) h4
   have h8 := Nat.mul_div_le u (4294967296 ^ m)
   omega
  have := (Nat.le_div_iff_mul_le hy0).2 h6
  omega
def kT (R V n j : Nat) : Nat := R + 4294967296 ^ (n + 1 + j) - 4294967296 ^ j * V
theorem kT_add (R V n j : Nat) (hV : V ≤ 4294967296 ^ (n + 1)) : kT R V n j + 4294967296 ^ j * V = R + 4294967296 ^ (n + 1 + j) := by
 unfold kT
 have : 4294967296 ^ j * V ≤ 4294967296 ^ j * 4294967296 ^ (n + 1) := Nat.mul_le_mul_left _ hV
 rw [← Nat.pow_add, Nat.add_comm j] at this
 omega
theorem kT_low (R V n j p : Nat) (hV : V ≤ 4294967296 ^ (n + 1)) (hp : p < j) : dg (kT R V n j) p = dg R p := by
 have h : dg (kT R V n j + 4294967296 ^ j * V) p = dg (R + 4294967296 ^ (n + 1 + j)) p := by rw [kT_add R V n j hV]
 rw [dg_add_low _ _ _ _ hp] at h
 rw [h]
 have := dg_add_low R (n + 1 + j) 1 p (by omega)
 rwa [Nat.mul_one] at this
theorem kT_step (R g y n j k : Nat) (hV : g * y ≤ 4294967296 ^ (n + 1)) (hk : k ≤ n) : my (kT R (g * y) n j) g y j k + dg (kT R (g * y) n j) (j + k) + g * dg y k = dg R (j + k) + 4294967296 * my (kT R (g * y) n j) g y j (k + 1) := by
 have h := my_step (kT R (g * y) n j) g y j k
 rw [kT_add R (g * y) n j hV] at h
 have := dg_add_low R (n + 1 + j) 1 (j + k) (by omega)
 rw [Nat.mul_one] at this
 rw [← this]; exact h
def subFn (R T j i : Nat) : Nat → Nat := fun p => if p < j + i then dg T p else dg R p
theorem subFn_at (R T j i : Nat) : subFn R T j i (j + i) = dg R (j + i) := by unfold subFn; rw [if_neg (by omega)]
theorem subFn_succ (R T j i : Nat) : upd (subFn R T j i) (j + i) (dg T (j + i)) = subFn R T j (i + 1) := by
 funext k
 unfold upd subFn
 by_cases h : k = j + i
 ·subst h; rw [if_pos rfl, if_pos (by omega)]
 ·rw [if_neg h]
  by_cases h2 : k < j + i
  ·rw [if_pos h2, if_pos (by omega)]
  ·rw [if_neg h2, if_neg (by omega)]
theorem subFn_low (R V n j : Nat) (hV : V ≤ 4294967296 ^ (n + 1)) : dg R = subFn R (kT R V n j) j 0 := by
 funext p; unfold subFn
 split
 ·exact (kT_low R V n j p hV (by omega)).symm
 ·rfl
theorem dg_mod (x K p : Nat) : dg (x % 4294967296 ^ K) p = if p < K then dg x p else 0 := by
 by_cases h : p < K
 ·rw [if_pos h]
  have h1 := dg_add_low (x % 4294967296 ^ K) K (x / 4294967296 ^ K) p h
  rw [Nat.mod_add_div] at h1
  exact h1.symm
 ·rw [if_neg h]
  exact dg_big _ K p (Nat.mod_lt _ (Nat.pow_pos (by omega))) (by omega)
theorem subFn_top (R T n j : Nat) (hR : R < 4294967296 ^ (j + n + 1)) : subFn R T j (n + 1) = dg (T % 4294967296 ^ (j + n + 1)) := by
 funext p; unfold subFn
 rw [dg_mod]
 by_cases h : p < j + n + 1
 ·rw [if_pos (by omega), if_pos h]
 ·rw [if_neg (by omega), if_neg h, dg_big R _ p hR (by omega)]
theorem kT_last (R g y n j : Nat) (hy : y < 4294967296 ^ n) (hR : R < 4294967296 ^ (j + n + 1)) (hV : g * y ≤ 4294967296 ^ (n + 1)) : my (kT R (g * y) n j) g y j (n + 1) = if R < 4294967296 ^ j * (g * y) then 1 else 0 := by
 have h := kT_add R (g * y) n j hV
 unfold my
 have hyn : y < 4294967296 ^ (n + 1) := Nat.lt_of_lt_of_le hy (Nat.pow_le_pow_right (by omega) (by omega))
 rw [Nat.mod_eq_of_lt hyn, show j + (n + 1) = j + n + 1 by omega]
 rw [show n + 1 + j = j + n + 1 by omega] at h
 have hp : 0 < 4294967296 ^ (j + n + 1) := Nat.pow_pos (by omega)
 generalize 4294967296 ^ (j + n + 1) = M at *
 generalize 4294967296 ^ j * (g * y) = V at *
 generalize kT R (g * y) n j = T at *
 by_cases hlt : R < V
 ·rw [if_pos hlt, Nat.mod_eq_of_lt (by omega), h]
  rw [Nat.add_div_right _ hp, Nat.div_eq_of_lt hR]
 ·rw [if_neg hlt]
  have e : T % M = T - M := by
   rw [Nat.mod_eq_sub_mod (by omega), Nat.mod_eq_of_lt (by omega)]
  rw [e, show T - M + V = R by omega]
  exact Nat.div_eq_of_lt hR
theorem kT_fits (R g y n j : Nat) (hR : R < 4294967296 ^ (j + n + 1)) (hV : g * y ≤ 4294967296 ^ (n + 1)) (h : ¬ R < 4294967296 ^ j * (g * y)) : kT R (g * y) n j % 4294967296 ^ (j + n + 1) = R - 4294967296 ^ j * (g * y) := by
 have h2 := kT_add R (g * y) n j hV
 rw [show n + 1 + j = j + n + 1 by omega] at h2
 generalize 4294967296 ^ (j + n + 1) = M at *
 generalize 4294967296 ^ j * (g * y) = V at *
 generalize kT R (g * y) n j = T at *
 rw [Nat.mod_eq_sub_mod (by omega), Nat.mod_eq_of_lt (by omega)]; omega
theorem kT_over (R g y n j : Nat) (hR : R < 4294967296 ^ (j + n + 1)) (hV : g * y ≤ 4294967296 ^ (n + 1)) (h : R < 4294967296 ^ j * (g * y)) : kT R (g * y) n j < 4294967296 ^ (j + n + 1) := by
 have h2 := kT_add R (g * y) n j hV
 rw [show n + 1 + j = j + n + 1 by omega] at h2
 omega
theorem back_all (R g y n j : Nat) (hR : R < 4294967296 ^ (j + n + 1)) (hV : (g + 1) * y ≤ 4294967296 ^ (n + 1)) (h : R < 4294967296 ^ j * ((g + 1) * y)) (h2 : 4294967296 ^ j * (g * y) ≤ R) : (kT R ((g + 1) * y) n j + 4294967296 ^ j * (1 * y)) % 4294967296 ^ (j + n + 1) = R - 4294967296 ^ j * (g * y) := by
 have h3 := kT_add R ((g + 1) * y) n j hV
 rw [show n + 1 + j = j + n + 1 by omega] at h3
 have e : 4294967296 ^ j * ((g + 1) * y) = 4294967296 ^ j * (g * y) + 4294967296 ^ j * (1 * y) := by rw [← Nat.mul_add, ← Nat.add_mul]
 rw [e] at h3 h
 generalize 4294967296 ^ (j + n + 1) = M at *
 generalize 4294967296 ^ j * (g * y) = V at *
 generalize 4294967296 ^ j * (1 * y) = Y at *
 generalize kT R ((g + 1) * y) n j = T at *
 rw [show T + Y = R - V + M by omega, Nat.add_mod_right, Nat.mod_eq_of_lt (by omega)]
theorem rest_lt (A y j n : Nat) (hy : y < 4294967296 ^ n) (hy0 : 0 < y) : A % (y * 4294967296 ^ (j + 1)) < 4294967296 ^ (j + n + 1) := by
 have h1 : 0 < y * 4294967296 ^ (j + 1) := Nat.mul_pos hy0 (Nat.pow_pos (by omega))
 have h2 := Nat.mod_lt A h1
 have h3 : y * 4294967296 ^ (j + 1) ≤ 4294967296 ^ n * 4294967296 ^ (j + 1) := Nat.mul_le_mul_right _ (Nat.le_of_lt hy)
 rw [← Nat.pow_add, show n + (j + 1) = j + n + 1 by omega] at h3
 omega
theorem rest_u (A y j : Nat) (hy0 : 0 < y) : A % (y * 4294967296 ^ (j + 1)) / 4294967296 ^ j < y * 4294967296 := by
 have h1 : 0 < y * 4294967296 ^ (j + 1) := Nat.mul_pos hy0 (Nat.pow_pos (by omega))
 rw [Nat.div_lt_iff_lt_mul (Nat.pow_pos (by omega)), Nat.mul_assoc, Nat.mul_comm 4294967296, ← Nat.pow_succ]
 exact Nat.mod_lt A h1
theorem rest_q (A y j : Nat) : A % (y * 4294967296 ^ (j + 1)) / 4294967296 ^ j / y = dg (A / y) j := by
 unfold dg
 rw [Nat.pow_succ, ← Nat.mul_assoc, Nat.div_div_eq_div_mul, Nat.mul_comm (4294967296 ^ j) y, Nat.mod_mul_right_div_self, Nat.div_div_eq_div_mul]
theorem rest_next (A y j : Nat) : A % (y * 4294967296 ^ (j + 1)) - 4294967296 ^ j * (dg (A / y) j * y) = A % (y * 4294967296 ^ j) := by
 have h1 : A % (y * 4294967296 ^ (j + 1)) % (y * 4294967296 ^ j) = A % (y * 4294967296 ^ j) := by
  rw [Nat.pow_succ, ← Nat.mul_assoc, Nat.mod_mul_right_mod]
 rw [← rest_q A y j, ← h1, Nat.div_div_eq_div_mul]
 have h2 := Nat.mod_add_div (A % (y * 4294967296 ^ (j + 1))) (y * 4294967296 ^ j)
 have e : 4294967296 ^ j * (A % (y * 4294967296 ^ (j + 1)) / (4294967296 ^ j * y) * y) = y * 4294967296 ^ j * (A % (y * 4294967296 ^ (j + 1)) / (y * 4294967296 ^ j)) := by
  rw [Nat.mul_comm (4294967296 ^ j) y, Nat.mul_comm _ y, Nat.mul_left_comm, Nat.mul_assoc]
 rw [e]; omega
theorem dg_div (R j k : Nat) : dg R (j + k) = dg (R / 4294967296 ^ j) k := by
 unfold dg; rw [Nat.div_div_eq_div_mul, ← Nat.pow_add]
theorem rest_le (A y j : Nat) : 4294967296 ^ j * (dg (A / y) j * y) ≤ A % (y * 4294967296 ^ (j + 1)) := by
 rw [← rest_q A y j, Nat.mul_comm]
 have h1 := Nat.div_mul_le_self (A % (y * 4294967296 ^ (j + 1)) / 4294967296 ^ j) y
 have h2 := Nat.div_mul_le_self (A % (y * 4294967296 ^ (j + 1))) (4294967296 ^ j)
 exact Nat.le_trans (Nat.mul_le_mul_right _ h1) h2
theorem rest_gt (A y j : Nat) (hy0 : 0 < y) : A % (y * 4294967296 ^ (j + 1)) < 4294967296 ^ j * ((dg (A / y) j + 1) * y) := by
 rw [← rest_q A y j, Nat.div_div_eq_div_mul]
 have h := Nat.lt_mul_div_succ (A % (y * 4294967296 ^ (j + 1))) (show 0 < 4294967296 ^ j * y from Nat.mul_pos (Nat.pow_pos (by omega)) hy0)
 generalize A % (y * 4294967296 ^ (j + 1)) = R at *
 generalize R / (4294967296 ^ j * y) = q at *
 generalize 4294967296 ^ j = M at *
 rw [Nat.mul_assoc, Nat.mul_comm y] at h
 exact h
end Go.Proofs.YtlblfgbpogljoaaGreatDoor

end
section
/- The package integer: division by one digit, and shifts by less than a digit. -/
namespace Go.Proofs.YtlblfgbpogljoaaGreatDoor
open Go Go.RowKit
open Vi
theorem short_r (x b i : Nat) : (x / 4294967296 ^ (i + 1) % b * 4294967296 + dg x i) % b = x / 4294967296 ^ i % b := by
 rw [div_succ x i, Nat.add_mod, Nat.mul_mod, Nat.mod_mod, ← Nat.mul_mod, ← Nat.add_mod]
 congr 1
 rw [Nat.mul_comm]; omega
theorem short_q (x b i : Nat) (hb : 0 < b) : (x / 4294967296 ^ (i + 1) % b * 4294967296 + dg x i) / b = dg (x / b) i := by
 have hr := Nat.mod_lt (x / 4294967296 ^ (i + 1)) hb
 have hd := dg_lt x i
 have e1 : x / b / 4294967296 ^ i = x / 4294967296 ^ i / b := by rw [Nat.div_div_eq_div_mul, Nat.div_div_eq_div_mul, Nat.mul_comm]
 have e2 : x / 4294967296 ^ i = b * (4294967296 * (x / 4294967296 ^ (i + 1) / b)) + (x / 4294967296 ^ (i + 1) % b * 4294967296 + dg x i) := by
  have h1 := div_succ x i
  have h2 := Nat.div_add_mod (x / 4294967296 ^ (i + 1)) b
  generalize x / 4294967296 ^ (i + 1) = y at *
  rw [h1, Nat.mul_left_comm]
  have h3 : 4294967296 * y = 4294967296 * (b * (y / b)) + 4294967296 * (y % b) := by rw [← Nat.mul_add, h2]
  omega
 have h3 : (x / 4294967296 ^ (i + 1) % b * 4294967296 + dg x i) / b < 4294967296 := by
  rw [Nat.div_lt_iff_lt_mul hb]
  have : (x / 4294967296 ^ (i + 1) % b + 1) * 4294967296 ≤ b * 4294967296 := Nat.mul_le_mul_right _ hr
  rw [Nat.add_mul] at this
  rw [Nat.mul_comm 4294967296 b]; omega
 generalize x / 4294967296 ^ (i + 1) % b * 4294967296 + dg x i = cur at *
 show cur / b = x / b / 4294967296 ^ i % 4294967296
 rw [e1, e2, Nat.mul_add_div hb, Nat.mul_add_mod, Nat.mod_eq_of_lt h3]
theorem or_shl32 (a b : Nat) (ha : a < 4294967296) (hb : b < 4294967296) : bits BinOp.or .u64 ((a : Int) * 4294967296) (b : Int) = ((a * 4294967296 + b : Nat) : Int) := by
 have e1 : (a : Int) * 4294967296 = ((a * 4294967296 : Nat) : Int) := by omega
 rw [e1, u64_or_nat _ _ (by omega) (by omega), nat_join 32 (a * 4294967296) b (by omega) (by omega)]
def shortFn (x b j : Nat) : Nat → Nat := fun p => if p < j then dg x p else dg (x / b) p
theorem shortFn_top (x b n m : Nat) (hx : x < 4294967296 ^ n) : arr .u32 (dg x) m = arr .u32 (shortFn x b n) m := by
 apply arr_congr; intro i _; unfold shortFn
 split
 ·rfl
 ·rw [dg_big x n i hx (by omega), dg_big (x / b) n i (Nat.lt_of_le_of_lt (Nat.div_le_self x b) hx) (by omega)]
theorem shortFn_at (x b i : Nat) : shortFn x b (i + 1) i = dg x i := by unfold shortFn; rw [if_pos (by omega)]
theorem shortFn_succ (x b i : Nat) : upd (shortFn x b (i + 1)) i (dg (x / b) i) = shortFn x b i := by
 funext k
 unfold upd shortFn
 by_cases h : k = i
 ·subst h; rw [if_pos rfl, if_neg (by omega)]
 ·rw [if_neg h]
  by_cases h2 : k < i
  ·rw [if_pos h2, if_pos (by omega)]
  ·rw [if_neg h2, if_neg (by omega)]
theorem shortFn_zero (x b m : Nat) : arr .u32 (shortFn x b 0) m = arr .u32 (dg (x / b)) m := by
 apply arr_congr; intro i _; unfold shortFn; rw [if_neg (by omega)]
def restD (x b j : Nat) : Nat := x / 4294967296 ^ j % b
theorem restD_top (x b n : Nat) (hx : x < 4294967296 ^ n) : restD x b n = 0 := by unfold restD; rw [Nat.div_eq_of_lt hx]; simp
theorem restD_zero (x b : Nat) : restD x b 0 = x % b := by unfold restD; rw [Nat.pow_zero, Nat.div_one]
def pre (j : Nat) : Int := (j : Int) - 1
set_option maxRecDepth 100000 in
set_option maxHeartbeats 800000 in
theorem short_c (x b n m c g : Nat) (w : World) (hx : x < 4294967296 ^ n) (hn : n ≤ 8589934592) (hnm : n ≤ m) (hg : w.heap[g]? = some (.cells (arr .u32 (dg x) m) 228 (0, 0))) (hb0 : 0 < b) (hb1 : b < 4294967296) :
    Calls Tryz.prog 212 #[.slice (some ⟨g, 0, none⟩) n c, .int .u32 (b : Int)] w fun e w' => e = .returned (.int .u32 ((x % b : Nat) : Int)) ∧ ∃ k, w' = (w.row g 228 (arr .u32 (dg (x / b)) m)).drewN k := by
 have hgl : g < w.heap.size := (Array.getElem?_eq_some_iff.1 hg).1
 have HS := Lib.hid (World.row_self w g 228 _ hg)
 have HT := Lib.hid (shortFn_top x b n m hx)
 have HR := Lib.hid (restD_top x b n hx)
 have hbi : (1 : Int) ≤ (b : Int) := by omega
 clear hg hx
 go_enter Tryz.func212, Tryz.ntmps212
 go_wp2_with fail
 go_loopw [5, 6] (fun r v wr => ∃ j k : Nat, j ≤ n ∧ v = .int .i64 (pre j) ∧ r = .int .u64 (restD x b j : Int) ∧ wr = (w.row g 228 (arr .u32 (shortFn x b j) m)).drewN k) (fun _ v _ => (intOf v + 1).toNat)
 case atStart => exact ⟨n, 0, Nat.le_refl _, rfl, by rw [HR.out]; rfl, by rw [← HT.out, HS.out]; rfl⟩
 case round =>
  obtain ⟨j, k, hj, rfl, rfl, rfl⟩ := hrel
  cases j with
  | zero =>
   have e : pre 0 = -1 := rfl
   have HZ := Lib.hid (shortFn_zero x b m)
   have HZ2 := Lib.hid (restD_zero x b)
   have hlt : restD x b 0 < b := Nat.mod_lt _ hb0
   rw [e]
   clear e
   go_wp2_with fail
   go_ret
   refine ⟨?_, k, by rw [HZ.out]⟩
   rw [← HZ2.out]; rfl
  | succ i =>
   have e : pre (i + 1) = (i : Int) := by unfold pre; omega
   rw [e]
   clear e
   have hlt : restD x b (i + 1) < b := Nat.mod_lt _ hb0
   have hd := dg_lt x i
   have hget := arr_get .u32 (shortFn x b (i + 1)) m i (by omega)
   rw [shortFn_at] at hget
   have hor := or_shl32 (restD x b (i + 1)) (dg x i) (by omega) hd
   obtain ⟨z, hz⟩ : ∃ z, z = restD x b (i + 1) * 4294967296 + dg x i := ⟨_, rfl⟩
   rw [← hz] at hor
   have hq : z / b = dg (x / b) i := by rw [hz]; exact short_q x b i hb0
   have hr : z % b = restD x b i := by rw [hz]; exact short_r x b i
   have HQ := Lib.hid hq
   have HRR := Lib.hid hr
   have HS3 := Lib.hid (shortFn_succ x b i)
   have hzb : z < 18446744073709551616 := by omega
   have hq1 : (z : Int).tdiv (b : Int) = (dg (x / b) i : Int) := by rw [← hq]; exact Int.ofNat_tdiv z b
   have hr1 : (z : Int).tmod (b : Int) = (restD x b i : Int) := by rw [← hr]; exact Int.ofNat_tmod z b
   have hq2 : (z : Int) / (b : Int) = (dg (x / b) i : Int) := by rw [← hq]; rfl
   have hr2 : (z : Int) % (b : Int) = (restD x b i : Int) := by rw [← hr]; rfl
   have hb2 : ((b : Int) == 0) = false := by rw [beq_eq_false_iff_ne]; omega
   have hdq := dg_lt (x / b) i
   clear hz hq hr
   go_wp2_with fail
   go_region
   go_wp2_with fail
   exact ⟨⟨i, k + 1, by omega, rfl, rfl, by rw [arr_set, HS3.out]⟩, by simp [intOf]⟩
def shl (x s i : Nat) : Nat := x % 4294967296 ^ i * 2 ^ s
theorem shl_succ (x s i : Nat) : shl x s (i + 1) = shl x s i + 4294967296 ^ i * (dg x i * 2 ^ s) := by
 unfold shl
 rw [mod_succ, Nat.add_mul, Nat.mul_assoc]
theorem pow_s (s : Nat) (h : s < 32) : ∃ r, 2 ^ s * r = 4294967296 ∧ 0 < r := by
 refine ⟨2 ^ (32 - s), ?_, Nat.pow_pos (by omega)⟩
 rw [← Nat.pow_add, show s + (32 - s) = 32 by omega]
theorem shl_top (x s i : Nat) (h : s < 32) : shl x s i / 4294967296 ^ i < 2 ^ s := by
 unfold shl
 rw [Nat.div_lt_iff_lt_mul (Nat.pow_pos (by omega)), Nat.mul_comm]
 exact Nat.mul_lt_mul_of_pos_left (Nat.mod_lt _ (Nat.pow_pos (by omega))) (Nat.pow_pos (by omega))
theorem shl_join (x s i : Nat) (h : s < 32) : shl x s i / 4294967296 ^ i + dg x i * 2 ^ s % 4294967296 < 4294967296 ∧ dg x i * 2 ^ s % 4294967296 % 2 ^ s = 0 := by
 obtain ⟨r, hr, hr0⟩ := pow_s s h
 have h1 := shl_top x s i h
 have h2 : dg x i * 2 ^ s % 4294967296 = dg x i % r * 2 ^ s := by
  rw [← hr, Nat.mul_comm (2 ^ s) r, Nat.mul_mod_mul_right]
 rw [h2, Nat.mul_mod_left]
 refine ⟨?_, rfl⟩
 have h3 := Nat.mod_lt (dg x i) hr0
 have h4 : (dg x i % r + 1) * 2 ^ s ≤ r * 2 ^ s := Nat.mul_le_mul_right _ h3
 rw [Nat.add_mul, Nat.mul_comm r, hr] at h4
 omega
theorem shl_at (x s i : Nat) (h : s < 32) : dg (shl x s i) i = shl x s i / 4294967296 ^ i := by
 have h1 := (shl_join x s i h).1
 unfold dg
 exact Nat.mod_eq_of_lt (by omega)
theorem shl_dg (x s i : Nat) (h : s < 32) : dg (shl x s (i + 1)) i = dg (shl x s i) i + dg x i * 2 ^ s % 4294967296 := by
 have h1 := (shl_join x s i h).1
 rw [shl_at x s i h, shl_succ]
 unfold dg
 rw [Nat.add_mul_div_left _ _ (Nat.pow_pos (by omega)), ← Nat.add_mod_mod]
 exact Nat.mod_eq_of_lt h1
theorem shl_dg1 (x s i : Nat) (h : s < 32) : dg (shl x s (i + 1)) (i + 1) = dg x i * 2 ^ s / 4294967296 := by
 have h1 := (shl_join x s i h).1
 have hd := dg_lt x i
 have h2 : (2 : Nat) ^ s < 4294967296 := by
  have : (2 : Nat) ^ s < 2 ^ 32 := Nat.pow_lt_pow_right (by omega) h
  omega
 rw [shl_at x s (i + 1) h, shl_succ, Nat.pow_succ, ← Nat.div_div_eq_div_mul, Nat.add_mul_div_left _ _ (Nat.pow_pos (by omega))]
 generalize dg x i * 2 ^ s = z at *
 generalize shl x s i / 4294967296 ^ i = y at *
 omega
theorem shl_other (x s i k : Nat) (h : s < 32) (h1 : k ≠ i) (h2 : k ≠ i + 1) : dg (shl x s (i + 1)) k = dg (shl x s i) k := by
 rcases Nat.lt_or_gt_of_ne h1 with h3 | h3
 ·rw [shl_succ, dg_add_low _ _ _ _ h3]
 ·have e : ∀ j, j ≤ i + 1 → dg (shl x s j) k = 0 := by
    intro j hj
    have h4 : shl x s j < 4294967296 ^ (j + 1) := by
     have h5 := shl_top x s j h
     rw [Nat.div_lt_iff_lt_mul (Nat.pow_pos (by omega))] at h5
     have h6 : (2 : Nat) ^ s ≤ 4294967296 := by
      have : (2 : Nat) ^ s ≤ 2 ^ 32 := Nat.pow_le_pow_right (by omega) (by omega)
      omega
     rw [Nat.pow_succ, Nat.mul_comm]
     exact Nat.lt_of_lt_of_le h5 (Nat.mul_le_mul_right _ h6)
    exact dg_big _ (j + 1) k h4 (by omega)
  rw [e _ (Nat.le_refl _), e _ (by omega)]
theorem shl_rows (x s i n : Nat) (h : s < 32) : arr .u32 (upd (upd (dg (shl x s i)) i (dg (shl x s i) i + dg x i * 2 ^ s % 4294967296)) (i + 1) (dg x i * 2 ^ s / 4294967296)) n = arr .u32 (dg (shl x s (i + 1))) n := by
 apply arr_congr
 intro k _
 unfold upd
 by_cases h2 : k = i + 1
 ·subst h2; rw [if_pos rfl, shl_dg1 x s i h]
 ·rw [if_neg h2]
  by_cases h1 : k = i
  ·subst h1; rw [if_pos rfl, shl_dg x s k h]
  ·rw [if_neg h1, shl_other x s i k h h1 h2]
theorem shl_zero (x s n : Nat) : arr .u32 (fun _ => 0) n = arr .u32 (dg (shl x s 0)) n := by
 apply arr_congr; intro k _; unfold shl; rw [Nat.pow_zero, Nat.mod_one, Nat.zero_mul, dg_zero]
theorem shl_all (x s n : Nat) (hx : x < 4294967296 ^ n) : shl x s n = x * 2 ^ s := by unfold shl; rw [Nat.mod_eq_of_lt hx]
theorem or_low (a b s : Nat) (h : a + b < 4294967296) (ha : a < 2 ^ s) (hb : b % 2 ^ s = 0) : bits BinOp.or .u32 (a : Int) (b : Int) = ((a + b : Nat) : Int) := by
 rw [u32_or_nat _ _ (by omega) (by omega), Nat.or_comm, nat_join s b a hb ha, Nat.add_comm]
set_option maxRecDepth 100000 in
set_option maxHeartbeats 800000 in
theorem shifted_c (x s n c g : Nat) (w : World) (hx : x < 4294967296 ^ n) (hn : n ≤ 4294967296) (hr : Row32 w g n (dg x)) (hg : g < w.heap.size) (hs : s < 32) :
    Calls Tryz.prog 214 #[.slice (some ⟨g, 0, none⟩) n c, .int .i64 (s : Int)] w fun e w' => e = .returned (.slice (some ⟨w.heap.size, 0, none⟩) (n + 1) (n + 1)) ∧ ∃ k, w' = (w.alloc (.cells (arr .u32 (dg (x * 2 ^ s)) (n + 1)) 228)).drewN k := by
 have HMK := Lib.hid (make32s n · (by omega))
 have HZ := Lib.hid (shl_zero x s (n + 1))
 have HA := Lib.hid (shl_all x s n hx)
 have HR := Lib.hid hr
 clear hr hx
 go_enter Tryz.func214, Tryz.ntmps214
 go_wp2_with fail
 have hmk := HMK.out
 simp only [hmk]
 clear hmk
 go_wp2_with fail
 go_loopw [15] (fun v wr => ∃ i : Nat, i ≤ n ∧ v = .int .i64 i ∧ wr = w.alloc (.cells (arr .u32 (dg (shl x s i)) (n + 1)) 228)) (fun v _ => n - (intOf v).toNat)
 case atStart => exact ⟨0, Nat.zero_le _, rfl, by rw [HZ.out]⟩
 case round =>
  obtain ⟨i, hi, rfl, rfl⟩ := hrel
  by_cases hlt : i < n
  ·have hcell := HR.out i hlt
   have hget := arr_get .u32 (dg (shl x s i)) (n + 1) i (by omega)
   have hd := dg_lt x i
   obtain ⟨z, hz⟩ : ∃ z, z = dg x i * 2 ^ s := ⟨_, rfl⟩
   have hz63 : z < 9223372036854775808 := by
    have h1 : (2 : Nat) ^ s ≤ 2 ^ 31 := Nat.pow_le_pow_right (by omega) (by omega)
    rw [hz]
    calc dg x i * 2 ^ s ≤ 4294967295 * 2 ^ 31 := Nat.mul_le_mul (by omega) h1
     _ < 9223372036854775808 := by omega
   have hjn := shl_join x s i hs
   have hor := or_low (dg (shl x s i) i) (z % 4294967296) s (by rw [shl_at x s i hs, hz]; exact hjn.1) (by rw [shl_at x s i hs]; exact shl_top x s i hs) (by rw [hz]; exact hjn.2)
   have HRW := Lib.hid (shl_rows x s i (n + 1) hs)
   rw [← hz] at HRW
   have ez : IntKind.u64.wrap ((dg x i : Int) * 2 ^ s) = (z : Int) := by
    rw [IntKind.wrap_u64, hz, show (2 : Int) ^ s = ((2 ^ s : Nat) : Int) by rw [Int.natCast_pow]; rfl, ← Int.natCast_mul, ← hz]
    omega
   have hget1 := arr_get .u32 (dg (shl x s i)) (n + 1) (i + 1) (by omega)
   clear hjn hz
   go_wp2_with fail
   refine ⟨⟨i + 1, by omega, by go_num, ?_⟩, by simp [intOf]; omega⟩
   have e1 : (z : Int) % 4294967296 = ((z % 4294967296 : Nat) : Int) := rfl
   have e2 : (z : Int) / 4294967296 = ((z / 4294967296 : Nat) : Int) := rfl
   rw [e1, hor, arr_set, e2, arr_set, HRW.out]
  ·have e : i = n := by omega
   subst e
   go_wp2_with fail
   go_ret
   exact ⟨rfl, 0, by rw [HA.out]; rfl⟩
end Go.Proofs.YtlblfgbpogljoaaGreatDoor

end
section
/- The package integer: the ring operations. -/
namespace Go.Proofs.YtlblfgbpogljoaaGreatDoor
open Go Go.RowKit
open Vi
set_option maxHeartbeats 400000 in
theorem Negate_c (x : Int) (w : World) : Calls Tryz.prog 147 #[.agg #[.bool (sg x), .string (mg x)]] w fun e w' => e = .returned (.agg #[.bool (sg (-x)), .string (mg (-x))]) ∧ Below w.heap.size w w' := by
 have hz : -x = if !sg x then -((x.natAbs : Nat) : Int) else (x.natAbs : Nat) := by
  by_cases h : x < 0
  ·rw [sg_true x h]; simp; omega
  ·rw [sg_false x (by omega)]; simp; omega
 have Hz := Lib.hid hz
 clear hz
 go_enter Tryz.func147, Tryz.ntmps147
 (go_wp2_with fail; refine (made_c _ (-x) x.natAbs Hz.out _).mono ?_; rintro e w' ⟨rfl, hb⟩; (first | (with_reducible (have hb2 := World.plus_of_below ((World.below_plus _ _).trans (hb.mono (World.size_plus _ _)))); obtain ⟨u, rfl⟩ := hb2) | (obtain ⟨u, rfl⟩ := World.plus_of_below hb)); clear hb)
 go_wp2_with fail
 refine bodyPost_ret (by simp [results, Tryz.results147, go_sem]; rfl) rfl ?_
 exact ⟨rfl, by (exact belA)⟩
theorem mul_sign (x y : Int) : x * y = if (!sg x == sg y) then -((x.natAbs * y.natAbs : Nat) : Int) else (x.natAbs * y.natAbs : Nat) := by
 rcases Int.lt_or_le x 0 with h | h <;> rcases Int.lt_or_le y 0 with h2 | h2
 ·rw [sg_true x h, sg_true y h2]
  simp only [beq_self_eq_true, Bool.not_true, Bool.false_eq_true, if_false]
  rw [Int.natCast_mul, nAbs_of_neg x h, nAbs_of_neg y h2, Int.neg_mul_neg]
 ·rw [sg_true x h, sg_false y h2]
  simp only [show (true == false) = false from rfl, Bool.not_false, if_true]
  rw [Int.natCast_mul, nAbs_of_neg x h, nAbs_of_nonneg y h2, Int.neg_mul, Int.neg_neg]
 ·rw [sg_false x h, sg_true y h2]
  simp only [show (false == true) = false from rfl, Bool.not_false, if_true]
  rw [Int.natCast_mul, nAbs_of_nonneg x h, nAbs_of_neg y h2, Int.mul_neg, Int.neg_neg]
 ·rw [sg_false x h, sg_false y h2]
  simp only [beq_self_eq_true, Bool.not_true, Bool.false_eq_true, if_false]
  rw [Int.natCast_mul, nAbs_of_nonneg x h, nAbs_of_nonneg y h2]
set_option maxHeartbeats 400000 in
theorem Mul_c (x y : Int) (w : World) (hx : (mg x).size ≤ 4294967296) (hy : (mg y).size ≤ 4294967296) : Calls Tryz.prog 129 #[.agg #[.bool (sg x), .string (mg x)], .agg #[.bool (sg y), .string (mg y)]] w fun e w' => e = .returned (.agg #[.bool (sg (x * y)), .string (mg (x * y))]) ∧ Below w.heap.size w w' := by
 have hz := Lib.hid (mul_sign x y)
 go_enter Tryz.func129, Tryz.ntmps129
 go_wp2
 ((first | (with_reducible refine wp_region_steady_plus_t 11 (by kernel_rfl) (by kernel_rfl) ?_) | refine wp_region_steady_t 11 (by kernel_rfl) (by kernel_rfl) ?_); simp only [List.take_succ_cons, List.take_zero, List.drop_succ_cons, List.drop_zero]; repeat go_big_quiet_step (first | (go_at_call 169; refine Calls.steady (mul_c x.natAbs y.natAbs _ hx hy)) | (go_at_call 167; refine Calls.steady (made_c _ (x * y) (x.natAbs * y.natAbs) hz.out _)))); (refine wpQuiet_nil ?_; rintro _ ⟨u, rfl⟩)
 go_wp2
 refine bodyPost_ret (by simp [results, Tryz.results129, go_sem]; rfl) rfl ?_
 exact ⟨rfl, by (exact belA)⟩
theorem add_same (x y : Int) (h : sg x = sg y) : x + y = if sg x then -((x.natAbs + y.natAbs : Nat) : Int) else (x.natAbs + y.natAbs : Nat) := by
 unfold sg at h ⊢
 rw [decide_eq_decide] at h
 split
 ·rename_i h1; simp at h1; omega
 ·rename_i h1; simp at h1; omega
theorem add_left (x y : Int) (h : sg x ≠ sg y) (hle : y.natAbs ≤ x.natAbs) : x + y = if sg x then -((x.natAbs - y.natAbs : Nat) : Int) else (x.natAbs - y.natAbs : Nat) := by
 unfold sg at h ⊢
 rw [ne_eq, decide_eq_decide] at h
 split
 ·rename_i h1; simp at h1; omega
 ·rename_i h1; simp at h1; omega
theorem add_right (x y : Int) (h : sg x ≠ sg y) (hle : x.natAbs ≤ y.natAbs) : x + y = if sg y then -((y.natAbs - x.natAbs : Nat) : Int) else (y.natAbs - x.natAbs : Nat) := by
 rw [Int.add_comm]; exact add_left y x (fun e => h e.symm) hle
theorem cmpN_ge (x y : Nat) (h : y ≤ x) : ¬ cmpN x y < 0 := by unfold cmpN; repeat' split
                                                               all_goals omega
theorem cmpN_lt (x y : Nat) (h : x < y) : cmpN x y < 0 := by unfold cmpN; repeat' split
                                                             all_goals omega
set_option maxHeartbeats 400000 in
theorem Add_c (x y : Int) (w : World) (hx : (mg x).size ≤ 4294967296) (hy : (mg y).size ≤ 4294967296) : Calls Tryz.prog 152 #[.agg #[.bool (sg x), .string (mg x)], .agg #[.bool (sg y), .string (mg y)]] w fun e w' => e = .returned (.agg #[.bool (sg (x + y)), .string (mg (x + y))]) ∧ Below w.heap.size w w' := by
 by_cases h : sg x = sg y
 ·have hz := Lib.hid (add_same x y h)
  have hb : (sg x == sg y) = true := by simp [h]
  clear h
  go_enter Tryz.func152, Tryz.ntmps152
  go_wp2
  ((first | (with_reducible refine wp_region_steady_plus_t 8 (by kernel_rfl) (by kernel_rfl) ?_) | refine wp_region_steady_t 8 (by kernel_rfl) (by kernel_rfl) ?_); simp only [List.take_succ_cons, List.take_zero, List.drop_succ_cons, List.drop_zero]; repeat go_big_quiet_step (first | (go_at_call 182; refine Calls.steady (add_c x.natAbs y.natAbs _ hx hy)) | (go_at_call 167; refine Calls.steady (made_c _ (x + y) (x.natAbs + y.natAbs) hz.out _)))); (refine wpQuiet_nil ?_; rintro _ ⟨u, rfl⟩)
  go_wp2
  refine bodyPost_ret (by simp [results, Tryz.results152, go_sem]; rfl) rfl ?_
  exact ⟨rfl, by (exact belA)⟩
 ·have hb : (sg x == sg y) = false := by simp [h]
  by_cases hle : y.natAbs ≤ x.natAbs
  ·have hz := Lib.hid (add_left x y h hle)
   have hc := cmpN_ge _ _ hle
   clear h
   go_enter Tryz.func152, Tryz.ntmps152
   (go_wp2_with fail; refine (compare_c x.natAbs y.natAbs _ hx hy).mono ?_; rintro e w' ⟨rfl, hb⟩; (first | (with_reducible (have hb2 := World.plus_of_below ((World.below_plus _ _).trans (hb.mono (World.size_plus _ _)))); obtain ⟨u, rfl⟩ := hb2) | (obtain ⟨u, rfl⟩ := World.plus_of_below hb)); clear hb)
   go_wp2_with fail
   ((first | (with_reducible refine wp_region_steady_plus_t 8 (by kernel_rfl) (by kernel_rfl) ?_) | refine wp_region_steady_t 8 (by kernel_rfl) (by kernel_rfl) ?_); simp only [List.take_succ_cons, List.take_zero, List.drop_succ_cons, List.drop_zero]; repeat go_big_quiet_step (first | (go_at_call 184; refine Calls.steady (sub_c x.natAbs y.natAbs _ hx hy hle)) | (go_at_call 167; refine Calls.steady (made_c _ (x + y) (x.natAbs - y.natAbs) hz.out _)))); (refine wpQuiet_nil ?_; rintro _ ⟨u, rfl⟩)
   go_wp2
   refine bodyPost_ret (by simp [results, Tryz.results152, go_sem]; rfl) rfl ?_
   exact ⟨rfl, by (exact belA)⟩
  ·have hz := Lib.hid (add_right x y h (by omega))
   have hc := cmpN_lt x.natAbs y.natAbs (by omega)
   clear h
   go_enter Tryz.func152, Tryz.ntmps152
   (go_wp2_with fail; refine (compare_c x.natAbs y.natAbs _ hx hy).mono ?_; rintro e w' ⟨rfl, hb⟩; (first | (with_reducible (have hb2 := World.plus_of_below ((World.below_plus _ _).trans (hb.mono (World.size_plus _ _)))); obtain ⟨u, rfl⟩ := hb2) | (obtain ⟨u, rfl⟩ := World.plus_of_below hb)); clear hb)
   go_wp2_with fail
   ((first | (with_reducible refine wp_region_steady_plus_t 8 (by kernel_rfl) (by kernel_rfl) ?_) | refine wp_region_steady_t 8 (by kernel_rfl) (by kernel_rfl) ?_); simp only [List.take_succ_cons, List.take_zero, List.drop_succ_cons, List.drop_zero]; repeat go_big_quiet_step (first | (go_at_call 184; refine Calls.steady (sub_c y.natAbs x.natAbs _ hy hx (by omega))) | (go_at_call 167; refine Calls.steady (made_c _ (x + y) (y.natAbs - x.natAbs) hz.out _)))); (refine wpQuiet_nil ?_; rintro _ ⟨u, rfl⟩)
   go_wp2
   refine bodyPost_ret (by simp [results, Tryz.results152, go_sem]; rfl) rfl ?_
   exact ⟨rfl, by (exact belA)⟩
theorem mg_size_neg (y : Int) : (mg (-y)).size = (mg y).size := by unfold mg; rw [Int.natAbs_neg]
set_option maxHeartbeats 400000 in
theorem Sub_c (x y : Int) (w : World) (hx : (mg x).size ≤ 4294967296) (hy : (mg y).size ≤ 4294967296) : Calls Tryz.prog 197 #[.agg #[.bool (sg x), .string (mg x)], .agg #[.bool (sg y), .string (mg y)]] w fun e w' => e = .returned (.agg #[.bool (sg (x - y)), .string (mg (x - y))]) ∧ Below w.heap.size w w' := by
 rw [show x - y = x + -y by omega]
 have hy2 : (mg (-y)).size ≤ 4294967296 := by rw [mg_size_neg]; exact hy
 go_enter Tryz.func197, Tryz.ntmps197
 go_wp2
 ((first | (with_reducible refine wp_region_steady_plus_t 4 (by kernel_rfl) (by kernel_rfl) ?_) | refine wp_region_steady_t 4 (by kernel_rfl) (by kernel_rfl) ?_); simp only [List.take_succ_cons, List.take_zero, List.drop_succ_cons, List.drop_zero]; repeat go_big_quiet_step (first | (go_at_call 147; refine Calls.steady (Negate_c y _)) | (go_at_call 152; refine Calls.steady (Add_c x (-y) _ hx hy2)))); (refine wpQuiet_nil ?_; rintro _ ⟨u, rfl⟩)
 go_wp2
 refine bodyPost_ret (by simp [results, Tryz.results197, go_sem]; rfl) rfl ?_
 exact ⟨rfl, by (exact belA)⟩
end Go.Proofs.YtlblfgbpogljoaaGreatDoor

end
section
/- The package integer: DivMod, where div returns what it should; the examples of known. -/
namespace Go.Proofs.YtlblfgbpogljoaaGreatDoor
open Go Go.RowKit
open Vi
theorem sg_neg_nat (m : Nat) (h : 0 < m) : sg (-(m : Int)) = true := sg_true _ (by omega)
theorem quo_plain (x y : Int) (h : sg x = false ∨ x.natAbs % y.natAbs = 0) : x / y = if (!sg x == sg y) then -((x.natAbs / y.natAbs : Nat) : Int) else (x.natAbs / y.natAbs : Nat) := by
 obtain ⟨m, hm⟩ := Int.eq_nat_or_neg x
 obtain ⟨n, hn⟩ := Int.eq_nat_or_neg y
 have key : ((-(m : Int)) / (n : Int) : Int) = -((m / n : Nat) : Int) ∨ 0 < m % n := by
  by_cases h0 : m % n = 0
  ·left
   have : (m : Int) = (n : Int) * ((m / n : Nat) : Int) := by
    have := Nat.div_add_mod m n
    rw [h0, Nat.add_zero] at this
    exact_mod_cast this.symm
   by_cases hn0 : n = 0
   ·subst hn0; simp
   ·rw [this, ← Int.mul_neg, Int.mul_ediv_cancel_left _ (by omega)]
  ·right; omega
 rcases hm with rfl | rfl <;> rcases hn with rfl | rfl
 ·simp only [Int.natAbs_natCast, sg_nat, beq_self_eq_true, Bool.not_true, Bool.false_eq_true, if_false]
  exact (Int.natCast_ediv m n).symm ▸ rfl
 ·simp only [Int.natAbs_natCast, Int.natAbs_neg, sg_nat]
  by_cases hn0 : n = 0
  ·subst hn0; simp
  ·rw [sg_neg_nat n (by omega), Int.ediv_neg]
   rfl
 ·simp only [Int.natAbs_natCast, Int.natAbs_neg, sg_nat] at h ⊢
  by_cases hm0 : m = 0
  ·subst hm0; simp
  ·rw [sg_neg_nat m (by omega)] at h ⊢
   rcases key with key | key
   ·rw [key]; rfl
   ·simp at h; omega
 ·simp only [Int.natAbs_natCast, Int.natAbs_neg] at h ⊢
  by_cases hm0 : m = 0
  ·subst hm0; simp
  ·rw [sg_neg_nat m (by omega)] at h ⊢
   by_cases hn0 : n = 0
   ·subst hn0; simp
   ·rw [sg_neg_nat n (by omega)] at ⊢
    rcases key with key | key
    ·rw [Int.ediv_neg, key]; simp
    ·simp at h; omega
theorem quo_up (x y : Int) (hy : y ≠ 0) (hs : sg x = true) (h : x.natAbs % y.natAbs ≠ 0) : x / y = if (!sg x == sg y) then -((x.natAbs / y.natAbs + 1 : Nat) : Int) else (x.natAbs / y.natAbs + 1 : Nat) := by
 have key : ∀ m n : Nat, m % n ≠ 0 → 0 < n → (-(m : Int)) / (n : Int) = -((m / n + 1 : Nat) : Int) := fun m n h0 hn => by
  have e := Nat.div_add_mod m n
  have hl := Nat.mod_lt m hn
  have e2 : (-(m : Int)) = (n : Int) * (-((m / n + 1 : Nat) : Int)) + ((n - m % n : Nat) : Int) := by
   have h1 : ((n - m % n : Nat) : Int) = (n : Int) - ((m % n : Nat) : Int) := by omega
   have h3 : ((m / n + 1 : Nat) : Int) = ((m / n : Nat) : Int) + 1 := by omega
   rw [h1, h3, Int.mul_neg, Int.mul_add, Int.mul_one]
   have : (m : Int) = (n : Int) * ((m / n : Nat) : Int) + ((m % n : Nat) : Int) := by exact_mod_cast e.symm
   omega
  rw [e2, Int.mul_add_ediv_left _ _ (by omega), Int.ediv_eq_zero_of_lt (by omega) (by omega), Int.add_zero]
 obtain ⟨n, hn⟩ := Int.eq_nat_or_neg y
 have hx : x = -((x.natAbs : Nat) : Int) := by unfold sg at hs; simp at hs; omega
 rcases hn with rfl | rfl
 ·rw [hs, sg_nat]
  simp only [Int.natAbs_natCast] at h ⊢
  rw [hx, Int.natAbs_neg, Int.natAbs_natCast, key _ _ h (by omega)]; rfl
 ·rw [hs, sg_neg_nat n (by omega)]
  simp only [Int.natAbs_neg, Int.natAbs_natCast] at h ⊢
  rw [hx, Int.natAbs_neg, Int.natAbs_natCast, Int.ediv_neg, key _ _ h (by omega)]; simp
theorem rem_plain (x y : Int) (h : sg x = false ∨ x.natAbs % y.natAbs = 0) : x % y = ((x.natAbs % y.natAbs : Nat) : Int) := by
 rw [Int.emod_def, quo_plain x y h]
 obtain ⟨m, hm⟩ := Int.eq_nat_or_neg x
 obtain ⟨n, hn⟩ := Int.eq_nat_or_neg y
 have e : (m : Int) = (n : Int) * ((m / n : Nat) : Int) + ((m % n : Nat) : Int) := by exact_mod_cast (Nat.div_add_mod m n).symm
 rcases hm with rfl | rfl <;> rcases hn with rfl | rfl
 ·simp only [Int.natAbs_natCast, sg_nat, beq_self_eq_true, Bool.not_true, Bool.false_eq_true, if_false]; omega
 ·simp only [Int.natAbs_natCast, Int.natAbs_neg, sg_nat]
  by_cases hn0 : n = 0
  ·subst hn0; simp
  ·rw [sg_neg_nat n (by omega)]
   simp only [show (false == true) = false from rfl, Bool.not_false, if_true, Int.neg_mul_neg]; omega
 ·simp only [Int.natAbs_natCast, Int.natAbs_neg, sg_nat] at h ⊢
  by_cases hm0 : m = 0
  ·subst hm0; simp
  ·rw [sg_neg_nat m (by omega)] at h ⊢
   have h0 : m % n = 0 := by simpa using h
   simp only [show (true == false) = false from rfl, Bool.not_false, if_true, Int.mul_neg]; omega
 ·simp only [Int.natAbs_natCast, Int.natAbs_neg] at h ⊢
  by_cases hm0 : m = 0
  ·subst hm0; simp
  ·rw [sg_neg_nat m (by omega)] at h ⊢
   have h0 : m % n = 0 := by simpa using h
   by_cases hn0 : n = 0
   ·subst hn0; simp at h0; omega
   ·rw [sg_neg_nat n (by omega)]
    simp only [beq_self_eq_true, Bool.not_true, Bool.false_eq_true, if_false, Int.neg_mul]; omega
theorem rem_up (x y : Int) (hy : y ≠ 0) (hs : sg x = true) (h : x.natAbs % y.natAbs ≠ 0) : x % y = ((y.natAbs - x.natAbs % y.natAbs : Nat) : Int) := by
 rw [Int.emod_def, quo_up x y hy hs h]
 have hx : x = -((x.natAbs : Nat) : Int) := by unfold sg at hs; simp at hs; omega
 have hl := Nat.mod_lt x.natAbs (y := y.natAbs) (by omega)
 have e : ((x.natAbs : Nat) : Int) = ((y.natAbs : Nat) : Int) * ((x.natAbs / y.natAbs : Nat) : Int) + ((x.natAbs % y.natAbs : Nat) : Int) := by exact_mod_cast (Nat.div_add_mod x.natAbs y.natAbs).symm
 have h1 : ((y.natAbs - x.natAbs % y.natAbs : Nat) : Int) = (y.natAbs : Int) - ((x.natAbs % y.natAbs : Nat) : Int) := by omega
 have h3 : ((x.natAbs / y.natAbs + 1 : Nat) : Int) = ((x.natAbs / y.natAbs : Nat) : Int) + 1 := by omega
 rw [h1, h3, hs]
 by_cases hy2 : y < 0
 ·rw [sg_true y hy2]
  simp only [beq_self_eq_true, Bool.not_true, Bool.false_eq_true, if_false]
  have : y * ((x.natAbs / y.natAbs : Nat) + 1 : Int) = -((y.natAbs : Int) * (x.natAbs / y.natAbs : Nat) + (y.natAbs : Int)) := by
   rw [Int.mul_add, Int.mul_one]
   have hy3 : (y.natAbs : Int) = -y := nAbs_of_neg y hy2
   rw [hy3, Int.neg_mul]; omega
  omega
 ·rw [sg_false y (by omega)]
  simp only [show (true == false) = false from rfl, Bool.not_false, if_true, Int.mul_neg]
  have : y * ((x.natAbs / y.natAbs : Nat) + 1 : Int) = ((y.natAbs : Int) * (x.natAbs / y.natAbs : Nat) + (y.natAbs : Int)) := by
   rw [Int.mul_add, Int.mul_one, nAbs_of_nonneg y (by omega)]
  omega
def DivOk (x y : Nat) : Prop := ∀ w : World, Calls Tryz.prog 189 #[.string (mag x), .string (mag y)] w fun e w' => e = .returned (.tuple #[.string (mag (x / y)), .string (mag (x % y))]) ∧ Below w.heap.size w w'
set_option maxRecDepth 100000 in
set_option maxHeartbeats 400000 in
theorem div_small (x y : Nat) (hx : fits8 x = true) (hy : fits8 y = true) (h0 : 0 < y) : DivOk x y := by
 intro w
 have hx2 : x < 2 ^ 64 := by rw [fits8_iff] at hx; simpa using hx
 have hy2 : y < 2 ^ 64 := by rw [fits8_iff] at hy; simpa using hy
 have sx : (mag x).size ≤ 4294967296 := by have : (mag x).size ≤ 8 := (by simpa [fits8] using hx); omega
 have sy : (mag y).size ≤ 4294967296 := by have : (mag y).size ≤ 8 := (by simpa [fits8] using hy); omega
 have hwx := wv_of x hx
 have hwy := wv_of y hy
 have hb : ((y : Int) == 0) = false := by rw [beq_eq_false_iff_ne]; omega
 have hne : ¬ (y : Int) = 0 := by omega
 obtain ⟨q, hq⟩ : ∃ q, q = x / y := ⟨_, rfl⟩
 obtain ⟨r, hr⟩ : ∃ r, r = x % y := ⟨_, rfl⟩
 have hq2 : q < 2 ^ 64 := hq ▸ Nat.lt_of_le_of_lt (Nat.div_le_self _ _) hx2
 have hr2 : r < 2 ^ 64 := hr ▸ Nat.lt_of_le_of_lt (Nat.mod_le _ _) hx2
 rw [← hq, ← hr]
 have H1 := Lib.hid hq2
 have H2 := Lib.hid hr2
 have e1 : (x : Int).tdiv (y : Int) = (q : Int) := by rw [hq]; exact Int.ofNat_tdiv x y
 have e2 : (x : Int).tmod (y : Int) = (r : Int) := by rw [hr]; exact Int.ofNat_tmod x y
 have e3 : IntKind.u64.wrap (q : Int) = (q : Int) := u64_of_nat q hq2
 have e4 : IntKind.u64.wrap (r : Int) = (r : Int) := u64_of_nat r hr2
 clear hq2 hr2 hq hr
 go_enter Tryz.func189, Tryz.ntmps189
 go_wp2_with fail
 refine (words_c x y _ sx sy).mono ?_
 rintro e w' ⟨rfl, rfl⟩
 rw [hwx, hwy, hx, hy]
 go_wp2_with fail
 ((first | (with_reducible refine wp_region_steady_plus (by kernel_rfl) (by kernel_rfl) ?_) | refine wp_region_steady (by kernel_rfl) (by kernel_rfl) ?_); repeat go_big_quiet_step (first | (go_at_call_of 168 (Value.int .u64 (q : Int)); refine Calls.steady (magnitude_c q _ H1.out)) | (go_at_call_of 168 (Value.int .u64 (r : Int)); refine Calls.steady (magnitude_c r _ H2.out)))); (refine wpQuiet_nil ?_; rintro _ ⟨u, rfl⟩)
 go_wp2_with fail
 go_ret2
 exact ⟨rfl, by (exact belA)⟩
theorem size_mag_mono (a b : Nat) (h : a ≤ b) : (mag a).size ≤ (mag b).size := by rw [size_mag, size_mag]; exact nd_mono 256 (by omega) a b h
theorem mg_empty_not (y : Int) (h : y ≠ 0) : (mg y).toList.isEmpty = false := by rw [mg_isEmpty]; simpa using h
theorem mag_empty_of (y : Nat) (h : y = 0) : (mag y).toList.isEmpty = true := by rw [mag_isEmpty, h]; rfl
theorem mag_empty_not (y : Nat) (h : y ≠ 0) : (mag y).toList.isEmpty = false := by rw [mag_isEmpty]; simpa using h
set_option maxHeartbeats 800000 in
theorem DivMod_of (x y : Int) (w : World) (hy : y ≠ 0) (sx : (mg x).size ≤ 4294967295) (sy : (mg y).size ≤ 4294967296) (hd : DivOk x.natAbs y.natAbs) : Calls Tryz.prog 198 #[.agg #[.bool (sg x), .string (mg x)], .agg #[.bool (sg y), .string (mg y)]] w fun e w' => e = .returned (.tuple #[.agg #[.bool (sg (x / y)), .string (mg (x / y))], .agg #[.bool (sg (x % y)), .string (mg (x % y))], .int .i64 0]) ∧ Below w.heap.size w w' := by
 have he := mg_empty_not y hy
 have hl := Nat.mod_lt x.natAbs (y := y.natAbs) (by omega)
 have h1 : mag 1 = ⟨#[1]⟩ := by decide
 obtain ⟨q, hq⟩ : ∃ q, q = x.natAbs / y.natAbs := ⟨_, rfl⟩
 obtain ⟨r, hr⟩ : ∃ r, r = x.natAbs % y.natAbs := ⟨_, rfl⟩
 have Hd : Hid (∀ w : World, Calls Tryz.prog 189 #[.string (mag x.natAbs), .string (mag y.natAbs)] w fun e w' => e = .returned (.tuple #[.string (mag q), .string (mag r)]) ∧ Below w.heap.size w w') := Lib.hid (by rw [hq, hr]; exact hd)
 clear hd
 by_cases h : sg x = false ∨ x.natAbs % y.natAbs = 0
 ·have Hq := Lib.hid (quo_plain x y h)
  have Hr := Lib.hid (rem_plain x y h)
  rw [← hq] at Hq
  rw [← hr] at Hr h
  have H0 := Lib.hid h
  clear hq hr hl h1 h
  cases hs : sg x
  ·have Hz : Hid (x / y = if sg y then -(q : Int) else q) := by rw [hs] at Hq; have h9 := Hq.out; refine Lib.hid (h9.trans ?_); cases sg y <;> rfl
   have Hz2 : Hid (x % y = if false then -(r : Int) else r) := Hr
   go_enter Tryz.func198, Tryz.ntmps198
   (go_wp2_with fail; refine (Hd.out _).mono ?_; rintro e w' ⟨rfl, hb⟩; (first | (with_reducible (have hb2 := World.plus_of_below ((World.below_plus _ _).trans (hb.mono (World.size_plus _ _)))); obtain ⟨u, rfl⟩ := hb2) | (obtain ⟨u, rfl⟩ := World.plus_of_below hb)); clear hb)
   (go_wp2_with fail; refine (made_c _ _ _ Hz.out _).mono ?_; rintro e w' ⟨rfl, hb⟩; (first | (with_reducible (have hb2 := World.plus_of_below ((World.below_plus _ _).trans (hb.mono (World.size_plus _ _)))); obtain ⟨u, rfl⟩ := hb2) | (obtain ⟨u, rfl⟩ := World.plus_of_below hb)); clear hb)
   (go_wp2_with fail; refine (made_c _ _ _ Hz2.out _).mono ?_; rintro e w' ⟨rfl, hb⟩; (first | (with_reducible (have hb2 := World.plus_of_below ((World.below_plus _ _).trans (hb.mono (World.size_plus _ _)))); obtain ⟨u, rfl⟩ := hb2) | (obtain ⟨u, rfl⟩ := World.plus_of_below hb)); clear hb)
   go_wp2_with fail
   refine bodyPost_ret (by simp [results, Tryz.results198, go_sem]; rfl) rfl ?_
   exact ⟨rfl, by (exact belA)⟩
  ·have her := mag_empty_of r (by have := H0.out; rw [hs] at this; simpa using this)
   have Hz : Hid (x / y = if !sg y then -(q : Int) else q) := by rw [hs] at Hq; have h9 := Hq.out; refine Lib.hid (h9.trans ?_); cases sg y <;> rfl
   have Hz2 : Hid (x % y = if false then -(r : Int) else r) := Hr
   go_enter Tryz.func198, Tryz.ntmps198
   (go_wp2_with fail; refine (Hd.out _).mono ?_; rintro e w' ⟨rfl, hb⟩; (first | (with_reducible (have hb2 := World.plus_of_below ((World.below_plus _ _).trans (hb.mono (World.size_plus _ _)))); obtain ⟨u, rfl⟩ := hb2) | (obtain ⟨u, rfl⟩ := World.plus_of_below hb)); clear hb)
   (go_wp2_with fail; refine (made_c _ _ _ Hz.out _).mono ?_; rintro e w' ⟨rfl, hb⟩; (first | (with_reducible (have hb2 := World.plus_of_below ((World.below_plus _ _).trans (hb.mono (World.size_plus _ _)))); obtain ⟨u, rfl⟩ := hb2) | (obtain ⟨u, rfl⟩ := World.plus_of_below hb)); clear hb)
   (go_wp2_with fail; refine (made_c _ _ _ Hz2.out _).mono ?_; rintro e w' ⟨rfl, hb⟩; (first | (with_reducible (have hb2 := World.plus_of_below ((World.below_plus _ _).trans (hb.mono (World.size_plus _ _)))); obtain ⟨u, rfl⟩ := hb2) | (obtain ⟨u, rfl⟩ := World.plus_of_below hb)); clear hb)
   go_wp2_with fail
   refine bodyPost_ret (by simp [results, Tryz.results198, go_sem]; rfl) rfl ?_
   exact ⟨rfl, by (exact belA)⟩
 ·have hs : sg x = true := by cases hs : sg x <;> simp_all
  have h0 : x.natAbs % y.natAbs ≠ 0 := fun e => h (.inr e)
  have Hq := Lib.hid (quo_up x y hy hs h0)
  have Hr := Lib.hid (rem_up x y hy hs h0)
  rw [← hq] at Hq
  rw [← hr] at Hr
  have her := mag_empty_not r (by rw [hr]; exact h0)
  have Hz : Hid (x / y = if !sg y then -((q + 1 : Nat) : Int) else (q + 1 : Nat)) := by rw [hs] at Hq; have h9 := Hq.out; refine Lib.hid (h9.trans ?_); cases sg y <;> rfl
  have Hz2 : Hid (x % y = if false then -((y.natAbs - r : Nat) : Int) else (y.natAbs - r : Nat)) := Hr
  have H1 := Lib.hid h1
  have hle : r ≤ y.natAbs := by omega
  have Hle := Lib.hid hle
  have sr : (mag r).size ≤ 4294967296 := by
   have := size_mag_mono r y.natAbs hle
   exact Nat.le_trans this sy
  have sq : (mag q).size ≤ 4294967296 := by
   have := size_mag_mono q x.natAbs (by rw [hq]; exact Nat.div_le_self _ _)
   exact Nat.le_trans this (Nat.le_trans sx (by omega))
  have s1 : (mag 1).size ≤ 4294967296 := by rw [h1]; decide
  clear hq hr hl h1 h h0 hle
  go_enter Tryz.func198, Tryz.ntmps198
  (go_wp2_with fail; refine (Hd.out _).mono ?_; rintro e w' ⟨rfl, hb⟩; (first | (with_reducible (have hb2 := World.plus_of_below ((World.below_plus _ _).trans (hb.mono (World.size_plus _ _)))); obtain ⟨u, rfl⟩ := hb2) | (obtain ⟨u, rfl⟩ := World.plus_of_below hb)); clear hb)
  go_wp2_with fail
  rw [← H1.out]
  ((first | (with_reducible refine wp_region_steady_plus (by kernel_rfl) (by kernel_rfl) ?_) | refine wp_region_steady (by kernel_rfl) (by kernel_rfl) ?_); repeat go_big_quiet_step (first | (go_at_call 182; refine Calls.steady (add_c q 1 _ sq s1)) | (go_at_call 184; refine Calls.steady (sub_c y.natAbs r _ sy sr Hle.out)))); (refine wpQuiet_nil ?_; rintro _ ⟨u, rfl⟩)
  (go_wp2_with fail; refine (made_c _ _ _ Hz.out _).mono ?_; rintro e w' ⟨rfl, hb⟩; (first | (with_reducible (have hb2 := World.plus_of_below ((World.below_plus _ _).trans (hb.mono (World.size_plus _ _)))); obtain ⟨u, rfl⟩ := hb2) | (obtain ⟨u, rfl⟩ := World.plus_of_below hb)); clear hb)
  (go_wp2_with fail; refine (made_c _ _ _ Hz2.out _).mono ?_; rintro e w' ⟨rfl, hb⟩; (first | (with_reducible (have hb2 := World.plus_of_below ((World.below_plus _ _).trans (hb.mono (World.size_plus _ _)))); obtain ⟨u, rfl⟩ := hb2) | (obtain ⟨u, rfl⟩ := World.plus_of_below hb)); clear hb)
  go_wp2_with fail
  refine bodyPost_ret (by simp [results, Tryz.results198, go_sem]; rfl) rfl ?_
  exact ⟨rfl, by (exact belA)⟩
end Go.Proofs.YtlblfgbpogljoaaGreatDoor

end
