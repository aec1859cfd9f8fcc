import Derived.Test.YthdaimoankaciaaGreatDoorProg
import Derived.Test.YthdaimoankaciaaGreatDoorShelf
import Derived.Test.YthdaimoankaciaaGreatDoorIntA
import Derived.Test.YthdaimoankaciaaGreatDoorIntB
/- The package integer: add returns the sum of two magnitudes. -/
set_option linter.unusedSimpArgs false
set_option linter.unusedVariables false
namespace Go.Proofs.YthdaimoankaciaaGreatDoor
open Go Go.RowKit
open Vi
theorem add64_run (x y : Nat) (w : World) : (callFunc 179 #[.int .u64 (x : Int), .int .u64 (y : Int), .int .u64 0]).run Tryz.prog w =
      .ok (.value (.tuple #[.int .u64 (((x + y) % 18446744073709551616 : Nat) : Int), .int .u64 (((x + y) / 18446744073709551616 : Nat) : Int)])) w := by
 rw [run_callFunc_extern Tryz.func179 (by kernel_rfl) (by kernel_rfl) (by kernel_rfl) (e := add64Entry) (by kernel_rfl), run_add64 x y 0 (by omega) (by omega) (by omega) (by omega)]
 simp only [Result.andThen]
 congr 5 <;> omega
set_option maxHeartbeats 400000 in
theorem add_small (x y : Nat) (w : World) (h8 : fits8 x = true) (h9 : fits8 y = true) (h : x + y < 2 ^ 64) : Calls Tryz.prog 149 #[.string (mag x), .string (mag y)] w fun e w' => e = .returned (.string (mag (x + y))) ∧ Below w.heap.size w w' := by
 have hw := words_c x y w (by unfold fits8 at h8; simp at h8; omega) (by unfold fits8 at h9; simp at h9; omega)
 rw [h8, h9, wv_of x h8, wv_of y h9] at hw
 have H := Lib.hid hw
 have ha := add64_run x y
 rw [show (x + y) % 18446744073709551616 = x + y by omega, show (x + y) / 18446744073709551616 = 0 by omega] at ha
 have e : ((x + y : Nat) : Int) = (x : Int) + (y : Int) := by omega
 clear hw h8 h9
 go_enter Tryz.func149, Tryz.ntmps149
 go_wp2_with fail
 (refine (H.out).mono ?_; rintro e w' ⟨rfl, rfl⟩)
 have hm := fun w => magnitude_c (x + y) w h
 rw [Int.natCast_add] at hm
 (go_wp2_with fail; refine (hm _).mono ?_; rintro e w' ⟨rfl, hb⟩; (first | (with_reducible (have hb2 := World.plus_of_below ((World.below_plus _ _).trans (hb.mono (World.size_plus _ _)))); obtain ⟨u, rfl⟩ := hb2) | (obtain ⟨u, rfl⟩ := World.plus_of_below hb)); clear hb)
 go_wp2_with fail
 go_ret
 exact ⟨rfl, by (repeat' (first | (with_reducible first | exact Below.refl _ _ | assumption | refine Below.plus0 ?_ _ | refine Below.alloc0 ?_ _ | refine Below.plus ?_ ?_ _ | refine Below.alloc ?_ ?_ _ | refine Below.drew ?_ | refine Below.drewN ?_ _) | (simp [go_sem]; done) | (simp [go_sem]; omega)))⟩
def cy (x y i : Nat) : Nat := (x % 4294967296 ^ i + y % 4294967296 ^ i) / 4294967296 ^ i
theorem cy_zero (x y : Nat) : cy x y 0 = 0 := by unfold cy; simp [Nat.mod_one]
theorem cy_le (x y i : Nat) : cy x y i ≤ 1 := by
 unfold cy
 have h := Nat.pow_pos (n := i) (show 0 < 4294967296 by omega)
 have h1 := Nat.mod_lt x h
 have h2 := Nat.mod_lt y h
 have : (x % 4294967296 ^ i + y % 4294967296 ^ i) / 4294967296 ^ i < 2 := by
  rw [Nat.div_lt_iff_lt_mul h]; omega
 omega
theorem sum_eq (x y i : Nat) : cy x y i + dg x i + dg y i = dg (x + y) i + 4294967296 * cy x y (i + 1) := by
 have hp := Nat.pow_pos (n := i) (show 0 < 4294967296 by omega)
 have hp1 := Nat.pow_pos (n := i + 1) (show 0 < 4294967296 by omega)
 have e1 : (x % 4294967296 ^ (i + 1) + y % 4294967296 ^ (i + 1)) / 4294967296 ^ i = cy x y i + dg x i + dg y i := by
  rw [mod_succ, mod_succ]
  unfold cy
  rw [show x % 4294967296 ^ i + 4294967296 ^ i * dg x i + (y % 4294967296 ^ i + 4294967296 ^ i * dg y i) = (x % 4294967296 ^ i + y % 4294967296 ^ i) + 4294967296 ^ i * (dg x i + dg y i) by rw [Nat.mul_add]; omega]
  rw [Nat.add_mul_div_left _ _ hp]; omega
 have e2 : (x % 4294967296 ^ (i + 1) + y % 4294967296 ^ (i + 1)) / 4294967296 ^ i % 4294967296 = dg (x + y) i := by
  unfold dg
  rw [← Nat.mod_mul_right_div_self, ← Nat.mod_mul_right_div_self, ← Nat.pow_succ, ← Nat.add_mod]
 have e3 : (x % 4294967296 ^ (i + 1) + y % 4294967296 ^ (i + 1)) / 4294967296 ^ i / 4294967296 = cy x y (i + 1) := by
  unfold cy
  rw [Nat.div_div_eq_div_mul, ← Nat.pow_succ]
 rw [← e1, ← e2, ← e3, Nat.mod_add_div]
theorem sum_dg (x y i : Nat) : (cy x y i + dg x i + dg y i) % 4294967296 = dg (x + y) i := by
 rw [sum_eq, Nat.add_mul_mod_self_left, Nat.mod_eq_of_lt (dg_lt _ _)]
theorem sum_cy (x y i : Nat) : (cy x y i + dg x i + dg y i) / 4294967296 = cy x y (i + 1) := by
 rw [sum_eq, Nat.add_mul_div_left _ _ (by omega), Nat.div_eq_of_lt (dg_lt _ _), Nat.zero_add]
def sumFn (x y i : Nat) : Nat → Nat := fun k => if k < i then dg (x + y) k else dg x k
theorem sumFn_zero (x y n : Nat) : arr .u32 (sumFn x y 0) n = arr .u32 (dg x) n := by
 apply arr_congr; intro k _; unfold sumFn; rw [if_neg (by omega)]
theorem sumFn_at (x y i : Nat) : sumFn x y i i = dg x i := by unfold sumFn; rw [if_neg (by omega)]
theorem sumFn_succ (x y i : Nat) : upd (sumFn x y i) i (dg (x + y) i) = sumFn x y (i + 1) := by
 funext k
 unfold upd sumFn
 by_cases h : k = i
 ·subst h; rw [if_pos rfl, if_pos (by omega)]
 ·rw [if_neg h]
  by_cases h2 : k < i
  ·rw [if_pos h2, if_pos (by omega)]
  ·rw [if_neg h2, if_neg (by omega)]
theorem sumFn_all (x y n : Nat) : arr .u32 (sumFn x y n) n = arr .u32 (dg (x + y)) n := by
 apply arr_congr; intro k hk; unfold sumFn; rw [if_pos hk]
theorem make32s (n : Nat) (w : World) (h : n ≤ 8589934591) : (Instr.makeSlice 159 (.int .i64 ((n : Int) + 1)) (.int .i64 ((n : Int) + 1))).run Tryz.prog w = .ok (.slice (some ⟨w.heap.size, 0, none⟩) (n + 1) (n + 1)) (w.alloc (.cells (arr .u32 (fun _ => 0) (n + 1)) 162)) :=
 make32 (n + 1) w (by omega)
theorem sum_bound (x y n : Nat) (hx : x < 4294967296 ^ n) (hy : y < 4294967296 ^ n) : x + y < 4294967296 ^ (n + 1) := by
 rw [Nat.pow_succ]; omega
theorem copy_fresh (W : World) (g gx n m c c' k : Nat) (ty : TypeId) (f : Nat → Nat) (hg : g = W.heap.size) (hnm : n ≤ m) (hgx : gx < W.heap.size) (hx : Row32 W gx n f) (hz : ∀ i, n ≤ i → f i = 0) :
    (Builtin.copy_ #[159, 159] ty #[.slice (some ⟨g, 0, none⟩) m c, .slice (some ⟨gx, 0, none⟩) n c']).run Tryz.prog ((W.alloc (.cells (arr .u32 (fun _ => 0) m) 162)).drewN k) = .ok (.int .i64 (n : Int)) ((W.alloc (.cells (arr .u32 f m) 162)).drewN k) := by
 subst hg
 have hinfo : (Tryz.prog.info? 162).map (·.size) = some 1 := by kernel_rfl
 have hnew : ((W.alloc (.cells (arr .u32 (fun _ => 0) m) 162)).drewN k).heap[W.heap.size]? = some (.cells (arr .u32 (fun _ => 0) m) 162 (0, 0)) := heap_alloc_new W _
 have hl : (arr .u32 f n).toList.length = n := by simp [arr_size]
 have := run_copy_row (P := Tryz.prog) ((W.alloc (.cells (arr .u32 (fun _ => 0) m) 162)).drewN k) 159 159 ty 162 W.heap.size 0 m c ⟨gx, 0, none⟩ n c' (arr .u32 (fun _ => 0) m) 162 (arr .u32 f n).toList (by kernel_rfl) hinfo hnew
  (by rw [hl]; exact (Nat.min_eq_left hnm).symm) (fun j v hj => by
   have hjn : j < n := by
    rcases Nat.lt_or_ge j n with h | h
    ·exact h
    ·rw [Array.getElem?_toList, arr_none _ _ _ _ h] at hj; cases hj
   rw [Array.getElem?_toList, arr_get _ _ _ _ hjn] at hj
   have e : (⟨gx, 0, none⟩ : Addr).add j = ⟨gx, j, none⟩ := by unfold Addr.add; split <;> simp_all
   rw [e, World.cell?_drewN, World.cell?_alloc_past _ _ _ hgx, hx j hjn]; exact hj) (by rw [hl, arr_size]; omega) (arr_oneCell _ _ _)
 rw [this, hl]
 have e2 : ((arr IntKind.u32 (fun _ => 0) m).toList.take 0 ++ (arr IntKind.u32 f n).toList ++ (arr IntKind.u32 (fun _ => 0) m).toList.drop (0 + n)).toArray = arr .u32 f m := by
  apply Array.toList_inj.1
  rw [arr_toList, arr_toList, arr_toList]
  apply List.ext_getElem?
  intro i
  simp only [List.take_zero, List.nil_append, Nat.zero_add]
  by_cases hi : i < n
  ·rw [List.getElem?_append_left (by simpa using hi)]; simp [hi, show i < m by omega]
  ·rw [List.getElem?_append_right (by simpa using hi)]
   simp only [List.length_map, List.length_range, List.getElem?_drop, List.getElem?_map]
   rw [show n + (i - n) = i by omega]
   by_cases him : i < m
   ·simp [him, hz i (by omega)]
   ·simp [him]
 rw [e2, World.row_setRow _ _ _ _ _ hnew, World.row_drewN, World.row_alloc]; rfl
set_option maxRecDepth 100000 in
set_option maxHeartbeats 800000 in
theorem add_big (x y nx ny : Nat) (w : World) (hx : (mag x).size ≤ 4294967296) (hy : (mag y).size ≤ 4294967296) (hnx : nd 4294967296 x = nx) (hny : nd 4294967296 y = ny) (hbig : (fits8 x && fits8 y) = false) (hle : ny ≤ nx) :
    Calls Tryz.prog 149 #[.string (mag x), .string (mag y)] w fun e w' => e = .returned (.string (mag (x + y))) ∧ Below w.heap.size w w' := by
 have hw := fun w => words_c x y w hx hy
 rw [hbig] at hw
 clear hbig
 have H := Lib.hid hw
 have hdx := fun w => digits_c x w hx
 have hdy := fun w => digits_c y w hy
 rw [hnx] at hdx
 rw [hny] at hdy
 have HX := Lib.hid hdx
 have HY := Lib.hid hdy
 have hxl : x < 4294967296 ^ nx := by rw [← hnx]; exact lt_pow_nd _ (by omega) x
 have hyl : y < 4294967296 ^ ny := by rw [← hny]; exact lt_pow_nd _ (by omega) y
 have hnx2 : nx ≤ 1073741825 := by rw [← hnx, ← up4_nd]; unfold up4; omega
 have hny2 : ny ≤ 1073741825 := by rw [← hny, ← up4_nd]; unfold up4; omega
 have HXL := Lib.hid hxl
 have HYL := Lib.hid hyl
 have HT := Lib.hid (sum_bound x y nx (by exact hxl) (by exact Nat.lt_of_lt_of_le hyl (Nat.pow_le_pow_right (by omega) (by omega))))
 have HMK := Lib.hid (make32s nx · (by omega))
 clear hw hdx hdy hnx hny hxl hyl
 go_enter Tryz.func149, Tryz.ntmps149
 go_wp2_with fail
 (refine (H.out _).mono ?_; rintro e w' ⟨rfl, rfl⟩)
 go_wp2_with fail
 refine (HX.out _).mono ?_
 rintro e w' ⟨rfl, k1, rfl⟩
 go_wp2_with fail
 refine (HY.out _).mono ?_
 rintro e w' ⟨rfl, k2, rfl⟩
 go_wp2_with fail
 have hmk := HMK.out
 have hcp := fun ty k => copy_fresh ((w.alloc (.cells (arr .u32 (dg x) nx) 162)).alloc (.cells (arr .u32 (dg y) ny) 162)) (w.heap.size + 1 + 1) (w.heap.size) nx (nx + 1) (nx + 1) nx k ty (dg x) (by simp) (by omega) (by simp; try omega) (fun i hi => by simp [go_sem, arr_get _ _ _ _ hi]) (fun i hi => dg_big x nx i HXL.out hi)
 simp only [hmk]
 go_wp2_with fail
 clear hcp hmk
 have H0 := Lib.hid (sumFn_zero x y (nx + 1))
 have HC0 := Lib.hid (cy_zero x y)
 go_loopw [13, 53] (fun c v wr => ∃ i : Nat, i ≤ nx + 1 ∧ v = .int .i64 i ∧ c = .int .u64 (cy x y i : Int) ∧ wr = (((w.alloc (.cells (arr .u32 (dg x) nx) 162)).alloc (.cells (arr .u32 (dg y) ny) 162)).alloc (.cells (arr .u32 (sumFn x y i) (nx + 1)) 162)).drewN (k1 + k2)) (fun _ v _ => nx + 1 - (intOf v).toNat)
 case atStart => exact ⟨0, Nat.zero_le _, rfl, by rw [HC0.out]; rfl, by rw [H0.out]⟩
 case round =>
  obtain ⟨i, hi, rfl, rfl, rfl⟩ := hrel
  have hcy := cy_le x y i
  have hdx1 := dg_lt x i
  have hdy1 := dg_lt y i
  by_cases hlt : i < nx + 1
  ·have hg := arr_get .u32 (sumFn x y i) (nx + 1) i hlt
   rw [sumFn_at] at hg
   have HS3 := Lib.hid (sumFn_succ x y i)
   by_cases hly : i < ny
   ·have hgy := arr_get .u32 (dg y) ny i hly
    have HS1 := Lib.hid (show ((cy x y i : Int) + dg x i + dg y i) % 4294967296 = (dg (x + y) i : Int) by have := sum_dg x y i; omega)
    have HS2 := Lib.hid (show ((cy x y i : Int) + dg x i + dg y i) / 4294967296 = (cy x y (i + 1) : Int) by have := sum_cy x y i; omega)
    go_wp2_with fail
    refine ⟨⟨i + 1, by omega, by go_num, by rw [HS2.out], ?_⟩, by simp [intOf]; omega⟩
    rw [HS1.out, arr_set, HS3.out]
   ·have hy0 := dg_big y ny i HYL.out (by omega)
    have HS1 := Lib.hid (show ((cy x y i : Int) + dg x i) % 4294967296 = (dg (x + y) i : Int) by have := sum_dg x y i; omega)
    have HS2 := Lib.hid (show ((cy x y i : Int) + dg x i) / 4294967296 = (cy x y (i + 1) : Int) by have := sum_cy x y i; omega)
    clear hy0
    go_wp2_with fail
    refine ⟨⟨i + 1, by omega, by go_num, by rw [HS2.out], ?_⟩, by simp [intOf]; omega⟩
    rw [HS1.out, arr_set, HS3.out]
  ·have e : i = nx + 1 := by omega
   subst e
   have HA := Lib.hid (sumFn_all x y (nx + 1))
   go_wp2_with fail
   rw [HA.out]
   refine (bytes_c (x + y) (nx + 1) (nx + 1) (w.heap.size + 1 + 1) _ HT.out (by omega) (Nat.le_refl _) (fun i hi => by simp [go_sem, arr_get _ _ _ _ hi]) (by simp [go_sem])).mono ?_
   rintro e w' ⟨rfl, hb⟩
   obtain ⟨u, rfl⟩ := World.plus_of_below hb
   clear hb
   go_wp2_with fail
   go_ret
   exact ⟨rfl, by (repeat' (first | (with_reducible first | exact Below.refl _ _ | assumption | refine Below.plus0 ?_ _ | refine Below.alloc0 ?_ _ | refine Below.plus ?_ ?_ _ | refine Below.alloc ?_ ?_ _ | refine Below.drew ?_ | refine Below.drewN ?_ _) | (simp [go_sem]; done) | (simp [go_sem]; omega)))⟩
set_option maxRecDepth 100000 in
set_option maxHeartbeats 800000 in
theorem add_big_swap (x y nx ny : Nat) (w : World) (hx : (mag x).size ≤ 4294967296) (hy : (mag y).size ≤ 4294967296) (hnx : nd 4294967296 x = nx) (hny : nd 4294967296 y = ny) (hbig : (fits8 x && fits8 y) = false) (hle : nx < ny) :
    Calls Tryz.prog 149 #[.string (mag x), .string (mag y)] w fun e w' => e = .returned (.string (mag (x + y))) ∧ Below w.heap.size w w' := by
 have hw := fun w => words_c x y w hx hy
 rw [hbig] at hw
 clear hbig
 have H := Lib.hid hw
 have hdx := fun w => digits_c x w hx
 have hdy := fun w => digits_c y w hy
 rw [hnx] at hdx
 rw [hny] at hdy
 have HX := Lib.hid hdx
 have HY := Lib.hid hdy
 have hxl : x < 4294967296 ^ nx := by rw [← hnx]; exact lt_pow_nd _ (by omega) x
 have hyl : y < 4294967296 ^ ny := by rw [← hny]; exact lt_pow_nd _ (by omega) y
 have hnx2 : nx ≤ 1073741825 := by rw [← hnx, ← up4_nd]; unfold up4; omega
 have hny2 : ny ≤ 1073741825 := by rw [← hny, ← up4_nd]; unfold up4; omega
 have HXL := Lib.hid hxl
 have HYL := Lib.hid hyl
 have HT := Lib.hid (sum_bound y x ny (by exact hyl) (by exact Nat.lt_of_lt_of_le hxl (Nat.pow_le_pow_right (by omega) (by omega))))
 have HMK := Lib.hid (make32s ny · (by omega))
 clear hw hdx hdy hnx hny hxl hyl
 go_enter Tryz.func149, Tryz.ntmps149
 go_wp2_with fail
 (refine (H.out _).mono ?_; rintro e w' ⟨rfl, rfl⟩)
 go_wp2_with fail
 refine (HX.out _).mono ?_
 rintro e w' ⟨rfl, k1, rfl⟩
 go_wp2_with fail
 refine (HY.out _).mono ?_
 rintro e w' ⟨rfl, k2, rfl⟩
 go_wp2_with fail
 have hmk := HMK.out
 have hcp := fun ty k => copy_fresh ((w.alloc (.cells (arr .u32 (dg x) nx) 162)).alloc (.cells (arr .u32 (dg y) ny) 162)) (w.heap.size + 1 + 1) (w.heap.size + 1) ny (ny + 1) (ny + 1) ny k ty (dg y) (by simp) (by omega) (by simp; try omega) (fun i hi => by simp [go_sem, arr_get _ _ _ _ hi]) (fun i hi => dg_big y ny i HYL.out hi)
 simp only [hmk]
 go_wp2_with fail
 clear hcp hmk
 have H0 := Lib.hid (sumFn_zero y x (ny + 1))
 have HC0 := Lib.hid (cy_zero y x)
 go_loopw [13, 53] (fun c v wr => ∃ i : Nat, i ≤ ny + 1 ∧ v = .int .i64 i ∧ c = .int .u64 (cy y x i : Int) ∧ wr = (((w.alloc (.cells (arr .u32 (dg x) nx) 162)).alloc (.cells (arr .u32 (dg y) ny) 162)).alloc (.cells (arr .u32 (sumFn y x i) (ny + 1)) 162)).drewN (k1 + k2)) (fun _ v _ => ny + 1 - (intOf v).toNat)
 case atStart => exact ⟨0, Nat.zero_le _, rfl, by rw [HC0.out]; rfl, by rw [H0.out]⟩
 case round =>
  obtain ⟨i, hi, rfl, rfl, rfl⟩ := hrel
  have hcy := cy_le y x i
  have hdx1 := dg_lt y i
  have hdy1 := dg_lt x i
  by_cases hlt : i < ny + 1
  ·have hg := arr_get .u32 (sumFn y x i) (ny + 1) i hlt
   rw [sumFn_at] at hg
   have HS3 := Lib.hid (sumFn_succ y x i)
   by_cases hly : i < nx
   ·have hgy := arr_get .u32 (dg x) nx i hly
    have HS1 := Lib.hid (show ((cy y x i : Int) + dg y i + dg x i) % 4294967296 = (dg (y + x) i : Int) by have := sum_dg y x i; omega)
    have HS2 := Lib.hid (show ((cy y x i : Int) + dg y i + dg x i) / 4294967296 = (cy y x (i + 1) : Int) by have := sum_cy y x i; omega)
    go_wp2_with fail
    refine ⟨⟨i + 1, by omega, by go_num, by rw [HS2.out], ?_⟩, by simp [intOf]; omega⟩
    rw [HS1.out, arr_set, HS3.out]
   ·have hy0 := dg_big x nx i HXL.out (by omega)
    have HS1 := Lib.hid (show ((cy y x i : Int) + dg y i) % 4294967296 = (dg (y + x) i : Int) by have := sum_dg y x i; omega)
    have HS2 := Lib.hid (show ((cy y x i : Int) + dg y i) / 4294967296 = (cy y x (i + 1) : Int) by have := sum_cy y x i; omega)
    clear hy0
    go_wp2_with fail
    refine ⟨⟨i + 1, by omega, by go_num, by rw [HS2.out], ?_⟩, by simp [intOf]; omega⟩
    rw [HS1.out, arr_set, HS3.out]
  ·have e : i = ny + 1 := by omega
   subst e
   have HA := Lib.hid (sumFn_all y x (ny + 1))
   go_wp2_with fail
   rw [HA.out]
   refine (bytes_c (y + x) (ny + 1) (ny + 1) (w.heap.size + 1 + 1) _ HT.out (by omega) (Nat.le_refl _) (fun i hi => by simp [go_sem, arr_get _ _ _ _ hi]) (by simp [go_sem])).mono ?_
   rintro e w' ⟨rfl, hb⟩
   obtain ⟨u, rfl⟩ := World.plus_of_below hb
   clear hb
   go_wp2_with fail
   go_ret
   exact ⟨by rw [Nat.add_comm x y]; rfl, by (repeat' (first | (with_reducible first | exact Below.refl _ _ | assumption | refine Below.plus0 ?_ _ | refine Below.alloc0 ?_ _ | refine Below.plus ?_ ?_ _ | refine Below.alloc ?_ ?_ _ | refine Below.drew ?_ | refine Below.drewN ?_ _) | (simp [go_sem]; done) | (simp [go_sem]; omega)))⟩
set_option maxRecDepth 100000 in
set_option maxHeartbeats 800000 in
theorem add_over (x y nx ny : Nat) (w : World) (hx : (mag x).size ≤ 4294967296) (hy : (mag y).size ≤ 4294967296) (hnx : nd 4294967296 x = nx) (hny : nd 4294967296 y = ny) (h8 : fits8 x = true) (h9 : fits8 y = true) (hov : ¬ x + y < 2 ^ 64) (hle : ny ≤ nx) :
    Calls Tryz.prog 149 #[.string (mag x), .string (mag y)] w fun e w' => e = .returned (.string (mag (x + y))) ∧ Below w.heap.size w w' := by
 have hw := fun w => words_c x y w hx hy
 have hx64 := wv_lt x
 have hy64 := wv_lt y
 rw [h8, h9, wv_of x h8, wv_of y h9] at hw
 rw [wv_of x h8] at hx64
 rw [wv_of y h9] at hy64
 have ha := add64_run x y
 obtain ⟨z, hz⟩ : ∃ z, z = (x + y) % 18446744073709551616 := ⟨_, rfl⟩
 rw [show (x + y) / 18446744073709551616 = 1 by omega, ← hz] at ha
 clear hov hx64 hy64 hz h8 h9
 have H := Lib.hid hw
 have hdx := fun w => digits_c x w hx
 have hdy := fun w => digits_c y w hy
 rw [hnx] at hdx
 rw [hny] at hdy
 have HX := Lib.hid hdx
 have HY := Lib.hid hdy
 have hxl : x < 4294967296 ^ nx := by rw [← hnx]; exact lt_pow_nd _ (by omega) x
 have hyl : y < 4294967296 ^ ny := by rw [← hny]; exact lt_pow_nd _ (by omega) y
 have hnx2 : nx ≤ 1073741825 := by rw [← hnx, ← up4_nd]; unfold up4; omega
 have hny2 : ny ≤ 1073741825 := by rw [← hny, ← up4_nd]; unfold up4; omega
 have HXL := Lib.hid hxl
 have HYL := Lib.hid hyl
 have HT := Lib.hid (sum_bound x y nx (by exact hxl) (by exact Nat.lt_of_lt_of_le hyl (Nat.pow_le_pow_right (by omega) (by omega))))
 have HMK := Lib.hid (make32s nx · (by omega))
 clear hw hdx hdy hnx hny hxl hyl
 go_enter Tryz.func149, Tryz.ntmps149
 go_wp2_with fail
 (refine (H.out _).mono ?_; rintro e w' ⟨rfl, rfl⟩)
 go_wp2_with fail
 refine (HX.out _).mono ?_
 rintro e w' ⟨rfl, k1, rfl⟩
 go_wp2_with fail
 refine (HY.out _).mono ?_
 rintro e w' ⟨rfl, k2, rfl⟩
 go_wp2_with fail
 have hmk := HMK.out
 have hcp := fun ty k => copy_fresh ((w.alloc (.cells (arr .u32 (dg x) nx) 162)).alloc (.cells (arr .u32 (dg y) ny) 162)) (w.heap.size + 1 + 1) (w.heap.size) nx (nx + 1) (nx + 1) nx k ty (dg x) (by simp) (by omega) (by simp; try omega) (fun i hi => by simp [go_sem, arr_get _ _ _ _ hi]) (fun i hi => dg_big x nx i HXL.out hi)
 simp only [hmk]
 go_wp2_with fail
 clear hcp hmk
 have H0 := Lib.hid (sumFn_zero x y (nx + 1))
 have HC0 := Lib.hid (cy_zero x y)
 go_loopw [13, 53] (fun c v wr => ∃ i : Nat, i ≤ nx + 1 ∧ v = .int .i64 i ∧ c = .int .u64 (cy x y i : Int) ∧ wr = (((w.alloc (.cells (arr .u32 (dg x) nx) 162)).alloc (.cells (arr .u32 (dg y) ny) 162)).alloc (.cells (arr .u32 (sumFn x y i) (nx + 1)) 162)).drewN (k1 + k2)) (fun _ v _ => nx + 1 - (intOf v).toNat)
 case atStart => exact ⟨0, Nat.zero_le _, rfl, by rw [HC0.out]; rfl, by rw [H0.out]⟩
 case round =>
  obtain ⟨i, hi, rfl, rfl, rfl⟩ := hrel
  have hcy := cy_le x y i
  have hdx1 := dg_lt x i
  have hdy1 := dg_lt y i
  by_cases hlt : i < nx + 1
  ·have hg := arr_get .u32 (sumFn x y i) (nx + 1) i hlt
   rw [sumFn_at] at hg
   have HS3 := Lib.hid (sumFn_succ x y i)
   by_cases hly : i < ny
   ·have hgy := arr_get .u32 (dg y) ny i hly
    have HS1 := Lib.hid (show ((cy x y i : Int) + dg x i + dg y i) % 4294967296 = (dg (x + y) i : Int) by have := sum_dg x y i; omega)
    have HS2 := Lib.hid (show ((cy x y i : Int) + dg x i + dg y i) / 4294967296 = (cy x y (i + 1) : Int) by have := sum_cy x y i; omega)
    go_wp2_with fail
    refine ⟨⟨i + 1, by omega, by go_num, by rw [HS2.out], ?_⟩, by simp [intOf]; omega⟩
    rw [HS1.out, arr_set, HS3.out]
   ·have hy0 := dg_big y ny i HYL.out (by omega)
    have HS1 := Lib.hid (show ((cy x y i : Int) + dg x i) % 4294967296 = (dg (x + y) i : Int) by have := sum_dg x y i; omega)
    have HS2 := Lib.hid (show ((cy x y i : Int) + dg x i) / 4294967296 = (cy x y (i + 1) : Int) by have := sum_cy x y i; omega)
    clear hy0
    go_wp2_with fail
    refine ⟨⟨i + 1, by omega, by go_num, by rw [HS2.out], ?_⟩, by simp [intOf]; omega⟩
    rw [HS1.out, arr_set, HS3.out]
  ·have e : i = nx + 1 := by omega
   subst e
   have HA := Lib.hid (sumFn_all x y (nx + 1))
   go_wp2_with fail
   rw [HA.out]
   refine (bytes_c (x + y) (nx + 1) (nx + 1) (w.heap.size + 1 + 1) _ HT.out (by omega) (Nat.le_refl _) (fun i hi => by simp [go_sem, arr_get _ _ _ _ hi]) (by simp [go_sem])).mono ?_
   rintro e w' ⟨rfl, hb⟩
   obtain ⟨u, rfl⟩ := World.plus_of_below hb
   clear hb
   go_wp2_with fail
   go_ret
   exact ⟨rfl, by (repeat' (first | (with_reducible first | exact Below.refl _ _ | assumption | refine Below.plus0 ?_ _ | refine Below.alloc0 ?_ _ | refine Below.plus ?_ ?_ _ | refine Below.alloc ?_ ?_ _ | refine Below.drew ?_ | refine Below.drewN ?_ _) | (simp [go_sem]; done) | (simp [go_sem]; omega)))⟩
set_option maxRecDepth 100000 in
set_option maxHeartbeats 800000 in
theorem add_over_swap (x y nx ny : Nat) (w : World) (hx : (mag x).size ≤ 4294967296) (hy : (mag y).size ≤ 4294967296) (hnx : nd 4294967296 x = nx) (hny : nd 4294967296 y = ny) (h8 : fits8 x = true) (h9 : fits8 y = true) (hov : ¬ x + y < 2 ^ 64) (hle : nx < ny) :
    Calls Tryz.prog 149 #[.string (mag x), .string (mag y)] w fun e w' => e = .returned (.string (mag (x + y))) ∧ Below w.heap.size w w' := by
 have hw := fun w => words_c x y w hx hy
 have hx64 := wv_lt x
 have hy64 := wv_lt y
 rw [h8, h9, wv_of x h8, wv_of y h9] at hw
 rw [wv_of x h8] at hx64
 rw [wv_of y h9] at hy64
 have ha := add64_run x y
 obtain ⟨z, hz⟩ : ∃ z, z = (x + y) % 18446744073709551616 := ⟨_, rfl⟩
 rw [show (x + y) / 18446744073709551616 = 1 by omega, ← hz] at ha
 clear hov hx64 hy64 hz h8 h9
 have H := Lib.hid hw
 have hdx := fun w => digits_c x w hx
 have hdy := fun w => digits_c y w hy
 rw [hnx] at hdx
 rw [hny] at hdy
 have HX := Lib.hid hdx
 have HY := Lib.hid hdy
 have hxl : x < 4294967296 ^ nx := by rw [← hnx]; exact lt_pow_nd _ (by omega) x
 have hyl : y < 4294967296 ^ ny := by rw [← hny]; exact lt_pow_nd _ (by omega) y
 have hnx2 : nx ≤ 1073741825 := by rw [← hnx, ← up4_nd]; unfold up4; omega
 have hny2 : ny ≤ 1073741825 := by rw [← hny, ← up4_nd]; unfold up4; omega
 have HXL := Lib.hid hxl
 have HYL := Lib.hid hyl
 have HT := Lib.hid (sum_bound y x ny (by exact hyl) (by exact Nat.lt_of_lt_of_le hxl (Nat.pow_le_pow_right (by omega) (by omega))))
 have HMK := Lib.hid (make32s ny · (by omega))
 clear hw hdx hdy hnx hny hxl hyl
 go_enter Tryz.func149, Tryz.ntmps149
 go_wp2_with fail
 (refine (H.out _).mono ?_; rintro e w' ⟨rfl, rfl⟩)
 go_wp2_with fail
 refine (HX.out _).mono ?_
 rintro e w' ⟨rfl, k1, rfl⟩
 go_wp2_with fail
 refine (HY.out _).mono ?_
 rintro e w' ⟨rfl, k2, rfl⟩
 go_wp2_with fail
 have hmk := HMK.out
 have hcp := fun ty k => copy_fresh ((w.alloc (.cells (arr .u32 (dg x) nx) 162)).alloc (.cells (arr .u32 (dg y) ny) 162)) (w.heap.size + 1 + 1) (w.heap.size + 1) ny (ny + 1) (ny + 1) ny k ty (dg y) (by simp) (by omega) (by simp; try omega) (fun i hi => by simp [go_sem, arr_get _ _ _ _ hi]) (fun i hi => dg_big y ny i HYL.out hi)
 simp only [hmk]
 go_wp2_with fail
 clear hcp hmk
 have H0 := Lib.hid (sumFn_zero y x (ny + 1))
 have HC0 := Lib.hid (cy_zero y x)
 go_loopw [13, 53] (fun c v wr => ∃ i : Nat, i ≤ ny + 1 ∧ v = .int .i64 i ∧ c = .int .u64 (cy y x i : Int) ∧ wr = (((w.alloc (.cells (arr .u32 (dg x) nx) 162)).alloc (.cells (arr .u32 (dg y) ny) 162)).alloc (.cells (arr .u32 (sumFn y x i) (ny + 1)) 162)).drewN (k1 + k2)) (fun _ v _ => ny + 1 - (intOf v).toNat)
 case atStart => exact ⟨0, Nat.zero_le _, rfl, by rw [HC0.out]; rfl, by rw [H0.out]⟩
 case round =>
  obtain ⟨i, hi, rfl, rfl, rfl⟩ := hrel
  have hcy := cy_le y x i
  have hdx1 := dg_lt y i
  have hdy1 := dg_lt x i
  by_cases hlt : i < ny + 1
  ·have hg := arr_get .u32 (sumFn y x i) (ny + 1) i hlt
   rw [sumFn_at] at hg
   have HS3 := Lib.hid (sumFn_succ y x i)
   by_cases hly : i < nx
   ·have hgy := arr_get .u32 (dg x) nx i hly
    have HS1 := Lib.hid (show ((cy y x i : Int) + dg y i + dg x i) % 4294967296 = (dg (y + x) i : Int) by have := sum_dg y x i; omega)
    have HS2 := Lib.hid (show ((cy y x i : Int) + dg y i + dg x i) / 4294967296 = (cy y x (i + 1) : Int) by have := sum_cy y x i; omega)
    go_wp2_with fail
    refine ⟨⟨i + 1, by omega, by go_num, by rw [HS2.out], ?_⟩, by simp [intOf]; omega⟩
    rw [HS1.out, arr_set, HS3.out]
   ·have hy0 := dg_big x nx i HXL.out (by omega)
    have HS1 := Lib.hid (show ((cy y x i : Int) + dg y i) % 4294967296 = (dg (y + x) i : Int) by have := sum_dg y x i; omega)
    have HS2 := Lib.hid (show ((cy y x i : Int) + dg y i) / 4294967296 = (cy y x (i + 1) : Int) by have := sum_cy y x i; omega)
    clear hy0
    go_wp2_with fail
    refine ⟨⟨i + 1, by omega, by go_num, by rw [HS2.out], ?_⟩, by simp [intOf]; omega⟩
    rw [HS1.out, arr_set, HS3.out]
  ·have e : i = ny + 1 := by omega
   subst e
   have HA := Lib.hid (sumFn_all y x (ny + 1))
   go_wp2_with fail
   rw [HA.out]
   refine (bytes_c (y + x) (ny + 1) (ny + 1) (w.heap.size + 1 + 1) _ HT.out (by omega) (Nat.le_refl _) (fun i hi => by simp [go_sem, arr_get _ _ _ _ hi]) (by simp [go_sem])).mono ?_
   rintro e w' ⟨rfl, hb⟩
   obtain ⟨u, rfl⟩ := World.plus_of_below hb
   clear hb
   go_wp2_with fail
   go_ret
   exact ⟨by rw [Nat.add_comm x y]; rfl, by (repeat' (first | (with_reducible first | exact Below.refl _ _ | assumption | refine Below.plus0 ?_ _ | refine Below.alloc0 ?_ _ | refine Below.plus ?_ ?_ _ | refine Below.alloc ?_ ?_ _ | refine Below.drew ?_ | refine Below.drewN ?_ _) | (simp [go_sem]; done) | (simp [go_sem]; omega)))⟩
theorem add_c (x y : Nat) (w : World) (hx : (mag x).size ≤ 4294967296) (hy : (mag y).size ≤ 4294967296) :
    Calls Tryz.prog 149 #[.string (mag x), .string (mag y)] w fun e w' => e = .returned (.string (mag (x + y))) ∧ Below w.heap.size w w' := by
 by_cases h8 : fits8 x = true
 ·by_cases h9 : fits8 y = true
  ·by_cases h : x + y < 2 ^ 64
   ·exact add_small x y w h8 h9 h
   ·rcases Nat.lt_or_ge (nd 4294967296 x) (nd 4294967296 y) with h2 | h2
    ·exact add_over_swap x y _ _ w hx hy rfl rfl h8 h9 h h2
    ·exact add_over x y _ _ w hx hy rfl rfl h8 h9 h h2
  ·have hb : (fits8 x && fits8 y) = false := by simp at h9; rw [h9]; simp
   rcases Nat.lt_or_ge (nd 4294967296 x) (nd 4294967296 y) with h2 | h2
   ·exact add_big_swap x y _ _ w hx hy rfl rfl hb h2
   ·exact add_big x y _ _ w hx hy rfl rfl hb h2
 ·have hb : (fits8 x && fits8 y) = false := by simp at h8; rw [h8]; simp
  rcases Nat.lt_or_ge (nd 4294967296 x) (nd 4294967296 y) with h2 | h2
  ·exact add_big_swap x y _ _ w hx hy rfl rfl hb h2
  ·exact add_big x y _ _ w hx hy rfl rfl hb h2
end Go.Proofs.YthdaimoankaciaaGreatDoor
