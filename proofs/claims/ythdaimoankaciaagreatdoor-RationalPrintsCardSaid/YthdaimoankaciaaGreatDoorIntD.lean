import Derived.Test.YthdaimoankaciaaGreatDoorProg
import Derived.Test.YthdaimoankaciaaGreatDoorShelf
import Derived.Test.YthdaimoankaciaaGreatDoorIntA
import Derived.Test.YthdaimoankaciaaGreatDoorIntC
/- The package integer: sub returns the difference of two magnitudes. -/
set_option linter.unusedSimpArgs false
set_option linter.unusedVariables false
namespace Go.Proofs.YthdaimoankaciaaGreatDoor
open Go Go.RowKit
open Vi
def bwm (m x y : Nat) : Nat := if x % m < y % m then 1 else 0
def bw (x y i : Nat) : Nat := bwm (4294967296 ^ i) x y
theorem bw_zero (x y : Nat) : bw x y 0 = 0 := by unfold bw bwm; simp [Nat.mod_one]
theorem bw_le (x y i : Nat) : bw x y i ≤ 1 := by unfold bw bwm; split <;> omega
theorem diff_mod (m x y : Nat) (hp : 0 < m) (h : y ≤ x) : (x - y) % m + y % m = x % m + m * bwm m x y := by
 have h1 := Nat.mod_lt x hp
 have h2 := Nat.mod_lt y hp
 have h3 := Nat.mod_lt (x - y) hp
 have e : ((x - y) % m + y % m) % m = x % m := by
  rw [← Nat.add_mod, Nat.sub_add_cancel h]
 unfold bwm
 by_cases hs : (x - y) % m + y % m < m
 ·rw [Nat.mod_eq_of_lt hs] at e
  rw [if_neg (by omega)]; omega
 ·rw [Nat.mod_eq_sub_mod (by omega), Nat.mod_eq_of_lt (by omega)] at e
  rw [if_pos (by omega)]; omega
theorem diff_eq (x y i : Nat) (h : y ≤ x) : dg (x - y) i + bw x y i + dg y i = dg x i + 4294967296 * bw x y (i + 1) := by
 have hp := Nat.pow_pos (n := i) (show 0 < 4294967296 by omega)
 have e1 := diff_mod (4294967296 ^ i) x y hp h
 have e2 := diff_mod (4294967296 ^ (i + 1)) x y (Nat.pow_pos (by omega)) h
 rw [mod_succ (x - y), mod_succ x, mod_succ y] at e2
 show dg (x - y) i + bwm (4294967296 ^ i) x y + dg y i = dg x i + 4294967296 * bwm (4294967296 ^ (i + 1)) x y
 generalize bwm (4294967296 ^ i) x y = b at *
 generalize bwm (4294967296 ^ (i + 1)) x y = b' at *
 rw [Nat.pow_succ] at e2
 generalize 4294967296 ^ i = m at *
 have e3 : m * (dg (x - y) i + b + dg y i) = m * (dg x i + 4294967296 * b') := by
  rw [Nat.mul_add, Nat.mul_add, Nat.mul_add, ← Nat.mul_assoc]
  omega
 exact Nat.eq_of_mul_eq_mul_left hp e3
def difFn (x y i : Nat) : Nat → Nat := fun k => if k < i then dg (x - y) k else dg x k
theorem difFn_zero (x y n : Nat) : arr .u32 (difFn x y 0) n = arr .u32 (dg x) n := by
 apply arr_congr; intro k _; unfold difFn; rw [if_neg (by omega)]
theorem difFn_at (x y i : Nat) : difFn x y i i = dg x i := by unfold difFn; rw [if_neg (by omega)]
theorem difFn_succ (x y i : Nat) : upd (difFn x y i) i (dg (x - y) i) = difFn x y (i + 1) := by
 funext k
 unfold upd difFn
 by_cases h : k = i
 ·subst h; rw [if_pos rfl, if_pos (by omega)]
 ·rw [if_neg h]
  by_cases h2 : k < i
  ·rw [if_pos h2, if_pos (by omega)]
  ·rw [if_neg h2, if_neg (by omega)]
theorem difFn_all (x y n : Nat) : arr .u32 (difFn x y n) n = arr .u32 (dg (x - y)) n := by
 apply arr_congr; intro k hk; unfold difFn; rw [if_pos hk]
set_option maxRecDepth 100000 in
set_option maxHeartbeats 400000 in
theorem sub_small (x y : Nat) (w : World) (hle : y ≤ x) (h8 : fits8 x = true) (h9 : fits8 y = true) : Calls Tryz.prog 151 #[.string (mag x), .string (mag y)] w fun e w' => e = .returned (.string (mag (x - y))) ∧ Below w.heap.size w w' := by
 have hw := words_c x y w (by unfold fits8 at h8; simp at h8; omega) (by unfold fits8 at h9; simp at h9; omega)
 have hl := wv_lt x
 rw [wv_of x h8] at hl
 rw [h8, h9, wv_of x h8, wv_of y h9] at hw
 have H := Lib.hid hw
 have hm := fun w => magnitude_c (x - y) w (by omega)
 obtain ⟨z, hz⟩ : ∃ z, x - y = z := ⟨_, rfl⟩
 rw [hz] at hm ⊢
 have hs : IntKind.u64.wrap ((x : Int) - (y : Int)) = (z : Int) := by rw [IntKind.wrap_u64]; omega
 have HM := Lib.hid hm
 clear hw h8 h9 hm hz hl hle
 go_enter Tryz.func151, Tryz.ntmps151
 go_wp2_with fail
 (refine (H.out).mono ?_; rintro e w' ⟨rfl, rfl⟩)
 (go_wp2_with fail; refine (HM.out _).mono ?_; rintro e w' ⟨rfl, hb⟩; (first | (with_reducible (have hb2 := World.plus_of_below ((World.below_plus _ _).trans (hb.mono (World.size_plus _ _)))); obtain ⟨u, rfl⟩ := hb2) | (obtain ⟨u, rfl⟩ := World.plus_of_below hb)); clear hb)
 go_wp2_with fail
 go_ret
 exact ⟨rfl, by (repeat' (first | (with_reducible first | exact Below.refl _ _ | assumption | refine Below.plus0 ?_ _ | refine Below.alloc0 ?_ _ | refine Below.plus ?_ ?_ _ | refine Below.alloc ?_ ?_ _ | refine Below.drew ?_ | refine Below.drewN ?_ _) | (simp [go_sem]; done) | (simp [go_sem]; omega)))⟩
theorem dif_digit (x y i : Nat) (h : y ≤ x) (hd : (dg x i : Int) - bw x y i - dg y i < 0) : (dg x i : Int) - bw x y i - dg y i + 4294967296 = (dg (x - y) i : Int) ∧ bw x y (i + 1) = 1 := by
 have h1 := diff_eq x y i h
 have h2 := bw_le x y (i + 1)
 have h3 := dg_lt (x - y) i
 omega
theorem dif_digit' (x y i : Nat) (h : y ≤ x) (hd : ¬ (dg x i : Int) - bw x y i - dg y i < 0) : (dg x i : Int) - bw x y i - dg y i = (dg (x - y) i : Int) ∧ bw x y (i + 1) = 0 := by
 have h1 := diff_eq x y i h
 have h2 := bw_le x y (i + 1)
 have h3 := dg_lt (x - y) i
 have h4 := dg_lt x i
 omega
set_option maxRecDepth 100000 in
set_option maxHeartbeats 800000 in
theorem sub_big (x y nx ny : Nat) (w : World) (hx : (mag x).size ≤ 4294967296) (hy : (mag y).size ≤ 4294967296) (hnx : nd 4294967296 x = nx) (hny : nd 4294967296 y = ny) (hbig : (fits8 x && fits8 y) = false) (hxy : y ≤ x) :
    Calls Tryz.prog 151 #[.string (mag x), .string (mag y)] w fun e w' => e = .returned (.string (mag (x - y))) ∧ Below w.heap.size w w' := by
 have hw := fun w => words_c x y w hx hy
 have hle : ny ≤ nx := by rw [← hnx, ← hny]; exact nd_mono _ (by omega) y x hxy
 rw [hbig] at hw
 clear hbig
 have H := Lib.hid hw
 have hdx := fun w => digits_c x w hx
 have hdy := fun w => digits_c y w hy
 rw [hnx] at hdx
 rw [hny] at hdy
 have HX := Lib.hid hdx
 have HY := Lib.hid hdy
 have hxl : x < 4294967296 ^ nx := by rw [← hnx]; exact lt_pow_nd _ (by omega) x
 have hyl : y < 4294967296 ^ ny := by rw [← hny]; exact lt_pow_nd _ (by omega) y
 have hnx2 : nx ≤ 1073741825 := by rw [← hnx, ← up4_nd]; unfold up4; omega
 have HXL := Lib.hid hxl
 have HYL := Lib.hid hyl
 have HXY := Lib.hid hxy
 have HT := Lib.hid (Nat.lt_of_le_of_lt (Nat.sub_le x y) hxl)
 have HMK := Lib.hid (fun w => make32 nx w (by omega))
 clear hw hdx hdy hnx hny hxl hyl hxy
 go_enter Tryz.func151, Tryz.ntmps151
 go_wp2_with fail
 (refine (H.out _).mono ?_; rintro e w' ⟨rfl, rfl⟩)
 go_wp2_with fail
 refine (HX.out _).mono ?_
 rintro e w' ⟨rfl, k1, rfl⟩
 go_wp2_with fail
 refine (HY.out _).mono ?_
 rintro e w' ⟨rfl, k2, rfl⟩
 go_wp2_with fail
 have hmk := HMK.out
 have hcp := fun ty k => copy_fresh ((w.alloc (.cells (arr .u32 (dg x) nx) 162)).alloc (.cells (arr .u32 (dg y) ny) 162)) (w.heap.size + 1 + 1) (w.heap.size) nx nx nx nx k ty (dg x) (by simp) (by omega) (by simp; try omega) (fun i hi => by simp [go_sem, arr_get _ _ _ _ hi]) (fun i hi => dg_big x nx i HXL.out hi)
 simp only [hmk]
 go_wp2_with fail
 clear hcp hmk
 have H0 := Lib.hid (difFn_zero x y nx)
 have HC0 := Lib.hid (bw_zero x y)
 go_loopw [11, 38] (fun c v wr => ∃ i : Nat, i ≤ nx ∧ v = .int .i64 i ∧ c = .int .i64 (bw x y i : Int) ∧ wr = (((w.alloc (.cells (arr .u32 (dg x) nx) 162)).alloc (.cells (arr .u32 (dg y) ny) 162)).alloc (.cells (arr .u32 (difFn x y i) nx) 162)).drewN (k1 + k2)) (fun _ v _ => nx - (intOf v).toNat)
 case atStart => exact ⟨0, Nat.zero_le _, rfl, by rw [HC0.out]; rfl, by rw [H0.out]⟩
 case round =>
  obtain ⟨i, hi, rfl, rfl, rfl⟩ := hrel
  have hcy := bw_le x y i
  have hdx1 := dg_lt x i
  have hdy1 := dg_lt y i
  by_cases hlt : i < nx
  ·have hg := arr_get .u32 (difFn x y i) nx i hlt
   rw [difFn_at] at hg
   have HS3 := Lib.hid (difFn_succ x y i)
   by_cases hly : i < ny
   ·have hgy := arr_get .u32 (dg y) ny i hly
    by_cases hd : (dg x i : Int) - bw x y i - dg y i < 0
    ·obtain ⟨h1, h2⟩ := dif_digit x y i HXY.out hd
     have HS1 := Lib.hid h1
     have HS2 := Lib.hid h2
     clear h1 h2
     go_wp2_with fail
     refine ⟨⟨i + 1, by omega, by go_num, by rw [HS2.out]; rfl, ?_⟩, by simp [intOf]; omega⟩
     rw [HS1.out, arr_set, HS3.out]
    ·obtain ⟨h1, h2⟩ := dif_digit' x y i HXY.out hd
     have HS1 := Lib.hid h1
     have HS2 := Lib.hid h2
     clear h1 h2
     go_wp2_with fail
     refine ⟨⟨i + 1, by omega, by go_num, by rw [HS2.out]; rfl, ?_⟩, by simp [intOf]; omega⟩
     rw [HS1.out, arr_set, HS3.out]
   ·have hy0 := dg_big y ny i HYL.out (by omega)
    by_cases hd : (dg x i : Int) - bw x y i < 0
    ·obtain ⟨h1, h2⟩ := dif_digit x y i HXY.out (by omega)
     have HS1 := Lib.hid (show (dg x i : Int) - bw x y i + 4294967296 = (dg (x - y) i : Int) by omega)
     have HS2 := Lib.hid h2
     clear h1 h2 hy0
     go_wp2_with fail
     refine ⟨⟨i + 1, by omega, by go_num, by rw [HS2.out]; rfl, ?_⟩, by simp [intOf]; omega⟩
     rw [HS1.out, arr_set, HS3.out]
    ·obtain ⟨h1, h2⟩ := dif_digit' x y i HXY.out (by omega)
     have HS1 := Lib.hid (show (dg x i : Int) - bw x y i = (dg (x - y) i : Int) by omega)
     have HS2 := Lib.hid h2
     clear h1 h2 hy0
     go_wp2_with fail
     refine ⟨⟨i + 1, by omega, by go_num, by rw [HS2.out]; rfl, ?_⟩, by simp [intOf]; omega⟩
     rw [HS1.out, arr_set, HS3.out]
  ·have e : i = nx := by omega
   subst e
   have HA := Lib.hid (difFn_all x y i)
   go_wp2_with fail
   rw [HA.out]
   refine (bytes_c (x - y) i i (w.heap.size + 1 + 1) _ HT.out (by omega) (Nat.le_refl _) (fun i hi => by simp [go_sem, arr_get _ _ _ _ hi]) (by simp [go_sem])).mono ?_
   rintro e w' ⟨rfl, hb⟩
   obtain ⟨u, rfl⟩ := World.plus_of_below hb
   clear hb
   go_wp2_with fail
   go_ret
   exact ⟨rfl, by (repeat' (first | (with_reducible first | exact Below.refl _ _ | assumption | refine Below.plus0 ?_ _ | refine Below.alloc0 ?_ _ | refine Below.plus ?_ ?_ _ | refine Below.alloc ?_ ?_ _ | refine Below.drew ?_ | refine Below.drewN ?_ _) | (simp [go_sem]; done) | (simp [go_sem]; omega)))⟩
theorem sub_c (x y : Nat) (w : World) (hx : (mag x).size ≤ 4294967296) (hy : (mag y).size ≤ 4294967296) (hle : y ≤ x) :
    Calls Tryz.prog 151 #[.string (mag x), .string (mag y)] w fun e w' => e = .returned (.string (mag (x - y))) ∧ Below w.heap.size w w' := by
 by_cases h8 : fits8 x = true
 ·by_cases h9 : fits8 y = true
  ·exact sub_small x y w hle h8 h9
  ·have hb : (fits8 x && fits8 y) = false := by simp at h9; rw [h9]; simp
   exact sub_big x y _ _ w hx hy rfl rfl hb hle
 ·have hb : (fits8 x && fits8 y) = false := by simp at h8; rw [h8]; simp
  exact sub_big x y _ _ w hx hy rfl rfl hb hle
end Go.Proofs.YthdaimoankaciaaGreatDoor
