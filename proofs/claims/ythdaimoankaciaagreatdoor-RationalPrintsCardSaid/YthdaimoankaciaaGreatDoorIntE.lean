import Derived.Test.YthdaimoankaciaaGreatDoorProg
import Derived.Test.YthdaimoankaciaaGreatDoorShelf
import Derived.Test.YthdaimoankaciaaGreatDoorIntA
import Derived.Test.YthdaimoankaciaaGreatDoorIntD
/- The package integer: mul returns the product of two magnitudes. -/
set_option linter.unusedSimpArgs false
set_option linter.unusedVariables false
namespace Go.Proofs.YthdaimoankaciaaGreatDoor
open Go Go.RowKit
open Vi
theorem mul64_c (x y : Nat) (hx : x < 2 ^ 64) (hy : y < 2 ^ 64) (w : World) : Calls Tryz.prog 177 #[.int .u64 (x : Int), .int .u64 (y : Int)] w fun e w' => e = .returned (.tuple #[.int .u64 ((x * y / 18446744073709551616 : Nat) : Int), .int .u64 ((x * y % 18446744073709551616 : Nat) : Int)]) ∧ w = w' :=
 (Tryz.bits_Mul64 x y hx hy w).mono fun _ _ ⟨he, hw⟩ => ⟨he, hw.symm⟩
set_option maxRecDepth 100000 in
set_option maxHeartbeats 400000 in
theorem mul_small (x y : Nat) (w : World) (h8 : fits8 x = true) (h9 : fits8 y = true) (h : x * y < 2 ^ 64) : Calls Tryz.prog 148 #[.string (mag x), .string (mag y)] w fun e w' => e = .returned (.string (mag (x * y))) ∧ Below w.heap.size w w' := by
 have hw := words_c x y w (by unfold fits8 at h8; simp at h8; omega) (by unfold fits8 at h9; simp at h9; omega)
 have hx64 := wv_lt x
 have hy64 := wv_lt y
 rw [h8, h9, wv_of x h8, wv_of y h9] at hw
 rw [wv_of x h8] at hx64
 rw [wv_of y h9] at hy64
 have H := Lib.hid hw
 have hm := fun w => mul64_c x y hx64 hy64 w
 obtain ⟨z, hz⟩ : ∃ z, x * y = z := ⟨_, rfl⟩
 rw [hz] at hm h ⊢
 rw [show z % 18446744073709551616 = z by omega, show z / 18446744073709551616 = 0 by omega] at hm
 have HM := Lib.hid hm
 have HG := Lib.hid (fun w => magnitude_c z w h)
 clear hw hm hx64 hy64 h8 h9 hz h
 go_enter Tryz.func148, Tryz.ntmps148
 go_wp2_with fail
 (refine (H.out).mono ?_; rintro e w' ⟨rfl, rfl⟩)
 go_wp2_with fail
 (refine (HM.out _).mono ?_; rintro e w' ⟨rfl, rfl⟩)
 (go_wp2_with fail; refine (HG.out _).mono ?_; rintro e w' ⟨rfl, hb⟩; (first | (with_reducible (have hb2 := World.plus_of_below ((World.below_plus _ _).trans (hb.mono (World.size_plus _ _)))); obtain ⟨u, rfl⟩ := hb2) | (obtain ⟨u, rfl⟩ := World.plus_of_below hb)); clear hb)
 go_wp2_with fail
 go_ret
 exact ⟨rfl, by (repeat' (first | (with_reducible first | exact Below.refl _ _ | assumption | refine Below.plus0 ?_ _ | refine Below.alloc0 ?_ _ | refine Below.plus ?_ ?_ _ | refine Below.alloc ?_ ?_ _ | refine Below.drew ?_ | refine Below.drewN ?_ _) | (simp [go_sem]; done) | (simp [go_sem]; omega)))⟩
def my (o d y i k : Nat) : Nat := (o % 4294967296 ^ (i + k) + 4294967296 ^ i * (d * (y % 4294967296 ^ k))) / 4294967296 ^ (i + k)
theorem my_zero (o d y i : Nat) : my o d y i 0 = 0 := by
 unfold my
 rw [Nat.pow_zero, Nat.mod_one, Nat.mul_zero, Nat.mul_zero, Nat.add_zero, Nat.add_zero]
 exact Nat.div_eq_of_lt (Nat.mod_lt _ (Nat.pow_pos (by omega)))
theorem my_lt (o d y i k : Nat) (hd : d < 4294967296) : my o d y i k < 4294967296 := by
 unfold my
 have hM : 0 < 4294967296 ^ (i + k) := Nat.pow_pos (by omega)
 rw [Nat.div_lt_iff_lt_mul hM]
 have h1 := Nat.mod_lt o hM
 have h2 := Nat.mod_lt y (Nat.pow_pos (n := k) (show 0 < 4294967296 by omega))
 have h3 : 4294967296 ^ i * (d * (y % 4294967296 ^ k)) ≤ 4294967296 ^ i * (4294967295 * 4294967296 ^ k) :=
  Nat.mul_le_mul_left _ (Nat.mul_le_mul (by omega) (by omega))
 have h4 : 4294967296 ^ i * (4294967295 * 4294967296 ^ k) = 4294967295 * 4294967296 ^ (i + k) := by
  rw [Nat.mul_left_comm, Nat.pow_add]
 omega
theorem my_step (o d y i k : Nat) : my o d y i k + dg o (i + k) + d * dg y k = dg (o + 4294967296 ^ i * (d * y)) (i + k) + 4294967296 * my o d y i (k + 1) := by
 have hM : 0 < 4294967296 ^ (i + k) := Nat.pow_pos (by omega)
 have e1 : o % 4294967296 ^ (i + (k + 1)) + 4294967296 ^ i * (d * (y % 4294967296 ^ (k + 1))) = (o % 4294967296 ^ (i + k) + 4294967296 ^ i * (d * (y % 4294967296 ^ k))) + 4294967296 ^ (i + k) * (dg o (i + k) + d * dg y k) := by
  rw [← Nat.add_assoc i k 1, mod_succ o, mod_succ y, Nat.pow_add 4294967296 i k]
  simp only [Nat.mul_add]
  rw [Nat.mul_left_comm d (4294967296 ^ k), Nat.mul_assoc (4294967296 ^ i)  (4294967296 ^ k) (d * dg y k)]
  omega
 have e2 : (o % 4294967296 ^ (i + (k + 1)) + 4294967296 ^ i * (d * (y % 4294967296 ^ (k + 1)))) / 4294967296 ^ (i + k) = my o d y i k + (dg o (i + k) + d * dg y k) := by
  rw [e1, Nat.add_mul_div_left _ _ hM]; rfl
 have e3 : my o d y i (k + 1) = (my o d y i k + (dg o (i + k) + d * dg y k)) / 4294967296 := by
  rw [← e2, Nat.div_div_eq_div_mul, ← Nat.pow_succ]; rfl
 have e4 : dg (o + 4294967296 ^ i * (d * y)) (i + k) = (my o d y i k + (dg o (i + k) + d * dg y k)) % 4294967296 := by
  rw [← e2]
  unfold dg
  rw [← Nat.mod_mul_right_div_self, ← Nat.mod_mul_right_div_self (_ + _ : Nat), ← Nat.pow_succ]
  congr 1
  show _ = (o % 4294967296 ^ (i + k + 1) + 4294967296 ^ i * (d * (y % 4294967296 ^ (k + 1)))) % 4294967296 ^ (i + k + 1)
  have e5 : 4294967296 ^ i * (d * y) = 4294967296 ^ i * (d * (y % 4294967296 ^ (k + 1))) + 4294967296 ^ (i + k + 1) * (d * (y / 4294967296 ^ (k + 1))) := by
   rw [Nat.add_assoc, Nat.pow_add 4294967296 i (k + 1), Nat.mul_assoc, ← Nat.mul_add]
   congr 1
   rw [Nat.mul_left_comm, ← Nat.mul_add, Nat.mod_add_div]
  rw [e5, ← Nat.add_assoc, Nat.add_mul_mod_self_left, Nat.mod_add_mod]
 rw [e3, e4, Nat.mod_add_div]; omega
theorem dg_add_low (o i z p : Nat) (h : p < i) : dg (o + 4294967296 ^ i * z) p = dg o p := by
 unfold dg
 rw [← Nat.mod_mul_right_div_self, ← Nat.mod_mul_right_div_self, ← Nat.pow_succ]
 congr 1
 obtain ⟨m, rfl⟩ : ∃ m, i = (p + 1) + m := ⟨i - (p + 1), by omega⟩
 rw [Nat.pow_add, Nat.mul_assoc, Nat.add_mul_mod_self_left]
def mulFn (o t i k : Nat) : Nat → Nat := fun p => if p < i + k then dg t p else dg o p
theorem mulFn_zero (o z i n : Nat) : arr .u32 (dg o) n = arr .u32 (mulFn o (o + 4294967296 ^ i * z) i 0) n := by
 apply arr_congr; intro p _; unfold mulFn
 split
 ·rw [dg_add_low _ _ _ _ (by omega)]
 ·rfl
theorem mulFn_at (o t i k : Nat) : mulFn o t i k (i + k) = dg o (i + k) := by unfold mulFn; rw [if_neg (by omega)]
theorem mulFn_succ (o t i k : Nat) : upd (mulFn o t i k) (i + k) (dg t (i + k)) = mulFn o t i (k + 1) := by
 funext p
 unfold upd mulFn
 by_cases h : p = i + k
 ·subst h; rw [if_pos rfl, if_pos (by omega)]
 ·rw [if_neg h]
  by_cases h2 : p < i + k
  ·rw [if_pos h2, if_pos (by omega)]
  ·rw [if_neg h2, if_neg (by omega)]
theorem row_lt (o d y i n : Nat) (ho : o < 4294967296 ^ (i + n)) (hy : y < 4294967296 ^ n) (hd : d < 4294967296) : o + 4294967296 ^ i * (d * y) < 4294967296 ^ (i + n + 1) := by
 have h3 : 4294967296 ^ i * (d * y) ≤ 4294967296 ^ i * (4294967295 * 4294967296 ^ n) :=
  Nat.mul_le_mul_left _ (Nat.mul_le_mul (by omega) (by omega))
 have h4 : 4294967296 ^ i * (4294967295 * 4294967296 ^ n) = 4294967295 * 4294967296 ^ (i + n) := by
  rw [Nat.mul_left_comm, Nat.pow_add]
 rw [Nat.pow_succ]
 omega
theorem my_last (o d y i n : Nat) (ho : o < 4294967296 ^ (i + n)) (hy : y < 4294967296 ^ n) (hd : d < 4294967296) : my o d y i n = dg (o + 4294967296 ^ i * (d * y)) (i + n) := by
 have h := row_lt o d y i n ho hy hd
 unfold my dg
 rw [Nat.mod_eq_of_lt ho, Nat.mod_eq_of_lt hy]
 symm
 apply Nat.mod_eq_of_lt
 rw [Nat.div_lt_iff_lt_mul (Nat.pow_pos (by omega)), show 4294967296 * 4294967296 ^ (i + n) = 4294967296 ^ (i + n + 1) by rw [Nat.pow_succ, Nat.mul_comm]]
 exact h
theorem mulFn_all (o d y i n m : Nat) (ho : o < 4294967296 ^ (i + n)) (hy : y < 4294967296 ^ n) (hd : d < 4294967296) :
    arr .u32 (upd (mulFn o (o + 4294967296 ^ i * (d * y)) i n) (i + n) (my o d y i n)) m = arr .u32 (dg (o + 4294967296 ^ i * (d * y))) m := by
 have h := row_lt o d y i n ho hy hd
 apply arr_congr
 intro p _
 unfold upd mulFn
 by_cases h1 : p = i + n
 ·subst h1; rw [if_pos rfl, my_last o d y i n ho hy hd]
 ·rw [if_neg h1]
  by_cases h2 : p < i + n
  ·rw [if_pos h2]
  ·rw [if_neg h2, dg_big o (i + n) p ho (by omega), dg_big _ (i + n + 1) p h (by omega)]
theorem part_mul (x y i : Nat) : x % 4294967296 ^ i * y + 4294967296 ^ i * (dg x i * y) = x % 4294967296 ^ (i + 1) * y := by
 rw [mod_succ, Nat.add_mul, Nat.mul_assoc]
theorem make32t (n m : Nat) (w : World) (h : n + m ≤ 8589934591) : (Instr.makeSlice 159 (.int .i64 ((n : Int) + (m : Int) + 1)) (.int .i64 ((n : Int) + (m : Int) + 1))).run Tryz.prog w = .ok (.slice (some ⟨w.heap.size, 0, none⟩) (n + m + 1) (n + m + 1)) (w.alloc (.cells (arr .u32 (fun _ => 0) (n + m + 1)) 162)) :=
 make32 (n + m + 1) w (by omega)
theorem zero_row (n x y : Nat) : arr .u32 (fun _ => 0) n = arr .u32 (dg (x % 4294967296 ^ 0 * y)) n := by
 apply arr_congr; intro i _; rw [Nat.pow_zero, Nat.mod_one, Nat.zero_mul, dg_zero]
theorem prod_lt (x y nx ny : Nat) (hx : x < 4294967296 ^ nx) (hy : y < 4294967296 ^ ny) : x * y < 4294967296 ^ (nx + ny + 1) := by
 have h1 : x * y ≤ 4294967296 ^ nx * 4294967296 ^ ny := Nat.mul_le_mul (by omega) (by omega)
 rw [← Nat.pow_add] at h1
 have h2 : 0 < 4294967296 ^ (nx + ny) := Nat.pow_pos (by omega)
 rw [Nat.pow_succ]; omega
theorem part_lt (x y i n : Nat) (hy : y < 4294967296 ^ n) : x % 4294967296 ^ i * y < 4294967296 ^ (i + n) := by
 rw [Nat.pow_add]
 have h1 := Nat.mod_lt x (Nat.pow_pos (n := i) (show 0 < 4294967296 by omega))
 calc x % 4294967296 ^ i * y ≤ x % 4294967296 ^ i * 4294967296 ^ n := Nat.mul_le_mul_left _ (by omega)
  _ < 4294967296 ^ i * 4294967296 ^ n := Nat.mul_lt_mul_of_pos_right h1 (Nat.pow_pos (by omega))
set_option maxRecDepth 100000 in
set_option maxHeartbeats 1600000 in
theorem mul_big (x y nx ny : Nat) (w : World) (hx : (mag x).size ≤ 4294967296) (hy : (mag y).size ≤ 4294967296) (hnx : nd 4294967296 x = nx) (hny : nd 4294967296 y = ny) (hbig : (fits8 x && fits8 y) = false) :
    Calls Tryz.prog 148 #[.string (mag x), .string (mag y)] w fun e w' => e = .returned (.string (mag (x * y))) ∧ Below w.heap.size w w' := by
 have hw := fun w => words_c x y w hx hy
 rw [hbig] at hw
 clear hbig
 have H := Lib.hid hw
 have hdx := fun w => digits_c x w hx
 have hdy := fun w => digits_c y w hy
 rw [hnx] at hdx
 rw [hny] at hdy
 have HX := Lib.hid hdx
 have HY := Lib.hid hdy
 have hxl : x < 4294967296 ^ nx := by rw [← hnx]; exact lt_pow_nd _ (by omega) x
 have hyl : y < 4294967296 ^ ny := by rw [← hny]; exact lt_pow_nd _ (by omega) y
 have hnx2 : nx ≤ 1073741825 := by rw [← hnx, ← up4_nd]; unfold up4; omega
 have hny2 : ny ≤ 1073741825 := by rw [← hny, ← up4_nd]; unfold up4; omega
 have HXL := Lib.hid hxl
 have HYL := Lib.hid hyl
 have HT := Lib.hid (prod_lt x y nx ny hxl hyl)
 have HMK := Lib.hid (make32t nx ny · (by omega))
 clear hw hdx hdy hnx hny hxl hyl
 go_enter Tryz.func148, Tryz.ntmps148
 go_wp2_with fail
 (refine (H.out _).mono ?_; rintro e w' ⟨rfl, rfl⟩)
 go_wp2_with fail
 refine (HX.out _).mono ?_
 rintro e w' ⟨rfl, k1, rfl⟩
 go_wp2_with fail
 refine (HY.out _).mono ?_
 rintro e w' ⟨rfl, k2, rfl⟩
 go_wp2_with fail
 have hmk := HMK.out
 simp only [hmk]
 clear hmk
 go_wp2_with fail
 have H0 := Lib.hid (zero_row (nx + ny + 1) x y)
 go_loopw [48] (fun v wr => ∃ i k3 : Nat, i ≤ nx ∧ v = .int .i64 i ∧ wr = (((w.alloc (.cells (arr .u32 (dg x) nx) 162)).alloc (.cells (arr .u32 (dg y) ny) 162)).alloc (.cells (arr .u32 (dg (x % 4294967296 ^ i * y)) (nx + ny + 1)) 162)).drewN k3) (fun v _ => nx - (intOf v).toNat)
 case atStart => exact ⟨0, k1 + k2, Nat.zero_le _, rfl, by rw [H0.out]⟩
 case round =>
  obtain ⟨i, k3, hi, rfl, rfl⟩ := hrel
  by_cases hlt : i < nx
  ·have hgx := arr_get .u32 (dg x) nx i hlt
   have hdx1 := dg_lt x i
   go_wp2_with fail
   clear hgx
   obtain ⟨o, ho⟩ : ∃ o, o = x % 4294967296 ^ i * y := ⟨_, rfl⟩
   have hol := part_lt x y i ny HYL.out
   rw [← ho] at hol ⊢
   have HOL := Lib.hid hol
   have HO := Lib.hid ho
   clear ho hol
   obtain ⟨d, hd⟩ : ∃ d, d = dg x i := ⟨_, rfl⟩
   rw [← hd] at hdx1 ⊢
   have HD := Lib.hid hd
   clear hd
   obtain ⟨t, ht⟩ : ∃ t, t = o + 4294967296 ^ i * (d * y) := ⟨_, rfl⟩
   have HTT := Lib.hid ht
   have HZ := Lib.hid (mulFn_zero o (d * y) i (nx + ny + 1))
   rw [← ht] at HZ
   clear ht
   have HM0 := Lib.hid (my_zero o d y i)
   go_loopw [15, 55] (fun c v wr => ∃ k k3 : Nat, k ≤ ny ∧ v = .int .i64 k ∧ c = .int .u64 (my o d y i k : Int) ∧ wr = (((w.alloc (.cells (arr .u32 (dg x) nx) 162)).alloc (.cells (arr .u32 (dg y) ny) 162)).alloc (.cells (arr .u32 (mulFn o t i k) (nx + ny + 1)) 162)).drewN k3) (fun _ v _ => ny - (intOf v).toNat)
   case atStart => exact ⟨0, k3, Nat.zero_le _, rfl, by rw [HM0.out]; rfl, by rw [HZ.out]⟩
   case round =>
    obtain ⟨k, k3, hk, rfl, rfl, rfl⟩ := hrel
    by_cases hlt2 : k < ny
    ·have hgy := arr_get .u32 (dg y) ny k hlt2
     have hgo := arr_get .u32 (mulFn o t i k) (nx + ny + 1) (i + k) (by omega)
     rw [mulFn_at] at hgo
     have hst := my_step o d y i k
     rw [← HTT.out] at hst
     have hc1 := my_lt o d y i k hdx1
     have ho1 := dg_lt o (i + k)
     have hy1 := dg_lt y k
     have ht1 := dg_lt t (i + k)
     have hp1 : d * dg y k ≤ 4294967295 * 4294967295 := Nat.mul_le_mul (by omega) (by omega)
     obtain ⟨P, hP⟩ : ∃ P, P = d * dg y k := ⟨_, rfl⟩
     rw [← hP] at hst hp1
     have e1 : IntKind.u64.wrap ((d : Int) * (dg y k : Int)) = (P : Int) := by
      rw [← Int.natCast_mul, ← hP, IntKind.wrap_u64]; omega
     clear hP
     obtain ⟨Q, hQ⟩ : ∃ Q, Q = dg o (i + k) + P := ⟨_, rfl⟩
     have e2 : IntKind.u64.wrap ((dg o (i + k) : Int) + (P : Int)) = (Q : Int) := by
      rw [IntKind.wrap_u64]; omega
     obtain ⟨R, hR⟩ : ∃ R, R = my o d y i k + Q := ⟨_, rfl⟩
     have e3 : IntKind.u64.wrap ((my o d y i k : Int) + (Q : Int)) = (R : Int) := by
      rw [IntKind.wrap_u64]; omega
     have HR1 := Lib.hid (show (R : Int) % 4294967296 = (dg t (i + k) : Int) by omega)
     have HR2 := Lib.hid (show (R : Int) / 4294967296 = (my o d y i (k + 1) : Int) by omega)
     have HS3 := Lib.hid (mulFn_succ o t i k)
     have e4 : IntKind.i64.wrap ((i : Int) + (k : Int)) = (i : Int) + (k : Int) := IntWalk.i64_in _ (by omega)
     have e5 : (0 : Int) ≤ (i : Int) + (k : Int) := by omega
     have e6 : ((i : Int) + (k : Int)).toNat = i + k := by omega
     have e7 : (i : Int) + (k : Int) < (nx : Int) + (ny : Int) + 1 := by omega
     clear hst hQ hR ht1 hp1
     go_wp2_with fail
     (refine wp_region_exact (by kernel_rfl) (by kernel_rfl) ?_; repeat go_big_quiet_step (fail)); (refine wpQuiet_nil ?_; rintro _ rfl)
     clear e1 e2 e3 e4
     go_wp2_with fail
     refine ⟨⟨k + 1, k3 + 1, by omega, by go_num, by rw [HR2.out], ?_⟩, by simp [intOf]; omega⟩
     rw [HR1.out, arr_set, HS3.out]
    ·have e : k = ny := by omega
     subst e
     have hgo := arr_get .u32 (mulFn o t i k) (nx + k + 1) (i + k) (by omega)
     have hc1 := my_lt o d y i k hdx1
     have HF := Lib.hid (mulFn_all o d y i k (nx + k + 1) HOL.out HYL.out hdx1)
     have HN := Lib.hid (part_mul x y i)
     go_wp2_with fail
     refine ⟨⟨i + 1, k3, by omega, by go_num, ?_⟩, by simp [intOf]; omega⟩
     rw [arr_set, HTT.out, HF.out, HO.out, HD.out, HN.out]
  ·have e : i = nx := by omega
   subst e
   have HA := Lib.hid (Nat.mod_eq_of_lt HXL.out)
   go_wp2_with fail
   rw [HA.out]
   refine (bytes_c (x * y) (i + ny + 1) (i + ny + 1) (w.heap.size + 1 + 1) _ HT.out (by omega) (Nat.le_refl _) (fun j hj => by simp [go_sem, arr_get _ _ _ _ hj]) (by simp [go_sem])).mono ?_
   rintro e w' ⟨rfl, hb⟩
   obtain ⟨u, rfl⟩ := World.plus_of_below hb
   clear hb
   go_wp2_with fail
   go_ret
   exact ⟨rfl, by (repeat' (first | (with_reducible first | exact Below.refl _ _ | assumption | refine Below.plus0 ?_ _ | refine Below.alloc0 ?_ _ | refine Below.plus ?_ ?_ _ | refine Below.alloc ?_ ?_ _ | refine Below.drew ?_ | refine Below.drewN ?_ _) | (simp [go_sem]; done) | (simp [go_sem]; omega)))⟩
set_option maxRecDepth 100000 in
set_option maxHeartbeats 1600000 in
theorem mul_over (x y nx ny : Nat) (w : World) (hx : (mag x).size ≤ 4294967296) (hy : (mag y).size ≤ 4294967296) (hnx : nd 4294967296 x = nx) (hny : nd 4294967296 y = ny) (h8 : fits8 x = true) (h9 : fits8 y = true) (hov : ¬ x * y < 2 ^ 64) :
    Calls Tryz.prog 148 #[.string (mag x), .string (mag y)] w fun e w' => e = .returned (.string (mag (x * y))) ∧ Below w.heap.size w w' := by
 have hw := fun w => words_c x y w hx hy
 have hx64 := wv_lt x
 have hy64 := wv_lt y
 rw [h8, h9, wv_of x h8, wv_of y h9] at hw
 rw [wv_of x h8] at hx64
 rw [wv_of y h9] at hy64
 have hm := fun w => mul64_c x y hx64 hy64 w
 obtain ⟨zh, hzh⟩ : ∃ z, x * y / 18446744073709551616 = z := ⟨_, rfl⟩
 obtain ⟨zl, hzl⟩ : ∃ z, x * y % 18446744073709551616 = z := ⟨_, rfl⟩
 rw [hzh, hzl] at hm
 have hb : ((zh : Int) == 0) = false := by rw [beq_eq_false_iff_ne]; omega
 have HM := Lib.hid hm
 clear hx64 hy64 h8 h9 hm hzh hzl hov
 have H := Lib.hid hw
 have hdx := fun w => digits_c x w hx
 have hdy := fun w => digits_c y w hy
 rw [hnx] at hdx
 rw [hny] at hdy
 have HX := Lib.hid hdx
 have HY := Lib.hid hdy
 have hxl : x < 4294967296 ^ nx := by rw [← hnx]; exact lt_pow_nd _ (by omega) x
 have hyl : y < 4294967296 ^ ny := by rw [← hny]; exact lt_pow_nd _ (by omega) y
 have hnx2 : nx ≤ 1073741825 := by rw [← hnx, ← up4_nd]; unfold up4; omega
 have hny2 : ny ≤ 1073741825 := by rw [← hny, ← up4_nd]; unfold up4; omega
 have HXL := Lib.hid hxl
 have HYL := Lib.hid hyl
 have HT := Lib.hid (prod_lt x y nx ny hxl hyl)
 have HMK := Lib.hid (make32t nx ny · (by omega))
 clear hw hdx hdy hnx hny hxl hyl
 go_enter Tryz.func148, Tryz.ntmps148
 go_wp2_with fail
 (refine (H.out _).mono ?_; rintro e w' ⟨rfl, rfl⟩)
 go_wp2_with fail
 (refine (HM.out _).mono ?_; rintro e w' ⟨rfl, rfl⟩)
 go_wp2_with fail
 refine (HX.out _).mono ?_
 rintro e w' ⟨rfl, k1, rfl⟩
 go_wp2_with fail
 refine (HY.out _).mono ?_
 rintro e w' ⟨rfl, k2, rfl⟩
 go_wp2_with fail
 have hmk := HMK.out
 simp only [hmk]
 clear hmk
 go_wp2_with fail
 have H0 := Lib.hid (zero_row (nx + ny + 1) x y)
 go_loopw [48] (fun v wr => ∃ i k3 : Nat, i ≤ nx ∧ v = .int .i64 i ∧ wr = (((w.alloc (.cells (arr .u32 (dg x) nx) 162)).alloc (.cells (arr .u32 (dg y) ny) 162)).alloc (.cells (arr .u32 (dg (x % 4294967296 ^ i * y)) (nx + ny + 1)) 162)).drewN k3) (fun v _ => nx - (intOf v).toNat)
 case atStart => exact ⟨0, k1 + k2, Nat.zero_le _, rfl, by rw [H0.out]⟩
 case round =>
  obtain ⟨i, k3, hi, rfl, rfl⟩ := hrel
  by_cases hlt : i < nx
  ·have hgx := arr_get .u32 (dg x) nx i hlt
   have hdx1 := dg_lt x i
   go_wp2_with fail
   clear hgx
   obtain ⟨o, ho⟩ : ∃ o, o = x % 4294967296 ^ i * y := ⟨_, rfl⟩
   have hol := part_lt x y i ny HYL.out
   rw [← ho] at hol ⊢
   have HOL := Lib.hid hol
   have HO := Lib.hid ho
   clear ho hol
   obtain ⟨d, hd⟩ : ∃ d, d = dg x i := ⟨_, rfl⟩
   rw [← hd] at hdx1 ⊢
   have HD := Lib.hid hd
   clear hd
   obtain ⟨t, ht⟩ : ∃ t, t = o + 4294967296 ^ i * (d * y) := ⟨_, rfl⟩
   have HTT := Lib.hid ht
   have HZ := Lib.hid (mulFn_zero o (d * y) i (nx + ny + 1))
   rw [← ht] at HZ
   clear ht
   have HM0 := Lib.hid (my_zero o d y i)
   go_loopw [15, 55] (fun c v wr => ∃ k k3 : Nat, k ≤ ny ∧ v = .int .i64 k ∧ c = .int .u64 (my o d y i k : Int) ∧ wr = (((w.alloc (.cells (arr .u32 (dg x) nx) 162)).alloc (.cells (arr .u32 (dg y) ny) 162)).alloc (.cells (arr .u32 (mulFn o t i k) (nx + ny + 1)) 162)).drewN k3) (fun _ v _ => ny - (intOf v).toNat)
   case atStart => exact ⟨0, k3, Nat.zero_le _, rfl, by rw [HM0.out]; rfl, by rw [HZ.out]⟩
   case round =>
    obtain ⟨k, k3, hk, rfl, rfl, rfl⟩ := hrel
    by_cases hlt2 : k < ny
    ·have hgy := arr_get .u32 (dg y) ny k hlt2
     have hgo := arr_get .u32 (mulFn o t i k) (nx + ny + 1) (i + k) (by omega)
     rw [mulFn_at] at hgo
     have hst := my_step o d y i k
     rw [← HTT.out] at hst
     have hc1 := my_lt o d y i k hdx1
     have ho1 := dg_lt o (i + k)
     have hy1 := dg_lt y k
     have ht1 := dg_lt t (i + k)
     have hp1 : d * dg y k ≤ 4294967295 * 4294967295 := Nat.mul_le_mul (by omega) (by omega)
     obtain ⟨P, hP⟩ : ∃ P, P = d * dg y k := ⟨_, rfl⟩
     rw [← hP] at hst hp1
     have e1 : IntKind.u64.wrap ((d : Int) * (dg y k : Int)) = (P : Int) := by
      rw [← Int.natCast_mul, ← hP, IntKind.wrap_u64]; omega
     clear hP
     obtain ⟨Q, hQ⟩ : ∃ Q, Q = dg o (i + k) + P := ⟨_, rfl⟩
     have e2 : IntKind.u64.wrap ((dg o (i + k) : Int) + (P : Int)) = (Q : Int) := by
      rw [IntKind.wrap_u64]; omega
     obtain ⟨R, hR⟩ : ∃ R, R = my o d y i k + Q := ⟨_, rfl⟩
     have e3 : IntKind.u64.wrap ((my o d y i k : Int) + (Q : Int)) = (R : Int) := by
      rw [IntKind.wrap_u64]; omega
     have HR1 := Lib.hid (show (R : Int) % 4294967296 = (dg t (i + k) : Int) by omega)
     have HR2 := Lib.hid (show (R : Int) / 4294967296 = (my o d y i (k + 1) : Int) by omega)
     have HS3 := Lib.hid (mulFn_succ o t i k)
     have e4 : IntKind.i64.wrap ((i : Int) + (k : Int)) = (i : Int) + (k : Int) := IntWalk.i64_in _ (by omega)
     have e5 : (0 : Int) ≤ (i : Int) + (k : Int) := by omega
     have e6 : ((i : Int) + (k : Int)).toNat = i + k := by omega
     have e7 : (i : Int) + (k : Int) < (nx : Int) + (ny : Int) + 1 := by omega
     clear hst hQ hR ht1 hp1
     go_wp2_with fail
     (refine wp_region_exact (by kernel_rfl) (by kernel_rfl) ?_; repeat go_big_quiet_step (fail)); (refine wpQuiet_nil ?_; rintro _ rfl)
     clear e1 e2 e3 e4
     go_wp2_with fail
     refine ⟨⟨k + 1, k3 + 1, by omega, by go_num, by rw [HR2.out], ?_⟩, by simp [intOf]; omega⟩
     rw [HR1.out, arr_set, HS3.out]
    ·have e : k = ny := by omega
     subst e
     have hgo := arr_get .u32 (mulFn o t i k) (nx + k + 1) (i + k) (by omega)
     have hc1 := my_lt o d y i k hdx1
     have HF := Lib.hid (mulFn_all o d y i k (nx + k + 1) HOL.out HYL.out hdx1)
     have HN := Lib.hid (part_mul x y i)
     go_wp2_with fail
     refine ⟨⟨i + 1, k3, by omega, by go_num, ?_⟩, by simp [intOf]; omega⟩
     rw [arr_set, HTT.out, HF.out, HO.out, HD.out, HN.out]
  ·have e : i = nx := by omega
   subst e
   have HA := Lib.hid (Nat.mod_eq_of_lt HXL.out)
   go_wp2_with fail
   rw [HA.out]
   refine (bytes_c (x * y) (i + ny + 1) (i + ny + 1) (w.heap.size + 1 + 1) _ HT.out (by omega) (Nat.le_refl _) (fun j hj => by simp [go_sem, arr_get _ _ _ _ hj]) (by simp [go_sem])).mono ?_
   rintro e w' ⟨rfl, hb⟩
   obtain ⟨u, rfl⟩ := World.plus_of_below hb
   clear hb
   go_wp2_with fail
   go_ret
   exact ⟨rfl, by (repeat' (first | (with_reducible first | exact Below.refl _ _ | assumption | refine Below.plus0 ?_ _ | refine Below.alloc0 ?_ _ | refine Below.plus ?_ ?_ _ | refine Below.alloc ?_ ?_ _ | refine Below.drew ?_ | refine Below.drewN ?_ _) | (simp [go_sem]; done) | (simp [go_sem]; omega)))⟩
theorem mul_c (x y : Nat) (w : World) (hx : (mag x).size ≤ 4294967296) (hy : (mag y).size ≤ 4294967296) :
    Calls Tryz.prog 148 #[.string (mag x), .string (mag y)] w fun e w' => e = .returned (.string (mag (x * y))) ∧ Below w.heap.size w w' := by
 by_cases h8 : fits8 x = true
 ·by_cases h9 : fits8 y = true
  ·by_cases h : x * y < 2 ^ 64
   ·exact mul_small x y w h8 h9 h
   ·exact mul_over x y _ _ w hx hy rfl rfl h8 h9 h
  ·have hb : (fits8 x && fits8 y) = false := by simp at h9; rw [h9]; simp
   exact mul_big x y _ _ w hx hy rfl rfl hb
 ·have hb : (fits8 x && fits8 y) = false := by simp at h8; rw [h8]; simp
  exact mul_big x y _ _ w hx hy rfl rfl hb
end Go.Proofs.YthdaimoankaciaaGreatDoor
