import Derived.Test.YthdaimoankaciaaGreatDoorProg
import Derived.Test.YthdaimoankaciaaGreatDoorShelf
import Derived.Test.YthdaimoankaciaaGreatDoorIntF
/- The package integer: the ring operations. -/
set_option linter.unusedSimpArgs false
set_option linter.unusedVariables false
namespace Go.Proofs.YthdaimoankaciaaGreatDoor
open Go Go.RowKit
open Vi
set_option maxHeartbeats 400000 in
theorem Negate_c (x : Int) (w : World) : Calls Tryz.prog 116 #[.agg #[.bool (sg x), .string (mg x)]] w fun e w' => e = .returned (.agg #[.bool (sg (-x)), .string (mg (-x))]) ∧ Below w.heap.size w w' := by
 have hz : -x = if !sg x then -((x.natAbs : Nat) : Int) else (x.natAbs : Nat) := by
  by_cases h : x < 0
  ·rw [sg_true x h]; simp; omega
  ·rw [sg_false x (by omega)]; simp; omega
 have Hz := Lib.hid hz
 clear hz
 go_enter Tryz.func116, Tryz.ntmps116
 (go_wp2_with fail; refine (made_c _ (-x) x.natAbs Hz.out _).mono ?_; rintro e w' ⟨rfl, hb⟩; (first | (with_reducible (have hb2 := World.plus_of_below ((World.below_plus _ _).trans (hb.mono (World.size_plus _ _)))); obtain ⟨u, rfl⟩ := hb2) | (obtain ⟨u, rfl⟩ := World.plus_of_below hb)); clear hb)
 go_wp2_with fail
 refine bodyPost_ret (by simp [results, Tryz.results116, go_sem]; rfl) rfl ?_
 exact ⟨rfl, by (repeat' (first | (with_reducible first | exact Below.refl _ _ | assumption | refine Below.plus0 ?_ _ | refine Below.alloc0 ?_ _ | refine Below.plus ?_ ?_ _ | refine Below.alloc ?_ ?_ _ | refine Below.drew ?_ | refine Below.drewN ?_ _) | (simp [go_sem]; done) | (simp [go_sem]; omega)))⟩
theorem mul_sign (x y : Int) : x * y = if (!sg x == sg y) then -((x.natAbs * y.natAbs : Nat) : Int) else (x.natAbs * y.natAbs : Nat) := by
 rcases Int.lt_or_le x 0 with h | h <;> rcases Int.lt_or_le y 0 with h2 | h2
 ·rw [sg_true x h, sg_true y h2]
  simp only [beq_self_eq_true, Bool.not_true, Bool.false_eq_true, if_false]
  rw [Int.natCast_mul, nAbs_of_neg x h, nAbs_of_neg y h2, Int.neg_mul_neg]
 ·rw [sg_true x h, sg_false y h2]
  simp only [show (true == false) = false from rfl, Bool.not_false, if_true]
  rw [Int.natCast_mul, nAbs_of_neg x h, nAbs_of_nonneg y h2, Int.neg_mul, Int.neg_neg]
 ·rw [sg_false x h, sg_true y h2]
  simp only [show (false == true) = false from rfl, Bool.not_false, if_true]
  rw [Int.natCast_mul, nAbs_of_nonneg x h, nAbs_of_neg y h2, Int.mul_neg, Int.neg_neg]
 ·rw [sg_false x h, sg_false y h2]
  simp only [beq_self_eq_true, Bool.not_true, Bool.false_eq_true, if_false]
  rw [Int.natCast_mul, nAbs_of_nonneg x h, nAbs_of_nonneg y h2]
set_option maxHeartbeats 400000 in
theorem Mul_c (x y : Int) (w : World) (hx : (mg x).size ≤ 4294967296) (hy : (mg y).size ≤ 4294967296) : Calls Tryz.prog 107 #[.agg #[.bool (sg x), .string (mg x)], .agg #[.bool (sg y), .string (mg y)]] w fun e w' => e = .returned (.agg #[.bool (sg (x * y)), .string (mg (x * y))]) ∧ Below w.heap.size w w' := by
 have hz := Lib.hid (mul_sign x y)
 go_enter Tryz.func107, Tryz.ntmps107
 go_wp2
 ((first | (with_reducible refine wp_region_steady_plus_t 11 (by kernel_rfl) (by kernel_rfl) ?_) | refine wp_region_steady_t 11 (by kernel_rfl) (by kernel_rfl) ?_); simp only [List.take_succ_cons, List.take_zero, List.drop_succ_cons, List.drop_zero]; repeat go_big_quiet_step (first | (go_at_call 148; refine Calls.steady (mul_c x.natAbs y.natAbs _ hx hy)) | (go_at_call 146; refine Calls.steady (made_c _ (x * y) (x.natAbs * y.natAbs) hz.out _)))); (refine wpQuiet_nil ?_; rintro _ ⟨u, rfl⟩)
 go_wp2
 refine bodyPost_ret (by simp [results, Tryz.results107, go_sem]; rfl) rfl ?_
 exact ⟨rfl, by (repeat' (first | (with_reducible first | exact Below.refl _ _ | assumption | refine Below.plus0 ?_ _ | refine Below.alloc0 ?_ _ | refine Below.plus ?_ ?_ _ | refine Below.alloc ?_ ?_ _ | refine Below.drew ?_ | refine Below.drewN ?_ _) | (simp [go_sem]; done) | (simp [go_sem]; omega)))⟩
theorem add_same (x y : Int) (h : sg x = sg y) : x + y = if sg x then -((x.natAbs + y.natAbs : Nat) : Int) else (x.natAbs + y.natAbs : Nat) := by
 unfold sg at h ⊢
 rw [decide_eq_decide] at h
 split
 ·rename_i h1; simp at h1; omega
 ·rename_i h1; simp at h1; omega
theorem add_left (x y : Int) (h : sg x ≠ sg y) (hle : y.natAbs ≤ x.natAbs) : x + y = if sg x then -((x.natAbs - y.natAbs : Nat) : Int) else (x.natAbs - y.natAbs : Nat) := by
 unfold sg at h ⊢
 rw [ne_eq, decide_eq_decide] at h
 split
 ·rename_i h1; simp at h1; omega
 ·rename_i h1; simp at h1; omega
theorem add_right (x y : Int) (h : sg x ≠ sg y) (hle : x.natAbs ≤ y.natAbs) : x + y = if sg y then -((y.natAbs - x.natAbs : Nat) : Int) else (y.natAbs - x.natAbs : Nat) := by
 rw [Int.add_comm]; exact add_left y x (fun e => h e.symm) hle
theorem cmpN_ge (x y : Nat) (h : y ≤ x) : ¬ cmpN x y < 0 := by unfold cmpN; repeat' split
                                                               all_goals omega
theorem cmpN_lt (x y : Nat) (h : x < y) : cmpN x y < 0 := by unfold cmpN; repeat' split
                                                             all_goals omega
set_option maxHeartbeats 400000 in
theorem Add_c (x y : Int) (w : World) (hx : (mg x).size ≤ 4294967296) (hy : (mg y).size ≤ 4294967296) : Calls Tryz.prog 109 #[.agg #[.bool (sg x), .string (mg x)], .agg #[.bool (sg y), .string (mg y)]] w fun e w' => e = .returned (.agg #[.bool (sg (x + y)), .string (mg (x + y))]) ∧ Below w.heap.size w w' := by
 by_cases h : sg x = sg y
 ·have hz := Lib.hid (add_same x y h)
  have hb : (sg x == sg y) = true := by simp [h]
  clear h
  go_enter Tryz.func109, Tryz.ntmps109
  go_wp2
  ((first | (with_reducible refine wp_region_steady_plus_t 8 (by kernel_rfl) (by kernel_rfl) ?_) | refine wp_region_steady_t 8 (by kernel_rfl) (by kernel_rfl) ?_); simp only [List.take_succ_cons, List.take_zero, List.drop_succ_cons, List.drop_zero]; repeat go_big_quiet_step (first | (go_at_call 149; refine Calls.steady (add_c x.natAbs y.natAbs _ hx hy)) | (go_at_call 146; refine Calls.steady (made_c _ (x + y) (x.natAbs + y.natAbs) hz.out _)))); (refine wpQuiet_nil ?_; rintro _ ⟨u, rfl⟩)
  go_wp2
  refine bodyPost_ret (by simp [results, Tryz.results109, go_sem]; rfl) rfl ?_
  exact ⟨rfl, by (repeat' (first | (with_reducible first | exact Below.refl _ _ | assumption | refine Below.plus0 ?_ _ | refine Below.alloc0 ?_ _ | refine Below.plus ?_ ?_ _ | refine Below.alloc ?_ ?_ _ | refine Below.drew ?_ | refine Below.drewN ?_ _) | (simp [go_sem]; done) | (simp [go_sem]; omega)))⟩
 ·have hb : (sg x == sg y) = false := by simp [h]
  by_cases hle : y.natAbs ≤ x.natAbs
  ·have hz := Lib.hid (add_left x y h hle)
   have hc := cmpN_ge _ _ hle
   clear h
   go_enter Tryz.func109, Tryz.ntmps109
   (go_wp2_with fail; refine (compare_c x.natAbs y.natAbs _ hx hy).mono ?_; rintro e w' ⟨rfl, hb⟩; (first | (with_reducible (have hb2 := World.plus_of_below ((World.below_plus _ _).trans (hb.mono (World.size_plus _ _)))); obtain ⟨u, rfl⟩ := hb2) | (obtain ⟨u, rfl⟩ := World.plus_of_below hb)); clear hb)
   go_wp2_with fail
   ((first | (with_reducible refine wp_region_steady_plus_t 8 (by kernel_rfl) (by kernel_rfl) ?_) | refine wp_region_steady_t 8 (by kernel_rfl) (by kernel_rfl) ?_); simp only [List.take_succ_cons, List.take_zero, List.drop_succ_cons, List.drop_zero]; repeat go_big_quiet_step (first | (go_at_call 151; refine Calls.steady (sub_c x.natAbs y.natAbs _ hx hy hle)) | (go_at_call 146; refine Calls.steady (made_c _ (x + y) (x.natAbs - y.natAbs) hz.out _)))); (refine wpQuiet_nil ?_; rintro _ ⟨u, rfl⟩)
   go_wp2
   refine bodyPost_ret (by simp [results, Tryz.results109, go_sem]; rfl) rfl ?_
   exact ⟨rfl, by (repeat' (first | (with_reducible first | exact Below.refl _ _ | assumption | refine Below.plus0 ?_ _ | refine Below.alloc0 ?_ _ | refine Below.plus ?_ ?_ _ | refine Below.alloc ?_ ?_ _ | refine Below.drew ?_ | refine Below.drewN ?_ _) | (simp [go_sem]; done) | (simp [go_sem]; omega)))⟩
  ·have hz := Lib.hid (add_right x y h (by omega))
   have hc := cmpN_lt x.natAbs y.natAbs (by omega)
   clear h
   go_enter Tryz.func109, Tryz.ntmps109
   (go_wp2_with fail; refine (compare_c x.natAbs y.natAbs _ hx hy).mono ?_; rintro e w' ⟨rfl, hb⟩; (first | (with_reducible (have hb2 := World.plus_of_below ((World.below_plus _ _).trans (hb.mono (World.size_plus _ _)))); obtain ⟨u, rfl⟩ := hb2) | (obtain ⟨u, rfl⟩ := World.plus_of_below hb)); clear hb)
   go_wp2_with fail
   ((first | (with_reducible refine wp_region_steady_plus_t 8 (by kernel_rfl) (by kernel_rfl) ?_) | refine wp_region_steady_t 8 (by kernel_rfl) (by kernel_rfl) ?_); simp only [List.take_succ_cons, List.take_zero, List.drop_succ_cons, List.drop_zero]; repeat go_big_quiet_step (first | (go_at_call 151; refine Calls.steady (sub_c y.natAbs x.natAbs _ hy hx (by omega))) | (go_at_call 146; refine Calls.steady (made_c _ (x + y) (y.natAbs - x.natAbs) hz.out _)))); (refine wpQuiet_nil ?_; rintro _ ⟨u, rfl⟩)
   go_wp2
   refine bodyPost_ret (by simp [results, Tryz.results109, go_sem]; rfl) rfl ?_
   exact ⟨rfl, by (repeat' (first | (with_reducible first | exact Below.refl _ _ | assumption | refine Below.plus0 ?_ _ | refine Below.alloc0 ?_ _ | refine Below.plus ?_ ?_ _ | refine Below.alloc ?_ ?_ _ | refine Below.drew ?_ | refine Below.drewN ?_ _) | (simp [go_sem]; done) | (simp [go_sem]; omega)))⟩
theorem mg_size_neg (y : Int) : (mg (-y)).size = (mg y).size := by unfold mg; rw [Int.natAbs_neg]
set_option maxHeartbeats 400000 in
theorem Sub_c (x y : Int) (w : World) (hx : (mg x).size ≤ 4294967296) (hy : (mg y).size ≤ 4294967296) : Calls Tryz.prog 108 #[.agg #[.bool (sg x), .string (mg x)], .agg #[.bool (sg y), .string (mg y)]] w fun e w' => e = .returned (.agg #[.bool (sg (x - y)), .string (mg (x - y))]) ∧ Below w.heap.size w w' := by
 rw [show x - y = x + -y by omega]
 have hy2 : (mg (-y)).size ≤ 4294967296 := by rw [mg_size_neg]; exact hy
 go_enter Tryz.func108, Tryz.ntmps108
 go_wp2
 ((first | (with_reducible refine wp_region_steady_plus_t 4 (by kernel_rfl) (by kernel_rfl) ?_) | refine wp_region_steady_t 4 (by kernel_rfl) (by kernel_rfl) ?_); simp only [List.take_succ_cons, List.take_zero, List.drop_succ_cons, List.drop_zero]; repeat go_big_quiet_step (first | (go_at_call 116; refine Calls.steady (Negate_c y _)) | (go_at_call 109; refine Calls.steady (Add_c x (-y) _ hx hy2)))); (refine wpQuiet_nil ?_; rintro _ ⟨u, rfl⟩)
 go_wp2
 refine bodyPost_ret (by simp [results, Tryz.results108, go_sem]; rfl) rfl ?_
 exact ⟨rfl, by (repeat' (first | (with_reducible first | exact Below.refl _ _ | assumption | refine Below.plus0 ?_ _ | refine Below.alloc0 ?_ _ | refine Below.plus ?_ ?_ _ | refine Below.alloc ?_ ?_ _ | refine Below.drew ?_ | refine Below.drewN ?_ _) | (simp [go_sem]; done) | (simp [go_sem]; omega)))⟩
end Go.Proofs.YthdaimoankaciaaGreatDoor
