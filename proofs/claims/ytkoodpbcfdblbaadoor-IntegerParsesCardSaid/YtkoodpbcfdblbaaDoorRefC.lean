import Derived.Test.YtkoodpbcfdblbaaDoorProg
import Derived.Test.YtkoodpbcfdblbaaDoorShelf
import Derived.Test.YtkoodpbcfdblbaaDoorKnown
import Derived.Test.YtkoodpbcfdblbaaDoorRefB
import Derived.Test.YtkoodpbcfdblbaaDoorKinds
set_option linter.unusedSimpArgs false
set_option linter.unusedVariables false
namespace Go.Proofs.YtkoodpbcfdblbaaDoor
open Go Go.RowKit
open Vi
theorem d8_lt_i64 (x i : Nat) : (0 : Int) ≤ (d8 x i : Int) ∧ (d8 x i : Int) < 256 := by have := d8_lt x i; omega
set_option maxHeartbeats 400000 in
theorem at_c (v : Value) (n x i : Nat) (w : World) (h : Dl w v n x) : Calls Tryd.prog 76 #[v, .int .i64 (i : Int)] w fun e w' => e = .returned (.int .i64 (d8 x i : Nat)) ∧ w = w' := by
  rcases h.2 with ⟨rfl, rfl⟩ | ⟨g, c, rfl, hc, hm, hg, hcell⟩
  · have e0 : d8 x i = 0 := d8_big x 0 i h.1 (Nat.zero_le _)
    rw [e0]
    have hi : ¬ (i : Int) < 0 := by omega
    clear h e0
    go_enter Tryd.func76, Tryd.ntmps76
    go_wp2
    go_ret
    exact ⟨rfl, rfl⟩
  · by_cases hi : i < n
    · have hci := hcell i hi
      have hi2 : (i : Int) < (n : Int) := by omega
      clear h hcell
      go_enter Tryd.func76, Tryd.ntmps76
      go_wp2
      go_ret
      exact ⟨rfl, rfl⟩
    · have e0 : d8 x i = 0 := d8_big x n i h.1 (by omega)
      rw [e0]
      have hi2 : ¬ (i : Int) < (n : Int) := by omega
      clear h hcell e0
      go_enter Tryd.func76, Tryd.ntmps76
      go_wp2
      go_ret
      exact ⟨rfl, rfl⟩
theorem Dl.lenForm {w : World} {v : Value} {n x : Nat} (h : Dl w v n x) : ∃ ao c, v = .slice ao n c := by
  rcases h.2 with ⟨rfl, rfl⟩ | ⟨g, c, rfl, _⟩
  · exact ⟨_, _, rfl⟩
  · exact ⟨_, _, rfl⟩
theorem d8_div (x p : Nat) : x / 256 ^ p = d8 x p + 256 * (x / 256 ^ (p + 1)) := by
  unfold d8
  rw [Nat.pow_succ, ← Nat.div_div_eq_div_mul]; omega
theorem cmp_lt_of (x y p : Nat) (h : x / 256 ^ (p + 1) = y / 256 ^ (p + 1)) (hd : d8 x p < d8 y p) : x < y := by
  have h1 := d8_div x p
  have h2 := d8_div y p
  have h3 : x / 256 ^ p < y / 256 ^ p := by omega
  apply Nat.lt_of_not_le
  intro hle
  have := Nat.div_le_div_right (c := 256 ^ p) hle
  omega
theorem cmpN_of_lt (x y : Nat) (h : x < y) : cmpN x y = -1 := by unfold cmpN; rw [if_pos h]
theorem cmpN_of_gt (x y : Nat) (h : y < x) : cmpN x y = 1 := by unfold cmpN; rw [if_neg (by omega), if_neg (by omega)]
theorem cmpN_of_eq (x y : Nat) (h : x = y) : cmpN x y = 0 := by unfold cmpN; rw [if_neg (by omega), if_pos h]
theorem div_step (x y q : Nat) (h : x / 256 ^ (q + 1) = y / 256 ^ (q + 1)) (hd : d8 x q = d8 y q) : x / 256 ^ q = y / 256 ^ q := by
  rw [d8_div x q, d8_div y q, h, hd]
set_option maxHeartbeats 800000 in
theorem order_c (v1 v2 : Value) (n m x y : Nat) (w : World) (h1 : Dl w v1 n x) (h2 : Dl w v2 m y) (hn : n ≤ 8589934592) (hm : m ≤ 8589934592) : Calls Tryd.prog 58 #[v1, v2] w fun e w' => e = .returned (.int .i64 (cmpN x y)) ∧ w = w' := by
  obtain ⟨a1, c1, e1⟩ := h1.lenForm
  obtain ⟨a2, c2, e2⟩ := h2.lenForm
  subst e1
  subst e2
  have hmax : max (n : Int) (m : Int) = ((max n m : Nat) : Int) := by omega
  obtain ⟨N, hN⟩ : ∃ N, N = max n m := ⟨_, rfl⟩
  rw [← hN] at hmax
  have hx : x / 256 ^ N = y / 256 ^ N := by
    rw [Nat.div_eq_of_lt (Nat.lt_of_lt_of_le h1.1 (Nat.pow_le_pow_right (by omega) (by omega))), Nat.div_eq_of_lt (Nat.lt_of_lt_of_le h2.1 (Nat.pow_le_pow_right (by omega) (by omega)))]
  have hNb : N ≤ 8589934592 := by omega
  have HX := Lib.hid hx
  have A1 := Lib.hid (fun i => at_c _ n x i w h1)
  have A2 := Lib.hid (fun i => at_c _ m y i w h2)
  clear hx hN h1 h2
  go_enter Tryd.func58, Tryd.ntmps58
  go_wp2_with fail
  go_loop [5] (fun i => ∃ p : Nat, p ≤ N ∧ i = .int .i64 ((p : Int) - 1) ∧ Hid (x / 256 ^ p = y / 256 ^ p)) (fun i => (intOf i + 1).toNat)
  case atStart => exact ⟨N, Nat.le_refl _, rfl, HX⟩
  case round =>
    obtain ⟨p, hp, rfl, HP⟩ := hrel
    cases p with
    | zero =>
      go_wp2_with fail
      go_ret
      refine ⟨?_, rfl⟩
      have := HP.out
      rw [Nat.pow_zero, Nat.div_one, Nat.div_one] at this
      rw [cmpN_of_eq x y this]; rfl
    | succ q =>
      have hq : ((q + 1 : Nat) : Int) - 1 = (q : Int) := by omega
      rw [hq]
      by_cases hlt : d8 x q < d8 y q
      · have H := Lib.hid (cmpN_of_lt x y (cmp_lt_of x y q HP.out hlt))
        have hl2 : (d8 x q : Int) < (d8 y q : Int) := by omega
        clear hlt
        go_wp2_with (go_at_call 76; (first | (with_reducible refine (A1.out _).mono ?_) | (with_reducible refine (A2.out _).mono ?_)); rintro e w' ⟨rfl, rfl⟩)
        go_ret
        exact ⟨by rw [H.out]; rfl, rfl⟩
      · by_cases hgt : d8 y q < d8 x q
        · have H := Lib.hid (cmpN_of_gt x y (cmp_lt_of y x q HP.out.symm hgt))
          have hl2 : ¬ (d8 x q : Int) < (d8 y q : Int) := by omega
          have hl3 : (d8 y q : Int) < (d8 x q : Int) := by omega
          clear hlt hgt
          go_wp2_with (go_at_call 76; (first | (with_reducible refine (A1.out _).mono ?_) | (with_reducible refine (A2.out _).mono ?_)); rintro e w' ⟨rfl, rfl⟩)
          go_ret
          exact ⟨by rw [H.out]; rfl, rfl⟩
        · have hd : d8 x q = d8 y q := by omega
          have H := Lib.hid (div_step x y q HP.out hd)
          have hl2 : ¬ (d8 x q : Int) < (d8 y q : Int) := by omega
          have hl3 : ¬ (d8 y q : Int) < (d8 x q : Int) := by omega
          clear hlt hgt hd
          go_wp2_with (go_at_call 76; (first | (with_reducible refine (A1.out _).mono ?_) | (with_reducible refine (A2.out _).mono ?_)); rintro e w' ⟨rfl, rfl⟩)
          refine ⟨⟨q, by omega, by go_num, H⟩, by first | (simp [intOf]; done) | (simp [intOf]; omega)⟩
set_option maxHeartbeats 400000 in
theorem rSign_c (x : Int) (w : World) (hx : (mg x).size ≤ 4294967296) : Calls Tryd.prog 20 #[.agg #[.bool (sg x), .string (mg x)]] w fun e w' => e = .returned (.int .i64 (cmpI x 0)) ∧ Below w.heap.size w w' := by
  by_cases h0 : x = 0
  · subst h0
    rw [show cmpI 0 0 = 0 from rfl, show mg 0 = ⟨#[]⟩ from rfl, show sg 0 = false from rfl]
    go_enter Tryd.func20, Tryd.ntmps20
    go_wp2
    go_ret
    exact ⟨rfl, by (repeat' (first | (with_reducible exact Below.refl _ _) | (with_reducible assumption) | (with_reducible refine Below.plus0 ?_ _) | (with_reducible refine Below.alloc0 ?_ _) | (with_reducible refine Below.plus ?_ ?_ _) | (with_reducible refine Below.alloc ?_ ?_ _) | (with_reducible refine Below.drew ?_) | (with_reducible refine Below.drewN ?_ _) | (simp [go_sem]; done) | (simp [go_sem]; omega)))⟩
  · have hsz : 0 < (mg x).size := by
      unfold mg; rw [size_mag]; exact nd_pos 256 (by omega) _ (by omega)
    have hz : ((mg x).size : Int) ≠ 0 := by omega
    have hzb : (((mg x).size : Int) == 0) = false := by simpa using hz
    by_cases h1 : x < 0
    · rw [show cmpI x 0 = -1 by unfold cmpI; rw [if_pos h1]]
      have hs := sg_true x h1
      go_enter Tryd.func20, Tryd.ntmps20
      go_wp2
      go_ret
      exact ⟨rfl, by (repeat' (first | (with_reducible exact Below.refl _ _) | (with_reducible assumption) | (with_reducible refine Below.plus0 ?_ _) | (with_reducible refine Below.alloc0 ?_ _) | (with_reducible refine Below.plus ?_ ?_ _) | (with_reducible refine Below.alloc ?_ ?_ _) | (with_reducible refine Below.drew ?_) | (with_reducible refine Below.drewN ?_ _) | (simp [go_sem]; done) | (simp [go_sem]; omega)))⟩
    · rw [show cmpI x 0 = 1 by unfold cmpI; rw [if_neg h1, if_neg h0]]
      have hs := sg_false x (by omega)
      go_enter Tryd.func20, Tryd.ntmps20
      go_wp2
      go_ret
      exact ⟨rfl, by (repeat' (first | (with_reducible exact Below.refl _ _) | (with_reducible assumption) | (with_reducible refine Below.plus0 ?_ _) | (with_reducible refine Below.alloc0 ?_ _) | (with_reducible refine Below.plus ?_ ?_ _) | (with_reducible refine Below.alloc ?_ ?_ _) | (with_reducible refine Below.drew ?_) | (with_reducible refine Below.drewN ?_ _) | (simp [go_sem]; done) | (simp [go_sem]; omega)))⟩
theorem wrap_cmp_mul (x y : Nat) (a b : Int) : IntKind.i64.wrap (cmpN x y * cmpI a b) = cmpN x y * cmpI a b := by
  unfold cmpN cmpI; repeat' split
  all_goals rfl
theorem agg_mg (x : Int) : num (mg x) = x.natAbs := num_mag _
set_option maxHeartbeats 400000 in
theorem rdig_c (x : Int) (w : World) (hx : (mg x).size ≤ 4294967296) : Calls Tryd.prog 53 #[.agg #[.bool (sg x), .string (mg x)]] w fun e w' => ∃ v, e = .returned v ∧ Dl w' v (mg x).size x.natAbs ∧ Below w.heap.size w w' := by
  have h := rdigits_c (sg x) (mg x) w hx
  rw [agg_mg] at h
  exact h
set_option maxRecDepth 100000 in
set_option maxHeartbeats 400000 in
theorem rCompare_same (x y : Int) (w : World) (hx : (mg x).size ≤ 4294967296) (hy : (mg y).size ≤ 4294967296) (h : cmpI x 0 = cmpI y 0) : Calls Tryd.prog 23 #[.agg #[.bool (sg x), .string (mg x)], .agg #[.bool (sg y), .string (mg y)]] w fun e w' => e = .returned (.int .i64 (cmpN x.natAbs y.natAbs * cmpI x 0)) ∧ Below w.heap.size w w' := by
  have hb : (cmpI x 0 != cmpI y 0) = false := by simp [h]
  have h1 := Lib.hid (fun w => rSign_c x w hx)
  have h2 := Lib.hid (fun w => rSign_c y w hy)
  have h3 := Lib.hid (fun w => rdig_c x w hx)
  have h4 := Lib.hid (fun w => rdig_c y w hy)
  have hmul : IntKind.i64.wrap (cmpN x.natAbs y.natAbs * cmpI x 0) = cmpN x.natAbs y.natAbs * cmpI x 0 := wrap_cmp_mul _ _ _ _
  clear h
  go_enter Tryd.func23, Tryd.ntmps23
  go_wp2_with fail
  ((first | (with_reducible refine wp_region_steady_plus (by kernel_rfl) (by kernel_rfl) ?_) | refine wp_region_steady (by kernel_rfl) (by kernel_rfl) ?_); repeat go_big_quiet_step (first | (go_at_call 20; first | (with_reducible refine Calls.steady (h1.out _)) | (with_reducible refine Calls.steady (h2.out _))))); (refine wpQuiet_nil ?_; rintro _ ⟨u, rfl⟩)
  go_wp2_with fail
  refine wp_region_facts (fun i v w9 => match i with
    | 0 => v = .agg #[.bool (sg x), .string (mg x)]
    | 1 => Dl w9 v (mg x).size x.natAbs
    | 2 => v = .agg #[.bool (sg y), .string (mg y)]
    | 3 => Dl w9 v (mg y).size y.natAbs
    | 4 => v = .int .i64 (cmpN x.natAbs y.natAbs)
    | 5 => v = .agg #[.bool (sg x), .string (mg x)]
    | 6 => v = .int .i64 (cmpI x 0)
    | 7 => v = .int .i64 (cmpN x.natAbs y.natAbs * cmpI x 0)
    | 8 => v = .int .i64 (cmpN x.natAbs y.natAbs * cmpI x 0)
    | _ => True) (by kernel_rfl) (by kernel_rfl) ?_ ?_ ?_
  · intro i v w1 w2 hb h
    match i, h with
    | 0, h => exact h
    | 1, h => exact Dl.below h hb
    | 2, h => exact h
    | 3, h => exact Dl.below h hb
    | 4, h => exact h
    | 5, h => exact h
    | 6, h => exact h
    | 7, h => exact h
    | 8, h => exact h
    | k + 9, h => exact trivial
  · refine KindSteps.cons ?_ ?_
    · intro xs w9 hw hd
      (first | (with_reducible have hw2 := World.plus_of_below ((World.below_plus _ _).trans (hw.mono (World.size_plus _ _))); obtain ⟨u, rfl⟩ := hw2) | (obtain ⟨u, rfl⟩ := World.plus_of_below hw))
      simp only [fill, Act.put, List.take_succ_cons, List.take_zero, List.drop_succ_cons, List.drop_zero, Nat.reduceAdd, Nat.zero_add, List.setIfInBounds_toArray, List.set_cons_succ, List.set_cons_zero, if_true, if_false, Nat.reduceEqDiff, reduceIte]
      go_wp2_with fail
      all_goals (first | exact Below.refl _ _ | exact ⟨by (repeat' (first | (with_reducible exact Below.refl _ _) | (with_reducible assumption) | (with_reducible refine Below.plus0 ?_ _) | (with_reducible refine Below.alloc0 ?_ _) | (with_reducible refine Below.plus ?_ ?_ _) | (with_reducible refine Below.alloc ?_ ?_ _) | (with_reducible refine Below.drew ?_) | (with_reducible refine Below.drewN ?_ _) | (simp [go_sem]; done) | (simp [go_sem]; omega))), _, rfl, rfl⟩ | exact ⟨rfl, by (repeat' (first | (with_reducible exact Below.refl _ _) | (with_reducible assumption) | (with_reducible refine Below.plus0 ?_ _) | (with_reducible refine Below.alloc0 ?_ _) | (with_reducible refine Below.plus ?_ ?_ _) | (with_reducible refine Below.alloc ?_ ?_ _) | (with_reducible refine Below.drew ?_) | (with_reducible refine Below.drewN ?_ _) | (simp [go_sem]; done) | (simp [go_sem]; omega))), _, rfl, rfl⟩ | exact ⟨by (repeat' (first | (with_reducible exact Below.refl _ _) | (with_reducible assumption) | (with_reducible refine Below.plus0 ?_ _) | (with_reducible refine Below.alloc0 ?_ _) | (with_reducible refine Below.plus ?_ ?_ _) | (with_reducible refine Below.alloc ?_ ?_ _) | (with_reducible refine Below.drew ?_) | (with_reducible refine Below.drewN ?_ _) | (simp [go_sem]; done) | (simp [go_sem]; omega))), rfl⟩ | (trace_state; fail))
    refine KindSteps.cons ?_ ?_
    · intro xs w9 hw hd
      (first | (with_reducible have hw2 := World.plus_of_below ((World.below_plus _ _).trans (hw.mono (World.size_plus _ _))); obtain ⟨u, rfl⟩ := hw2) | (obtain ⟨u, rfl⟩ := World.plus_of_below hw))
      simp only [fill, Act.put, List.take_succ_cons, List.take_zero, List.drop_succ_cons, List.drop_zero, Nat.reduceAdd, Nat.zero_add, List.setIfInBounds_toArray, List.set_cons_succ, List.set_cons_zero, if_true, if_false, Nat.reduceEqDiff, reduceIte]
      have f0 : (xs 0) = .agg #[.bool (sg x), .string (mg x)] := hd 0 (by kernel_rfl); simp only [f0]
      go_wp2_with (go_at_call 53; refine (h3.out _).mono ?_; rintro e w8 ⟨v, rfl, hdl, hb⟩)
      all_goals (first | exact Below.refl _ _ | exact hb | exact ⟨hb, _, rfl, hdl⟩ | exact ⟨rfl, hb, _, rfl, hdl⟩)
    refine KindSteps.cons ?_ ?_
    · intro xs w9 hw hd
      (first | (with_reducible have hw2 := World.plus_of_below ((World.below_plus _ _).trans (hw.mono (World.size_plus _ _))); obtain ⟨u, rfl⟩ := hw2) | (obtain ⟨u, rfl⟩ := World.plus_of_below hw))
      simp only [fill, Act.put, List.take_succ_cons, List.take_zero, List.drop_succ_cons, List.drop_zero, Nat.reduceAdd, Nat.zero_add, List.setIfInBounds_toArray, List.set_cons_succ, List.set_cons_zero, if_true, if_false, Nat.reduceEqDiff, reduceIte]
      go_wp2_with fail
      all_goals (first | exact Below.refl _ _ | exact ⟨by (repeat' (first | (with_reducible exact Below.refl _ _) | (with_reducible assumption) | (with_reducible refine Below.plus0 ?_ _) | (with_reducible refine Below.alloc0 ?_ _) | (with_reducible refine Below.plus ?_ ?_ _) | (with_reducible refine Below.alloc ?_ ?_ _) | (with_reducible refine Below.drew ?_) | (with_reducible refine Below.drewN ?_ _) | (simp [go_sem]; done) | (simp [go_sem]; omega))), _, rfl, rfl⟩ | exact ⟨rfl, by (repeat' (first | (with_reducible exact Below.refl _ _) | (with_reducible assumption) | (with_reducible refine Below.plus0 ?_ _) | (with_reducible refine Below.alloc0 ?_ _) | (with_reducible refine Below.plus ?_ ?_ _) | (with_reducible refine Below.alloc ?_ ?_ _) | (with_reducible refine Below.drew ?_) | (with_reducible refine Below.drewN ?_ _) | (simp [go_sem]; done) | (simp [go_sem]; omega))), _, rfl, rfl⟩ | exact ⟨by (repeat' (first | (with_reducible exact Below.refl _ _) | (with_reducible assumption) | (with_reducible refine Below.plus0 ?_ _) | (with_reducible refine Below.alloc0 ?_ _) | (with_reducible refine Below.plus ?_ ?_ _) | (with_reducible refine Below.alloc ?_ ?_ _) | (with_reducible refine Below.drew ?_) | (with_reducible refine Below.drewN ?_ _) | (simp [go_sem]; done) | (simp [go_sem]; omega))), rfl⟩ | (trace_state; fail))
    refine KindSteps.cons ?_ ?_
    · intro xs w9 hw hd
      (first | (with_reducible have hw2 := World.plus_of_below ((World.below_plus _ _).trans (hw.mono (World.size_plus _ _))); obtain ⟨u, rfl⟩ := hw2) | (obtain ⟨u, rfl⟩ := World.plus_of_below hw))
      simp only [fill, Act.put, List.take_succ_cons, List.take_zero, List.drop_succ_cons, List.drop_zero, Nat.reduceAdd, Nat.zero_add, List.setIfInBounds_toArray, List.set_cons_succ, List.set_cons_zero, if_true, if_false, Nat.reduceEqDiff, reduceIte]
      have f2 : (xs 2) = .agg #[.bool (sg y), .string (mg y)] := hd 2 (by kernel_rfl); simp only [f2]
      go_wp2_with (go_at_call 53; refine (h4.out _).mono ?_; rintro e w8 ⟨v, rfl, hdl, hb⟩)
      all_goals (first | exact Below.refl _ _ | exact hb | exact ⟨hb, _, rfl, hdl⟩ | exact ⟨rfl, hb, _, rfl, hdl⟩)
    refine KindSteps.cons ?_ ?_
    · intro xs w9 hw hd
      (first | (with_reducible have hw2 := World.plus_of_below ((World.below_plus _ _).trans (hw.mono (World.size_plus _ _))); obtain ⟨u, rfl⟩ := hw2) | (obtain ⟨u, rfl⟩ := World.plus_of_below hw))
      simp only [fill, Act.put, List.take_succ_cons, List.take_zero, List.drop_succ_cons, List.drop_zero, Nat.reduceAdd, Nat.zero_add, List.setIfInBounds_toArray, List.set_cons_succ, List.set_cons_zero, if_true, if_false, Nat.reduceEqDiff, reduceIte]
      have f1 : Dl _ (xs 1) (mg x).size x.natAbs := hd 1 (by kernel_rfl)
      have f3 : Dl _ (xs 3) (mg y).size y.natAbs := hd 3 (by kernel_rfl)
      go_wp2_with (go_at_call 58; refine (order_c _ _ _ _ _ _ _ f1 f3 (by omega) (by omega)).mono ?_; rintro e w8 ⟨rfl, rfl⟩)
      all_goals (first | exact Below.refl _ _ | exact hb | exact ⟨Below.refl _ _, _, rfl, rfl⟩ | exact ⟨rfl, Below.refl _ _, _, rfl, rfl⟩)
    refine KindSteps.cons ?_ ?_
    · intro xs w9 hw hd
      (first | (with_reducible have hw2 := World.plus_of_below ((World.below_plus _ _).trans (hw.mono (World.size_plus _ _))); obtain ⟨u, rfl⟩ := hw2) | (obtain ⟨u, rfl⟩ := World.plus_of_below hw))
      simp only [fill, Act.put, List.take_succ_cons, List.take_zero, List.drop_succ_cons, List.drop_zero, Nat.reduceAdd, Nat.zero_add, List.setIfInBounds_toArray, List.set_cons_succ, List.set_cons_zero, if_true, if_false, Nat.reduceEqDiff, reduceIte]
      go_wp2_with fail
      all_goals (first | exact Below.refl _ _ | exact ⟨by (repeat' (first | (with_reducible exact Below.refl _ _) | (with_reducible assumption) | (with_reducible refine Below.plus0 ?_ _) | (with_reducible refine Below.alloc0 ?_ _) | (with_reducible refine Below.plus ?_ ?_ _) | (with_reducible refine Below.alloc ?_ ?_ _) | (with_reducible refine Below.drew ?_) | (with_reducible refine Below.drewN ?_ _) | (simp [go_sem]; done) | (simp [go_sem]; omega))), _, rfl, rfl⟩ | exact ⟨rfl, by (repeat' (first | (with_reducible exact Below.refl _ _) | (with_reducible assumption) | (with_reducible refine Below.plus0 ?_ _) | (with_reducible refine Below.alloc0 ?_ _) | (with_reducible refine Below.plus ?_ ?_ _) | (with_reducible refine Below.alloc ?_ ?_ _) | (with_reducible refine Below.drew ?_) | (with_reducible refine Below.drewN ?_ _) | (simp [go_sem]; done) | (simp [go_sem]; omega))), _, rfl, rfl⟩ | exact ⟨by (repeat' (first | (with_reducible exact Below.refl _ _) | (with_reducible assumption) | (with_reducible refine Below.plus0 ?_ _) | (with_reducible refine Below.alloc0 ?_ _) | (with_reducible refine Below.plus ?_ ?_ _) | (with_reducible refine Below.alloc ?_ ?_ _) | (with_reducible refine Below.drew ?_) | (with_reducible refine Below.drewN ?_ _) | (simp [go_sem]; done) | (simp [go_sem]; omega))), rfl⟩ | (trace_state; fail))
    refine KindSteps.cons ?_ ?_
    · intro xs w9 hw hd
      (first | (with_reducible have hw2 := World.plus_of_below ((World.below_plus _ _).trans (hw.mono (World.size_plus _ _))); obtain ⟨u, rfl⟩ := hw2) | (obtain ⟨u, rfl⟩ := World.plus_of_below hw))
      simp only [fill, Act.put, List.take_succ_cons, List.take_zero, List.drop_succ_cons, List.drop_zero, Nat.reduceAdd, Nat.zero_add, List.setIfInBounds_toArray, List.set_cons_succ, List.set_cons_zero, if_true, if_false, Nat.reduceEqDiff, reduceIte]
      have f5 : (xs 5) = .agg #[.bool (sg x), .string (mg x)] := hd 5 (by kernel_rfl); simp only [f5]
      go_wp2_with (go_at_call 20; refine (h1.out _).mono ?_; rintro e w8 ⟨rfl, hb⟩)
      all_goals (first | exact Below.refl _ _ | exact hb | exact ⟨hb, _, rfl, rfl⟩ | exact ⟨rfl, hb, _, rfl, rfl⟩)
    refine KindSteps.cons ?_ ?_
    · intro xs w9 hw hd
      (first | (with_reducible have hw2 := World.plus_of_below ((World.below_plus _ _).trans (hw.mono (World.size_plus _ _))); obtain ⟨u, rfl⟩ := hw2) | (obtain ⟨u, rfl⟩ := World.plus_of_below hw))
      simp only [fill, Act.put, List.take_succ_cons, List.take_zero, List.drop_succ_cons, List.drop_zero, Nat.reduceAdd, Nat.zero_add, List.setIfInBounds_toArray, List.set_cons_succ, List.set_cons_zero, if_true, if_false, Nat.reduceEqDiff, reduceIte]
      have f4 : (xs 4) = .int .i64 (cmpN x.natAbs y.natAbs) := hd 4 (by kernel_rfl); simp only [f4]
      have f6 : (xs 6) = .int .i64 (cmpI x 0) := hd 6 (by kernel_rfl); simp only [f6]
      go_wp2_with fail
      all_goals (first | exact Below.refl _ _ | exact ⟨by (repeat' (first | (with_reducible exact Below.refl _ _) | (with_reducible assumption) | (with_reducible refine Below.plus0 ?_ _) | (with_reducible refine Below.alloc0 ?_ _) | (with_reducible refine Below.plus ?_ ?_ _) | (with_reducible refine Below.alloc ?_ ?_ _) | (with_reducible refine Below.drew ?_) | (with_reducible refine Below.drewN ?_ _) | (simp [go_sem]; done) | (simp [go_sem]; omega))), _, rfl, rfl⟩ | exact ⟨rfl, by (repeat' (first | (with_reducible exact Below.refl _ _) | (with_reducible assumption) | (with_reducible refine Below.plus0 ?_ _) | (with_reducible refine Below.alloc0 ?_ _) | (with_reducible refine Below.plus ?_ ?_ _) | (with_reducible refine Below.alloc ?_ ?_ _) | (with_reducible refine Below.drew ?_) | (with_reducible refine Below.drewN ?_ _) | (simp [go_sem]; done) | (simp [go_sem]; omega))), _, rfl, rfl⟩ | exact ⟨by (repeat' (first | (with_reducible exact Below.refl _ _) | (with_reducible assumption) | (with_reducible refine Below.plus0 ?_ _) | (with_reducible refine Below.alloc0 ?_ _) | (with_reducible refine Below.plus ?_ ?_ _) | (with_reducible refine Below.alloc ?_ ?_ _) | (with_reducible refine Below.drew ?_) | (with_reducible refine Below.drewN ?_ _) | (simp [go_sem]; done) | (simp [go_sem]; omega))), rfl⟩ | (trace_state; fail))
    refine KindSteps.cons ?_ ?_
    · intro xs w9 hw hd
      (first | (with_reducible have hw2 := World.plus_of_below ((World.below_plus _ _).trans (hw.mono (World.size_plus _ _))); obtain ⟨u, rfl⟩ := hw2) | (obtain ⟨u, rfl⟩ := World.plus_of_below hw))
      simp only [fill, Act.put, List.take_succ_cons, List.take_zero, List.drop_succ_cons, List.drop_zero, Nat.reduceAdd, Nat.zero_add, List.setIfInBounds_toArray, List.set_cons_succ, List.set_cons_zero, if_true, if_false, Nat.reduceEqDiff, reduceIte]
      have f7 : (xs 7) = .int .i64 (cmpN x.natAbs y.natAbs * cmpI x 0) := hd 7 (by kernel_rfl); simp only [f7]
      go_wp2_with fail
      all_goals (first | exact Below.refl _ _ | exact ⟨by (repeat' (first | (with_reducible exact Below.refl _ _) | (with_reducible assumption) | (with_reducible refine Below.plus0 ?_ _) | (with_reducible refine Below.alloc0 ?_ _) | (with_reducible refine Below.plus ?_ ?_ _) | (with_reducible refine Below.alloc ?_ ?_ _) | (with_reducible refine Below.drew ?_) | (with_reducible refine Below.drewN ?_ _) | (simp [go_sem]; done) | (simp [go_sem]; omega))), _, rfl, rfl⟩ | exact ⟨rfl, by (repeat' (first | (with_reducible exact Below.refl _ _) | (with_reducible assumption) | (with_reducible refine Below.plus0 ?_ _) | (with_reducible refine Below.alloc0 ?_ _) | (with_reducible refine Below.plus ?_ ?_ _) | (with_reducible refine Below.alloc ?_ ?_ _) | (with_reducible refine Below.drew ?_) | (with_reducible refine Below.drewN ?_ _) | (simp [go_sem]; done) | (simp [go_sem]; omega))), _, rfl, rfl⟩ | exact ⟨by (repeat' (first | (with_reducible exact Below.refl _ _) | (with_reducible assumption) | (with_reducible refine Below.plus0 ?_ _) | (with_reducible refine Below.alloc0 ?_ _) | (with_reducible refine Below.plus ?_ ?_ _) | (with_reducible refine Below.alloc ?_ ?_ _) | (with_reducible refine Below.drew ?_) | (with_reducible refine Below.drewN ?_ _) | (simp [go_sem]; done) | (simp [go_sem]; omega))), rfl⟩ | (trace_state; fail))
    exact KindSteps.nil
  intro xs w9 hw hd
  (first | (with_reducible have hw2 := World.plus_of_below ((World.below_plus _ _).trans (hw.mono (World.size_plus _ _))); obtain ⟨u, rfl⟩ := hw2) | (obtain ⟨u, rfl⟩ := World.plus_of_below hw))
  simp only [fill, Act.put, List.take_succ_cons, List.take_zero, List.drop_succ_cons, List.drop_zero, Nat.reduceAdd, Nat.zero_add, List.setIfInBounds_toArray, List.set_cons_succ, List.set_cons_zero, if_true, if_false, Nat.reduceEqDiff, reduceIte]
  have f0 : (xs 0) = .agg #[.bool (sg x), .string (mg x)] := hd 0 (by decide)
  simp only [f0]
  have f1 : Dl _ (xs 1) (mg x).size x.natAbs := hd 1 (by decide)
  have f2 : (xs 2) = .agg #[.bool (sg y), .string (mg y)] := hd 2 (by decide)
  simp only [f2]
  have f3 : Dl _ (xs 3) (mg y).size y.natAbs := hd 3 (by decide)
  have f4 : (xs 4) = .int .i64 (cmpN x.natAbs y.natAbs) := hd 4 (by decide)
  simp only [f4]
  have f5 : (xs 5) = .agg #[.bool (sg x), .string (mg x)] := hd 5 (by decide)
  simp only [f5]
  have f6 : (xs 6) = .int .i64 (cmpI x 0) := hd 6 (by decide)
  simp only [f6]
  have f7 : (xs 7) = .int .i64 (cmpN x.natAbs y.natAbs * cmpI x 0) := hd 7 (by decide)
  simp only [f7]
  have f8 : (xs 8) = .int .i64 (cmpN x.natAbs y.natAbs * cmpI x 0) := hd 8 (by decide)
  simp only [f8]
  clear hd
  go_wp2_with fail
  go_ret
  exact ⟨rfl, by (repeat' (first | (with_reducible exact Below.refl _ _) | (with_reducible assumption) | (with_reducible refine Below.plus0 ?_ _) | (with_reducible refine Below.alloc0 ?_ _) | (with_reducible refine Below.plus ?_ ?_ _) | (with_reducible refine Below.alloc ?_ ?_ _) | (with_reducible refine Below.drew ?_) | (with_reducible refine Below.drewN ?_ _) | (simp [go_sem]; done) | (simp [go_sem]; omega)))⟩
set_option maxRecDepth 100000 in
set_option maxHeartbeats 400000 in
theorem rCompare_other (x y : Int) (w : World) (hx : (mg x).size ≤ 4294967296) (hy : (mg y).size ≤ 4294967296) (h : cmpI x 0 ≠ cmpI y 0) : Calls Tryd.prog 23 #[.agg #[.bool (sg x), .string (mg x)], .agg #[.bool (sg y), .string (mg y)]] w fun e w' => e = .returned (.int .i64 (if cmpI x 0 < cmpI y 0 then -1 else 1)) ∧ Below w.heap.size w w' := by
  have hb : (cmpI x 0 != cmpI y 0) = true := by simpa using h
  have h1 := Lib.hid (fun w => rSign_c x w hx)
  have h2 := Lib.hid (fun w => rSign_c y w hy)
  clear h
  by_cases hl : cmpI x 0 < cmpI y 0
  all_goals
    first | rw [if_pos hl] | rw [if_neg hl]
    go_enter Tryd.func23, Tryd.ntmps23
    go_wp2_with fail
    ((first | (with_reducible refine wp_region_steady_plus (by kernel_rfl) (by kernel_rfl) ?_) | refine wp_region_steady (by kernel_rfl) (by kernel_rfl) ?_); repeat go_big_quiet_step (first | (go_at_call 20; first | (with_reducible refine Calls.steady (h1.out _)) | (with_reducible refine Calls.steady (h2.out _))))); (refine wpQuiet_nil ?_; rintro _ ⟨u, rfl⟩)
    go_wp2_with fail
    ((first | (with_reducible refine wp_region_steady_plus (by kernel_rfl) (by kernel_rfl) ?_) | refine wp_region_steady (by kernel_rfl) (by kernel_rfl) ?_); repeat go_big_quiet_step (first | (go_at_call 20; first | (with_reducible refine Calls.steady (h1.out _)) | (with_reducible refine Calls.steady (h2.out _))))); (refine wpQuiet_nil ?_; rintro _ ⟨u, rfl⟩)
    go_wp2_with fail
    go_ret
    exact ⟨rfl, by (repeat' (first | (with_reducible exact Below.refl _ _) | (with_reducible assumption) | (with_reducible refine Below.plus0 ?_ _) | (with_reducible refine Below.alloc0 ?_ _) | (with_reducible refine Below.plus ?_ ?_ _) | (with_reducible refine Below.alloc ?_ ?_ _) | (with_reducible refine Below.drew ?_) | (with_reducible refine Below.drewN ?_ _) | (simp [go_sem]; done) | (simp [go_sem]; omega)))⟩
theorem cmpI_mul (x y : Int) (h : cmpI x 0 = cmpI y 0) : cmpN x.natAbs y.natAbs * cmpI x 0 = cmpI x y := by
  have e : ∀ z : Int, cmpI z 0 = if z < 0 then -1 else if z = 0 then 0 else 1 := fun z => rfl
  rw [e, e] at h
  rw [e]
  unfold cmpN cmpI
  repeat' split at h
  all_goals first | omega | skip
  all_goals repeat' split
  all_goals omega
theorem cmpI_other (x y : Int) (h : cmpI x 0 ≠ cmpI y 0) : (if cmpI x 0 < cmpI y 0 then -1 else 1 : Int) = cmpI x y := by
  have e : ∀ z : Int, cmpI z 0 = if z < 0 then -1 else if z = 0 then 0 else 1 := fun z => rfl
  rw [e, e] at h ⊢
  unfold cmpI
  repeat' split
  all_goals omega
theorem rCompare_c (x y : Int) (w : World) (hx : (mg x).size ≤ 4294967296) (hy : (mg y).size ≤ 4294967296) : Calls Tryd.prog 23 #[.agg #[.bool (sg x), .string (mg x)], .agg #[.bool (sg y), .string (mg y)]] w fun e w' => e = .returned (.int .i64 (cmpI x y)) ∧ Below w.heap.size w w' := by
  by_cases h : cmpI x 0 = cmpI y 0
  · rw [← cmpI_mul x y h]; exact rCompare_same x y w hx hy h
  · rw [← cmpI_other x y h]; exact rCompare_other x y w hx hy h
set_option maxHeartbeats 400000 in
theorem rBits_c (x : Int) (w : World) (hx : (mg x).size ≤ 4294967296) : Calls Tryd.prog 42 #[.agg #[.bool (sg x), .string (mg x)]] w fun e w' => e = .returned (.int .i64 ((nd 2 x.natAbs : Nat) : Int)) ∧ Below w.heap.size w w' := by
  by_cases h0 : x = 0
  · subst h0
    rw [show mg 0 = ⟨#[]⟩ from rfl, show sg 0 = false from rfl, show nd 2 (0 : Int).natAbs = 0 from rfl]
    go_enter Tryd.func42, Tryd.ntmps42
    go_wp2
    go_ret
    exact ⟨rfl, by (repeat' (first | (with_reducible exact Below.refl _ _) | (with_reducible assumption) | (with_reducible refine Below.plus0 ?_ _) | (with_reducible refine Below.alloc0 ?_ _) | (with_reducible refine Below.plus ?_ ?_ _) | (with_reducible refine Below.alloc ?_ ?_ _) | (with_reducible refine Below.drew ?_) | (with_reducible refine Below.drewN ?_ _) | (simp [go_sem]; done) | (simp [go_sem]; omega)))⟩
  · have hn : 0 < x.natAbs := by omega
    obtain ⟨hp, hf, hlt⟩ := get_first x.natAbs hn
    have hbt := bits_top x.natAbs hn
    have hsz : (mg x).size = nd 256 x.natAbs := size_mag _
    have hpos : 0 < nd 256 x.natAbs := nd_pos 256 (by omega) _ hn
    obtain ⟨L, hL⟩ : ∃ L, nd 256 x.natAbs = L + 1 := ⟨nd 256 x.natAbs - 1, by omega⟩
    obtain ⟨t, ht⟩ : ∃ t, t = topByte x.natAbs := ⟨_, rfl⟩
    obtain ⟨R, hR⟩ : ∃ R, R = nd 2 x.natAbs := ⟨_, rfl⟩
    rw [← ht, ← hR, hL] at hbt
    rw [← ht] at hf hlt
    rw [← hR]
    have hf2 : (((mg x)[0]'hp).toNat : Int) = (t : Int) := by
      have : (mg x)[0]'hp = (mag x.natAbs)[0]'hp := rfl
      rw [this, hf]
    have hs1 : ((mg x).size : Int) = (L : Int) + 1 := by rw [hsz, hL]; rfl
    have hz : ((L : Int) + 1 == 0) = false := by rw [beq_eq_false_iff_ne]; omega
    have hLb : L + 1 ≤ 4294967296 := by omega
    have hwt : wrap64 (t : Int) = (t : Int) := by unfold wrap64; omega
    have H0 : Hid (8 * L + nd 2 t = R) := Lib.hid (by rw [Nat.add_sub_cancel] at hbt; exact hbt)
    have hfs : 0 < (mg x).size := hp
    clear hbt hsz hL ht hR hpos hf
    go_enter Tryd.func42, Tryd.ntmps42
    go_wp2_with fail
    go_loop [3, 4] (fun c k => ∃ a m : Nat, a + nd 2 m = R ∧ m < 256 ∧ c = .int .i64 a ∧ k = .int .i64 m) (fun _ k => (intOf k).toNat)
    case atStart => exact ⟨8 * L, t, H0.out, hlt, by simp, congrArg (Value.int .i64) hf2⟩
    case round =>
      obtain ⟨a, m, ham, hm, rfl, rfl⟩ := hrel
      have hRb : R ≤ 34359738368 + 64 := by
        have h1 : nd 2 t ≤ 8 := nd_le 2 (by omega) t 8 (by omega)
        have := H0.out
        omega
      have hab : a ≤ 34359738368 + 64 := by omega
      by_cases h0 : m = 0
      · subst h0
        have e : a = R := by rw [nd_zero] at ham; omega
        have H := Lib.hid e
        clear e ham
        go_wp2_with fail
        go_ret
        exact ⟨by rw [H.out]; rfl, by (repeat' (first | (with_reducible exact Below.refl _ _) | (with_reducible assumption) | (with_reducible refine Below.plus0 ?_ _) | (with_reducible refine Below.alloc0 ?_ _) | (with_reducible refine Below.plus ?_ ?_ _) | (with_reducible refine Below.alloc ?_ ?_ _) | (with_reducible refine Below.drew ?_) | (with_reducible refine Below.drewN ?_ _) | (simp [go_sem]; done) | (simp [go_sem]; omega)))⟩
      · have hp0 : (0 : Int) < (m : Int) := by omega
        have hs := nd_succ 2 (by omega) m (by omega)
        have Hs : Hid (a + 1 + nd 2 (m / 2) = R) := Lib.hid (by omega)
        have e1 : (m : Int).tdiv 2 = ((m / 2 : Nat) : Int) := by rw [Int.tdiv_eq_ediv_of_nonneg (by omega)]; simp
        have e2 : m / 2 < 256 := by omega
        have e3 : m / 2 < m := by omega
        have E3 := Lib.hid e3
        clear hs ham
        go_wp2_with fail
        refine ⟨⟨a + 1, m / 2, Hs.out, e2, by go_num, by go_num⟩, ?_⟩
        have := E3.out
        first | (simp [intOf]; done) | (simp [intOf]; omega)
end Go.Proofs.YtkoodpbcfdblbaaDoor
