import Derived.Test.YthdaimoankaciaaGreatDoorSpD
import Derived.Test.YthdaimoankaciaaGreatDoorRefs
import Derived.Test.YthdaimoankaciaaGreatDoorRelM
import Derived.Test.YthdaimoankaciaaGreatDoorFrac
import Derived.OwnWalk
import Derived.Deep.DeepCutAuto
import Derived.Deep.CutBlock
set_option linter.unusedSimpArgs false
set_option linter.unusedVariables false
namespace Go.Proofs.YthdaimoankaciaaGreatDoor
open Go Go.RowKit
open Vi
def PT (w : World) (v : Value) (q r : Nat) : Prop := ∃ vq vr, v = .tuple #[vq, vr] ∧ DT w vq q ∧ DT w vr r
theorem PT.below {w w' : World} {v : Value} {q r : Nat} (h : PT w v q r) (hb : Below w.heap.size w w') : PT w' v q r := by
 obtain ⟨a, b, e, h1, h2⟩ := h
 exact ⟨a, b, e, h1.below hb, h2.below hb⟩
theorem nd_lt7 (x : Nat) (h : nd 256 x ≤ 7) : x < 72057594037927936 := by
 have := nd_of_x h
 rwa [show (256 : Nat) ^ 7 = 72057594037927936 by decide] at this
set_option maxRecDepth 100000 in
set_option maxHeartbeats 1600000 in
theorem sdivide_small (v1 v2 : Value) (x y q r : Nat) (hq : q = x / y) (hr : r = x % y) (hy : 0 < y) (w : World) (h1 : DT w v1 x) (h2 : DT w v2 y) (hx7 : nd 256 x ≤ 7) (hy7 : nd 256 y ≤ 7) : Calls Tryz.prog 143 #[v1, v2] w fun e w' => ∃ v, e = .returned v ∧ PT w' v q r ∧ Below w.heap.size w w' := by
 obtain ⟨a1, c1, e1⟩ := h1.lenForm
 obtain ⟨a2, c2, e2⟩ := h2.lenForm
 subst e1
 subst e2
 have S1 := Lib.hid (ssmall_c _ x w h1 hx7)
 have S2 := Lib.hid (ssmall_c _ y w h2 hy7)
 have hxb := nd_lt7 x hx7
 have hyb := nd_lt7 y hy7
 have hqb : q ≤ x := by rw [hq]; exact Nat.div_le_self _ _
 have hrb : r ≤ x := by rw [hr]; exact Nat.mod_le _ _
 have L1 := Lib.hid (fun w => slarge_c q w (by omega))
 have L2 := Lib.hid (fun w => slarge_c r w (by omega))
 have hy0 : (0 : Int) < (y : Int) := by omega
 have hyz : ((y : Int) == 0) = false := by rw [beq_eq_false_iff_ne]; omega
 have HQ : Hid ((x : Int).tdiv (y : Int) = (q : Int)) := Lib.hid (by rw [hq]; exact Int.ofNat_tdiv x y)
 have HR : Hid ((x : Int).tmod (y : Int) = (r : Int)) := Lib.hid (by rw [hr]; exact Int.ofNat_tmod x y)
 have HW : Hid (wrap64 (q : Int) = (q : Int)) := Lib.hid (w64_of q (by omega))
 have L1w : Hid (∀ w, Calls Tryz.prog 173 #[.int .i64 (wrap64 (q : Int))] w fun e w' => ∃ v, e = .returned v ∧ DT w' v q ∧ Below w.heap.size w w') := Lib.hid fun w => by rw [HW.out]; exact L1.out w
 have eq1 := HQ.out
 have er1 := HR.out
 clear h1 h2 hq hr hqb hrb hx7 hy7
 go_enter Tryz.func143, Tryz.ntmps143
 go_wp2_with fail
 (refine (S1.out).mono ?_; rintro e w' ⟨rfl, rfl⟩)
 go_wp2_with fail
 (refine (S2.out).mono ?_; rintro e w' ⟨rfl, rfl⟩)
 go_wp2_with fail
 refine wp_region_facts (fun i v w9 => match i with
  | 0 => v = .int .i64 (x : Int)
  | 1 => v = .int .i64 (y : Int)
  | 2 => v = .int .i64 (wrap64 (q : Int))
  | 3 => Dl w9 v (nd 256 q) q
  | 4 => v = .int .i64 (x : Int)
  | 5 => v = .int .i64 (y : Int)
  | 6 => v = .int .i64 (r : Int)
  | 7 => Dl w9 v (nd 256 r) r
  | 8 => Dl w9 v (nd 256 q) q
  | 9 => Dl w9 v (nd 256 r) r
  | _ => True) (by kernel_rfl) (by kernel_rfl) ?_ ?_ ?_
 ·intro i v w1 w2 hb h
  match i, h with
  | 0, h => exact h
  | 1, h => exact h
  | 2, h => exact h
  | 3, h => exact Dl.below h hb
  | 4, h => exact h
  | 5, h => exact h
  | 6, h => exact h
  | 7, h => exact Dl.below h hb
  | 8, h => exact Dl.below h hb
  | 9, h => exact Dl.below h hb
  | k + 10, h => exact trivial
 ·refine KindSteps.cons ?_ ?_
  ·intro xs w9 hw hd
   (first | (with_reducible have hw2 := World.plus_of_below ((World.below_plus _ _).trans (hw.mono (World.size_plus _ _))); obtain ⟨u, rfl⟩ := hw2) | (obtain ⟨u, rfl⟩ := World.plus_of_below hw))
   simp only [fill, Act.put, List.take_succ_cons, List.take_zero, List.drop_succ_cons, List.drop_zero, Nat.reduceAdd, Nat.zero_add, List.setIfInBounds_toArray, List.set_cons_succ, List.set_cons_zero, if_true, if_false, Nat.reduceEqDiff, reduceIte]
   go_wp2_with fail
   all_goals (first | exact Below.refl _ _ | ((first | refine ⟨?_, _, rfl, rfl⟩ | refine ⟨rfl, ?_, _, rfl, rfl⟩ | refine ⟨?_, rfl⟩); (repeat' (first | (with_reducible first | exact Below.refl _ _ | assumption | refine Below.plus0 ?_ _ | refine Below.alloc0 ?_ _ | refine Below.plus ?_ ?_ _ | refine Below.alloc ?_ ?_ _ | refine Below.drew ?_ | refine Below.drewN ?_ _) | (simp [go_sem]; done) | (simp [go_sem]; omega)))) | exact Fresh.old rfl | exact Fresh.new _ _ _)
  refine KindSteps.cons ?_ ?_
  ·intro xs w9 hw hd
   (first | (with_reducible have hw2 := World.plus_of_below ((World.below_plus _ _).trans (hw.mono (World.size_plus _ _))); obtain ⟨u, rfl⟩ := hw2) | (obtain ⟨u, rfl⟩ := World.plus_of_below hw))
   simp only [fill, Act.put, List.take_succ_cons, List.take_zero, List.drop_succ_cons, List.drop_zero, Nat.reduceAdd, Nat.zero_add, List.setIfInBounds_toArray, List.set_cons_succ, List.set_cons_zero, if_true, if_false, Nat.reduceEqDiff, reduceIte]
   go_wp2_with fail
   all_goals (first | exact Below.refl _ _ | ((first | refine ⟨?_, _, rfl, rfl⟩ | refine ⟨rfl, ?_, _, rfl, rfl⟩ | refine ⟨?_, rfl⟩); (repeat' (first | (with_reducible first | exact Below.refl _ _ | assumption | refine Below.plus0 ?_ _ | refine Below.alloc0 ?_ _ | refine Below.plus ?_ ?_ _ | refine Below.alloc ?_ ?_ _ | refine Below.drew ?_ | refine Below.drewN ?_ _) | (simp [go_sem]; done) | (simp [go_sem]; omega)))) | exact Fresh.old rfl | exact Fresh.new _ _ _)
  refine KindSteps.cons ?_ ?_
  ·intro xs w9 hw hd
   (first | (with_reducible have hw2 := World.plus_of_below ((World.below_plus _ _).trans (hw.mono (World.size_plus _ _))); obtain ⟨u, rfl⟩ := hw2) | (obtain ⟨u, rfl⟩ := World.plus_of_below hw))
   simp only [fill, Act.put, List.take_succ_cons, List.take_zero, List.drop_succ_cons, List.drop_zero, Nat.reduceAdd, Nat.zero_add, List.setIfInBounds_toArray, List.set_cons_succ, List.set_cons_zero, if_true, if_false, Nat.reduceEqDiff, reduceIte]
   have f0 : (xs 0) = .int .i64 (x : Int) := hd 0 (by kernel_rfl); simp only [f0]
   have f1 : (xs 1) = .int .i64 (y : Int) := hd 1 (by kernel_rfl); simp only [f1]
   go_wp2_with fail
   all_goals (first | exact Below.refl _ _ | ((first | refine ⟨?_, _, rfl, rfl⟩ | refine ⟨rfl, ?_, _, rfl, rfl⟩ | refine ⟨?_, rfl⟩); (repeat' (first | (with_reducible first | exact Below.refl _ _ | assumption | refine Below.plus0 ?_ _ | refine Below.alloc0 ?_ _ | refine Below.plus ?_ ?_ _ | refine Below.alloc ?_ ?_ _ | refine Below.drew ?_ | refine Below.drewN ?_ _) | (simp [go_sem]; done) | (simp [go_sem]; omega)))) | exact Fresh.old rfl | exact Fresh.new _ _ _)
  refine KindSteps.cons ?_ ?_
  ·intro xs w9 hw hd
   (first | (with_reducible have hw2 := World.plus_of_below ((World.below_plus _ _).trans (hw.mono (World.size_plus _ _))); obtain ⟨u, rfl⟩ := hw2) | (obtain ⟨u, rfl⟩ := World.plus_of_below hw))
   simp only [fill, Act.put, List.take_succ_cons, List.take_zero, List.drop_succ_cons, List.drop_zero, Nat.reduceAdd, Nat.zero_add, List.setIfInBounds_toArray, List.set_cons_succ, List.set_cons_zero, if_true, if_false, Nat.reduceEqDiff, reduceIte]
   have f2 : (xs 2) = .int .i64 (wrap64 (q : Int)) := hd 2 (by kernel_rfl); simp only [f2]
   go_wp2_with (go_at_call 173; refine (L1w.out _).mono ?_; rintro e w8 ⟨v, rfl, hdl, hb⟩)
   all_goals (first | exact Below.refl _ _ | exact hb | exact hdl | exact ⟨hb, hdl⟩ | exact ⟨hb, _, rfl, hdl⟩ | exact ⟨rfl, hb, _, rfl, hdl⟩)
  refine KindSteps.cons ?_ ?_
  ·intro xs w9 hw hd
   (first | (with_reducible have hw2 := World.plus_of_below ((World.below_plus _ _).trans (hw.mono (World.size_plus _ _))); obtain ⟨u, rfl⟩ := hw2) | (obtain ⟨u, rfl⟩ := World.plus_of_below hw))
   simp only [fill, Act.put, List.take_succ_cons, List.take_zero, List.drop_succ_cons, List.drop_zero, Nat.reduceAdd, Nat.zero_add, List.setIfInBounds_toArray, List.set_cons_succ, List.set_cons_zero, if_true, if_false, Nat.reduceEqDiff, reduceIte]
   go_wp2_with fail
   all_goals (first | exact Below.refl _ _ | ((first | refine ⟨?_, _, rfl, rfl⟩ | refine ⟨rfl, ?_, _, rfl, rfl⟩ | refine ⟨?_, rfl⟩); (repeat' (first | (with_reducible first | exact Below.refl _ _ | assumption | refine Below.plus0 ?_ _ | refine Below.alloc0 ?_ _ | refine Below.plus ?_ ?_ _ | refine Below.alloc ?_ ?_ _ | refine Below.drew ?_ | refine Below.drewN ?_ _) | (simp [go_sem]; done) | (simp [go_sem]; omega)))) | exact Fresh.old rfl | exact Fresh.new _ _ _)
  refine KindSteps.cons ?_ ?_
  ·intro xs w9 hw hd
   (first | (with_reducible have hw2 := World.plus_of_below ((World.below_plus _ _).trans (hw.mono (World.size_plus _ _))); obtain ⟨u, rfl⟩ := hw2) | (obtain ⟨u, rfl⟩ := World.plus_of_below hw))
   simp only [fill, Act.put, List.take_succ_cons, List.take_zero, List.drop_succ_cons, List.drop_zero, Nat.reduceAdd, Nat.zero_add, List.setIfInBounds_toArray, List.set_cons_succ, List.set_cons_zero, if_true, if_false, Nat.reduceEqDiff, reduceIte]
   go_wp2_with fail
   all_goals (first | exact Below.refl _ _ | ((first | refine ⟨?_, _, rfl, rfl⟩ | refine ⟨rfl, ?_, _, rfl, rfl⟩ | refine ⟨?_, rfl⟩); (repeat' (first | (with_reducible first | exact Below.refl _ _ | assumption | refine Below.plus0 ?_ _ | refine Below.alloc0 ?_ _ | refine Below.plus ?_ ?_ _ | refine Below.alloc ?_ ?_ _ | refine Below.drew ?_ | refine Below.drewN ?_ _) | (simp [go_sem]; done) | (simp [go_sem]; omega)))) | exact Fresh.old rfl | exact Fresh.new _ _ _)
  refine KindSteps.cons ?_ ?_
  ·intro xs w9 hw hd
   (first | (with_reducible have hw2 := World.plus_of_below ((World.below_plus _ _).trans (hw.mono (World.size_plus _ _))); obtain ⟨u, rfl⟩ := hw2) | (obtain ⟨u, rfl⟩ := World.plus_of_below hw))
   simp only [fill, Act.put, List.take_succ_cons, List.take_zero, List.drop_succ_cons, List.drop_zero, Nat.reduceAdd, Nat.zero_add, List.setIfInBounds_toArray, List.set_cons_succ, List.set_cons_zero, if_true, if_false, Nat.reduceEqDiff, reduceIte]
   have f4 : (xs 4) = .int .i64 (x : Int) := hd 4 (by kernel_rfl); simp only [f4]
   have f5 : (xs 5) = .int .i64 (y : Int) := hd 5 (by kernel_rfl); simp only [f5]
   go_wp2_with fail
   all_goals (first | exact Below.refl _ _ | ((first | refine ⟨?_, _, rfl, rfl⟩ | refine ⟨rfl, ?_, _, rfl, rfl⟩ | refine ⟨?_, rfl⟩); (repeat' (first | (with_reducible first | exact Below.refl _ _ | assumption | refine Below.plus0 ?_ _ | refine Below.alloc0 ?_ _ | refine Below.plus ?_ ?_ _ | refine Below.alloc ?_ ?_ _ | refine Below.drew ?_ | refine Below.drewN ?_ _) | (simp [go_sem]; done) | (simp [go_sem]; omega)))) | exact Fresh.old rfl | exact Fresh.new _ _ _)
  refine KindSteps.cons ?_ ?_
  ·intro xs w9 hw hd
   (first | (with_reducible have hw2 := World.plus_of_below ((World.below_plus _ _).trans (hw.mono (World.size_plus _ _))); obtain ⟨u, rfl⟩ := hw2) | (obtain ⟨u, rfl⟩ := World.plus_of_below hw))
   simp only [fill, Act.put, List.take_succ_cons, List.take_zero, List.drop_succ_cons, List.drop_zero, Nat.reduceAdd, Nat.zero_add, List.setIfInBounds_toArray, List.set_cons_succ, List.set_cons_zero, if_true, if_false, Nat.reduceEqDiff, reduceIte]
   have f6 : (xs 6) = .int .i64 (r : Int) := hd 6 (by kernel_rfl); simp only [f6]
   go_wp2_with (go_at_call 173; refine (L2.out _).mono ?_; rintro e w8 ⟨v, rfl, hdl, hb⟩)
   all_goals (first | exact Below.refl _ _ | exact hb | exact hdl | exact ⟨hb, hdl⟩ | exact ⟨hb, _, rfl, hdl⟩ | exact ⟨rfl, hb, _, rfl, hdl⟩)
  refine KindSteps.cons ?_ ?_
  ·intro xs w9 hw hd
   (first | (with_reducible have hw2 := World.plus_of_below ((World.below_plus _ _).trans (hw.mono (World.size_plus _ _))); obtain ⟨u, rfl⟩ := hw2) | (obtain ⟨u, rfl⟩ := World.plus_of_below hw))
   simp only [fill, Act.put, List.take_succ_cons, List.take_zero, List.drop_succ_cons, List.drop_zero, Nat.reduceAdd, Nat.zero_add, List.setIfInBounds_toArray, List.set_cons_succ, List.set_cons_zero, if_true, if_false, Nat.reduceEqDiff, reduceIte]
   have f3 : Dl _ (xs 3) (nd 256 q) q := hd 3 (by kernel_rfl)
   go_wp2_with fail
   all_goals (first | exact Below.refl _ _ | ((first | refine ⟨?_, _, rfl, f3⟩ | refine ⟨rfl, ?_, _, rfl, f3⟩ | refine ⟨?_, f3⟩); (repeat' (first | (with_reducible first | exact Below.refl _ _ | assumption | refine Below.plus0 ?_ _ | refine Below.alloc0 ?_ _ | refine Below.plus ?_ ?_ _ | refine Below.alloc ?_ ?_ _ | refine Below.drew ?_ | refine Below.drewN ?_ _) | (simp [go_sem]; done) | (simp [go_sem]; omega)))) | exact Fresh.old rfl | exact Fresh.new _ _ _)
  refine KindSteps.cons ?_ ?_
  ·intro xs w9 hw hd
   (first | (with_reducible have hw2 := World.plus_of_below ((World.below_plus _ _).trans (hw.mono (World.size_plus _ _))); obtain ⟨u, rfl⟩ := hw2) | (obtain ⟨u, rfl⟩ := World.plus_of_below hw))
   simp only [fill, Act.put, List.take_succ_cons, List.take_zero, List.drop_succ_cons, List.drop_zero, Nat.reduceAdd, Nat.zero_add, List.setIfInBounds_toArray, List.set_cons_succ, List.set_cons_zero, if_true, if_false, Nat.reduceEqDiff, reduceIte]
   have f7 : Dl _ (xs 7) (nd 256 r) r := hd 7 (by kernel_rfl)
   go_wp2_with fail
   all_goals (first | exact Below.refl _ _ | ((first | refine ⟨?_, _, rfl, f7⟩ | refine ⟨rfl, ?_, _, rfl, f7⟩ | refine ⟨?_, f7⟩); (repeat' (first | (with_reducible first | exact Below.refl _ _ | assumption | refine Below.plus0 ?_ _ | refine Below.alloc0 ?_ _ | refine Below.plus ?_ ?_ _ | refine Below.alloc ?_ ?_ _ | refine Below.drew ?_ | refine Below.drewN ?_ _) | (simp [go_sem]; done) | (simp [go_sem]; omega)))) | exact Fresh.old rfl | exact Fresh.new _ _ _)
  exact KindSteps.nil
 intro xs w9 hw hd
 (first | (with_reducible have hw2 := World.plus_of_below ((World.below_plus _ _).trans (hw.mono (World.size_plus _ _))); obtain ⟨u, rfl⟩ := hw2) | (obtain ⟨u, rfl⟩ := World.plus_of_below hw))
 simp only [fill, Act.put, List.take_succ_cons, List.take_zero, List.drop_succ_cons, List.drop_zero, Nat.reduceAdd, Nat.zero_add, List.setIfInBounds_toArray, List.set_cons_succ, List.set_cons_zero, if_true, if_false, Nat.reduceEqDiff, reduceIte]
 have f0 : (xs 0) = .int .i64 (x : Int) := hd 0 (by decide)
 simp only [f0]
 have f1 : (xs 1) = .int .i64 (y : Int) := hd 1 (by decide)
 simp only [f1]
 have f2 : (xs 2) = .int .i64 (wrap64 (q : Int)) := hd 2 (by decide)
 simp only [f2]
 have f3 : Dl _ (xs 3) (nd 256 q) q := hd 3 (by decide)
 have f4 : (xs 4) = .int .i64 (x : Int) := hd 4 (by decide)
 simp only [f4]
 have f5 : (xs 5) = .int .i64 (y : Int) := hd 5 (by decide)
 simp only [f5]
 have f6 : (xs 6) = .int .i64 (r : Int) := hd 6 (by decide)
 simp only [f6]
 have f7 : Dl _ (xs 7) (nd 256 r) r := hd 7 (by decide)
 have f8 : Dl _ (xs 8) (nd 256 q) q := hd 8 (by decide)
 have f9 : Dl _ (xs 9) (nd 256 r) r := hd 9 (by decide)
 clear hd
 have g1 : DT _ _ q := f8
 have g2 : DT _ _ r := f9
 have G1 := Lib.hid g1
 have G2 := Lib.hid g2
 clear f3 f7 f8 f9 g1 g2
 go_wp2_with fail
 go_ret2
 exact ⟨_, rfl, ⟨_, _, rfl, G1.out, G2.out⟩, by (repeat' (first | (with_reducible first | exact Below.refl _ _ | assumption | refine Below.plus0 ?_ _ | refine Below.alloc0 ?_ _ | refine Below.plus ?_ ?_ _ | refine Below.alloc ?_ ?_ _ | refine Below.drew ?_ | refine Below.drewN ?_ _) | (simp [go_sem]; done) | (simp [go_sem]; omega)))⟩
theorem dgt_div (x y i : Nat) (hy : 0 < y) (A : Nat) (hA : A = (x / 256 ^ (i + 1) % y) * 256 + d8 x i) : A < 256 * y ∧ d8 (x / y) i = A / y ∧ x / 256 ^ i % y = A % y := by
 obtain ⟨H, hH⟩ : ∃ H, H = x / 256 ^ (i + 1) := ⟨_, rfl⟩
 have h1 := d8_top x i
 rw [← hH] at h1 hA
 have h2 := Nat.div_add_mod H y
 have h3 := d8_lt x i
 have h4 := Nat.mod_lt H hy
 obtain ⟨R, hR⟩ : ∃ R, R = H % y := ⟨_, rfl⟩
 obtain ⟨Q, hQ⟩ : ∃ Q, Q = H / y := ⟨_, rfl⟩
 rw [← hR, ← hQ] at h2
 rw [← hR] at h4 hA
 have h5 : x / 256 ^ i = y * (256 * Q) + A := by
  rw [h1, ← h2, hA]
  grind
 have hlt : A < 256 * y := by
  have : (R + 1) * 256 ≤ y * 256 := Nat.mul_le_mul_right _ h4
  omega
 refine ⟨hlt, ?_, ?_⟩
 ·unfold d8
  rw [Nat.div_div_eq_div_mul, Nat.mul_comm y, ← Nat.div_div_eq_div_mul, h5, Nat.mul_add_div hy, Nat.mul_add_mod]
  apply Nat.mod_eq_of_lt
  rw [Nat.div_lt_iff_lt_mul hy]; exact hlt
 ·rw [h5, Nat.mul_add_mod]
def qfn (Q p : Nat) : Nat → Nat := fun j => if j < p then 0 else d8 Q j
theorem qfn_top (Q n m : Nat) (h : Q < 256 ^ n) : arr .i64 (fun _ => 0) m = arr .i64 (qfn Q n) m := by
 apply arr_congr; intro j _; unfold qfn
 by_cases h2 : j < n
 ·rw [if_pos h2]
 ·rw [if_neg h2, d8_big Q n j h (by omega)]
theorem qfn_zero (Q : Nat) : qfn Q 0 = d8 Q := by funext j; unfold qfn; rw [if_neg (by omega)]
theorem qfn_start (Q i : Nat) : upd (qfn Q (i + 1)) i 0 = qfn Q (i + 1) := by
 funext j; unfold upd qfn
 by_cases h : j = i
 ·rw [if_pos h, if_pos (by omega)]
 ·rw [if_neg h]
theorem qfn_end (Q i : Nat) : upd (qfn Q (i + 1)) i (d8 Q i) = qfn Q i := by
 funext j; unfold upd qfn
 by_cases h : j = i
 ·rw [if_pos h, h, if_neg (by omega)]
 ·rw [if_neg h]
  by_cases h2 : j < i
  ·rw [if_pos (by omega), if_pos h2]
  ·rw [if_neg (by omega), if_neg h2]
theorem upd_upd (f : Nat → Nat) (i a b : Nat) : upd (upd f i a) i b = upd f i b := by
 funext j; unfold upd; split <;> rfl
theorem upd_at (f : Nat → Nat) (i a : Nat) : upd f i a i = a := by unfold upd; rw [if_pos rfl]
end Go.Proofs.YthdaimoankaciaaGreatDoor
