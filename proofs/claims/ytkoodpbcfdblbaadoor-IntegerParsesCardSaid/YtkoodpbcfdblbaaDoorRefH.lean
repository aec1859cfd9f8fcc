import Derived.Test.YtkoodpbcfdblbaaDoorRefG
import Derived.Test.YtkoodpbcfdblbaaDoorIntK
import Derived.Test.YtkoodpbcfdblbaaDoorRel
import Derived.Deep.DeepCutAuto
import Derived.Deep.CutBlock
set_option linter.unusedSimpArgs false
set_option linter.unusedVariables false
namespace Go.Proofs.YtkoodpbcfdblbaaDoor
open Go Go.RowKit
open Vi
theorem DL.cellSwap {W u : World} {b : Bool} {s : ByteArray} {ty : TypeId} {o2 : Obj} {v : Value} {M x : Nat} (h : DL ((W.alloc (.cells #[.bool b, .string s] ty)).plus u) v M x) : DL ((W.alloc o2).plus u) v M x := by
  obtain ⟨N, hN, hx, hd⟩ := h
  refine ⟨N, hN, hx, ?_⟩
  rcases hd with hd | ⟨g, c, rfl, hc, hm, hg, hcell⟩
  · exact .inl hd
  · refine .inr ⟨g, c, rfl, hc, hm, by rw [plus_size W (.cells #[.bool b, .string s] ty) o2 u]; exact hg, fun i hi => ?_⟩
    have h0 := hcell 0 (by omega)
    have hne : g ≠ W.heap.size := by
      intro e
      subst e
      rw [World.cell?_plus _ _ _ _ (by simp), World.cell?_alloc_new] at h0
      simp at h0
    rw [← hcell i hi]
    apply World.cell?_of_block
    show ((W.alloc o2).plus u).heap[g]? = ((W.alloc (.cells #[.bool b, .string s] ty)).plus u).heap[g]?
    by_cases hlt : g < W.heap.size
    · rw [World.heap_plus _ _ _ (by simp; omega), World.heap_plus _ _ _ (by simp; omega), heap_alloc_old _ _ hlt, heap_alloc_old _ _ hlt]
    · exact plus_block W _ _ u g (by omega)
theorem SR.store_at {k : Nat} {ty : TypeId} {c1 : Array Value} {W u : World} (hk : k < W.heap.size) : ((W.row k ty c1).plus u).heap[k]? = some (.cells c1 ty (0, 0)) := (SR.store (c := c1) (c1 := c1) (u := u) hk).2
theorem DL.rowSwap {V : World} {k : Nat} {ty : TypeId} {b : Bool} {s : ByteArray} {c1 : Array Value} {v : Value} {M x : Nat} (hk : k < V.heap.size) (h : DL (V.row k ty #[.bool b, .string s]) v M x) : DL (V.row k ty c1) v M x := by
  obtain ⟨N, hN, hx, hd⟩ := h
  refine ⟨N, hN, hx, ?_⟩
  rcases hd with hd | ⟨g, c, rfl, hc, hm, hg, hcell⟩
  · exact .inl hd
  · refine .inr ⟨g, c, rfl, hc, hm, by rw [World.size_row] at hg ⊢; exact hg, fun i hi => ?_⟩
    have h0 := hcell 0 (by omega)
    have hne : g ≠ k := by
      intro e
      subst e
      rw [World.cell?_row_same _ _ _ _ _ hk] at h0
      simp at h0
    rw [← hcell i hi]
    apply World.cell?_of_block
    show (V.row k ty c1).heap[g]? = (V.row k ty _).heap[g]?
    rw [World.heap_row_other _ _ _ _ _ hne, World.heap_row_other _ _ _ _ _ hne]
theorem SR.at_end {k : Nat} {ty : TypeId} {c0 c1 : Array Value} {W w' : World} (hk : k < W.heap.size) (h : SR k (.cells c1 ty (0, 0)) (W.row k ty c0) w') (h8 : w'.heap[k]? = some (.cells c1 ty (0, 0))) : ∃ u, w' = (W.row k ty c1).plus u := by
  obtain ⟨a1, a2, a3, a4, a5, a6⟩ := h
  rw [World.size_row] at a4 a5 a6
  refine World.plus_of_below ⟨a1, a2, a3, by rw [World.size_row]; exact a4, fun j hj => ?_⟩
  rw [World.size_row] at hj
  by_cases e : j = k
  · subst e; rw [h8, World.heap_row_same _ _ _ _ hk]
  · rw [a5 j hj e, World.heap_row_other _ _ _ _ _ e, World.heap_row_other _ _ _ _ _ e]
set_option maxRecDepth 100000 in
set_option maxHeartbeats 3200000 in
theorem rDivMod_c (x y q r : Int) (hq : q = x / y) (hr : r = x % y) (w : World) (hy : y ≠ 0) (hx : (mg x).size ≤ 1048576) (hyl : (mg y).size ≤ 1048576) : Calls Tryd.prog 64 #[.agg #[.bool (sg x), .string (mg x)], .agg #[.bool (sg y), .string (mg y)]] w fun e w' => e = .returned (.tuple #[.agg #[.bool (sg q), .string (mg q)], .agg #[.bool (sg r), .string (mg r)]]) ∧ Below w.heap.size w w' := by
  have h3 := Lib.hid (fun w => dig_D x w 1048576 hx (by omega))
  have h4 := Lib.hid (fun w => dig_D y w 1048576 hyl (by omega))
  have hya : 0 < y.natAbs := by omega
  obtain ⟨Q0, hQ0⟩ : ∃ z, z = x.natAbs / y.natAbs := ⟨_, rfl⟩
  obtain ⟨R0, hR0⟩ : ∃ z, z = x.natAbs % y.natAbs := ⟨_, rfl⟩
  obtain ⟨ri, hri⟩ : ∃ z : Int, z = (R0 : Nat) := ⟨_, rfl⟩
  obtain ⟨nb, hnb⟩ : ∃ b, b = (!sg x == sg y) := ⟨_, rfl⟩
  have HB : (sg x == sg y) = !nb := by rw [hnb]; cases sg x <;> cases sg y <;> rfl
  have HQp : Hid (sg x = false ∨ R0 = 0 → q = if nb then -(Q0 : Int) else (Q0 : Int)) := Lib.hid fun h => by rw [hnb, hq, hQ0]; rw [hR0] at h; exact quo_plain x y h
  have HRp : Hid (sg x = false ∨ R0 = 0 → r = ri) := Lib.hid fun h => by rw [hri, hr, hR0]; rw [hR0] at h; exact rem_plain x y h
  have HQu : Hid (sg x = true → R0 ≠ 0 → q = if nb then -((Q0 + 1 : Nat) : Int) else ((Q0 + 1 : Nat) : Int)) := Lib.hid fun h h0 => by rw [hnb, hq, hQ0]; rw [hR0] at h0; exact quo_up x y hy h h0
  have HRu : Hid (sg x = true → R0 ≠ 0 → r = (y.natAbs : Int) - ri) := Lib.hid fun h h0 => by
    have h5 := Nat.mod_lt x.natAbs hya
    rw [hR0] at h0
    have h6 := rem_up x y hy h h0
    rw [hri, hr, hR0]; omega
  have hrl : R0 < y.natAbs := by rw [hR0]; exact Nat.mod_lt _ hya
  have hrsz : (mg ri).size ≤ 1048576 := by
    have : mg ri = mag R0 := by unfold mg; rw [hri, Int.natAbs_natCast]
    rw [this]; exact Nat.le_trans (size_mag_mono R0 y.natAbs (by omega)) hyl
  have hlen : ((mg ri).size : Int) = ((nd 256 R0 : Nat) : Int) := by
    have : mg ri = mag R0 := by unfold mg; rw [hri, Int.natAbs_natCast]
    rw [this, size_mag]
  have HD : Hid (∀ v1 v2 w, DL w v1 1048576 x.natAbs → DL w v2 1048576 y.natAbs → Calls Tryd.prog 83 #[v1, v2] w fun e w' => ∃ v, e = .returned v ∧ DP w' v 1048576 Q0 16777216 R0 ∧ Below w.heap.size w w') := Lib.hid fun v1 v2 w g1 g2 => by rw [hQ0, hR0]; exact divide_P v1 v2 1048576 _ _ w g1 g2 (by omega) hya
  have HRI := Lib.hid hri
  clear hQ0 hR0 hri hnb hq hr hrl hya
  go_enter Tryd.func64, Tryd.ntmps64
  go_wp2_with fail
  refine wp_region_facts (fun i v w9 => match i with
    | 0 => v = .agg #[.bool (sg x), .string (mg x)]
    | 1 => DL w9 v 1048576 x.natAbs
    | 2 => v = .agg #[.bool (sg y), .string (mg y)]
    | 3 => DL w9 v 1048576 y.natAbs
    | 4 => DP w9 v 1048576 Q0 16777216 R0
    | 5 => DP w9 v 1048576 Q0 16777216 R0
    | 6 => DL w9 v 1048576 Q0
    | 7 => DL w9 v 16777216 R0
    | 8 => DL w9 v 1048576 Q0
    | 9 => DL w9 v 16777216 R0
    | _ => True) (by kernel_rfl) (by kernel_rfl) ?_ ?_ ?_
  · intro i v w1 w2 hb h
    match i, h with
    | 0, h => exact h
    | 1, h => exact DL.below h hb
    | 2, h => exact h
    | 3, h => exact DL.below h hb
    | 4, h => exact DP.below h hb
    | 5, h => exact DP.below h hb
    | 6, h => exact DL.below h hb
    | 7, h => exact DL.below h hb
    | 8, h => exact DL.below h hb
    | 9, h => exact DL.below h hb
    | k + 10, h => exact trivial
  · refine KindSteps.cons ?_ ?_
    · intro xs w9 hw hd
      (first | (with_reducible have hw2 := World.plus_of_below ((World.below_plus _ _).trans (hw.mono (World.size_plus _ _))); obtain ⟨u, rfl⟩ := hw2) | (obtain ⟨u, rfl⟩ := World.plus_of_below hw))
      simp only [fill, Act.put, List.take_succ_cons, List.take_zero, List.drop_succ_cons, List.drop_zero, Nat.reduceAdd, Nat.zero_add, List.setIfInBounds_toArray, List.set_cons_succ, List.set_cons_zero, if_true, if_false, Nat.reduceEqDiff, reduceIte]
      go_wp2_with fail
      all_goals (first | exact Below.refl _ _ | exact ⟨by (repeat' (first | (with_reducible exact Below.refl _ _) | (with_reducible assumption) | (with_reducible refine Below.plus0 ?_ _) | (with_reducible refine Below.alloc0 ?_ _) | (with_reducible refine Below.plus ?_ ?_ _) | (with_reducible refine Below.alloc ?_ ?_ _) | (with_reducible refine Below.drew ?_) | (with_reducible refine Below.drewN ?_ _) | (simp [go_sem]; done) | (simp [go_sem]; omega))), _, rfl, rfl⟩ | exact ⟨rfl, by (repeat' (first | (with_reducible exact Below.refl _ _) | (with_reducible assumption) | (with_reducible refine Below.plus0 ?_ _) | (with_reducible refine Below.alloc0 ?_ _) | (with_reducible refine Below.plus ?_ ?_ _) | (with_reducible refine Below.alloc ?_ ?_ _) | (with_reducible refine Below.drew ?_) | (with_reducible refine Below.drewN ?_ _) | (simp [go_sem]; done) | (simp [go_sem]; omega))), _, rfl, rfl⟩ | exact ⟨by (repeat' (first | (with_reducible exact Below.refl _ _) | (with_reducible assumption) | (with_reducible refine Below.plus0 ?_ _) | (with_reducible refine Below.alloc0 ?_ _) | (with_reducible refine Below.plus ?_ ?_ _) | (with_reducible refine Below.alloc ?_ ?_ _) | (with_reducible refine Below.drew ?_) | (with_reducible refine Below.drewN ?_ _) | (simp [go_sem]; done) | (simp [go_sem]; omega))), rfl⟩ | (trace_state; fail))
    refine KindSteps.cons ?_ ?_
    · intro xs w9 hw hd
      (first | (with_reducible have hw2 := World.plus_of_below ((World.below_plus _ _).trans (hw.mono (World.size_plus _ _))); obtain ⟨u, rfl⟩ := hw2) | (obtain ⟨u, rfl⟩ := World.plus_of_below hw))
      simp only [fill, Act.put, List.take_succ_cons, List.take_zero, List.drop_succ_cons, List.drop_zero, Nat.reduceAdd, Nat.zero_add, List.setIfInBounds_toArray, List.set_cons_succ, List.set_cons_zero, if_true, if_false, Nat.reduceEqDiff, reduceIte]
      have f0 : (xs 0) = .agg #[.bool (sg x), .string (mg x)] := hd 0 (by kernel_rfl); simp only [f0]
      go_wp2_with (go_at_call 53; refine (h3.out _).mono ?_; rintro e w8 ⟨v, rfl, hdl, hb⟩)
      all_goals (first | exact Below.refl _ _ | exact hb | exact ⟨hb, _, rfl, hdl⟩ | exact ⟨rfl, hb, _, rfl, hdl⟩)
    refine KindSteps.cons ?_ ?_
    · intro xs w9 hw hd
      (first | (with_reducible have hw2 := World.plus_of_below ((World.below_plus _ _).trans (hw.mono (World.size_plus _ _))); obtain ⟨u, rfl⟩ := hw2) | (obtain ⟨u, rfl⟩ := World.plus_of_below hw))
      simp only [fill, Act.put, List.take_succ_cons, List.take_zero, List.drop_succ_cons, List.drop_zero, Nat.reduceAdd, Nat.zero_add, List.setIfInBounds_toArray, List.set_cons_succ, List.set_cons_zero, if_true, if_false, Nat.reduceEqDiff, reduceIte]
      go_wp2_with fail
      all_goals (first | exact Below.refl _ _ | exact ⟨by (repeat' (first | (with_reducible exact Below.refl _ _) | (with_reducible assumption) | (with_reducible refine Below.plus0 ?_ _) | (with_reducible refine Below.alloc0 ?_ _) | (with_reducible refine Below.plus ?_ ?_ _) | (with_reducible refine Below.alloc ?_ ?_ _) | (with_reducible refine Below.drew ?_) | (with_reducible refine Below.drewN ?_ _) | (simp [go_sem]; done) | (simp [go_sem]; omega))), _, rfl, rfl⟩ | exact ⟨rfl, by (repeat' (first | (with_reducible exact Below.refl _ _) | (with_reducible assumption) | (with_reducible refine Below.plus0 ?_ _) | (with_reducible refine Below.alloc0 ?_ _) | (with_reducible refine Below.plus ?_ ?_ _) | (with_reducible refine Below.alloc ?_ ?_ _) | (with_reducible refine Below.drew ?_) | (with_reducible refine Below.drewN ?_ _) | (simp [go_sem]; done) | (simp [go_sem]; omega))), _, rfl, rfl⟩ | exact ⟨by (repeat' (first | (with_reducible exact Below.refl _ _) | (with_reducible assumption) | (with_reducible refine Below.plus0 ?_ _) | (with_reducible refine Below.alloc0 ?_ _) | (with_reducible refine Below.plus ?_ ?_ _) | (with_reducible refine Below.alloc ?_ ?_ _) | (with_reducible refine Below.drew ?_) | (with_reducible refine Below.drewN ?_ _) | (simp [go_sem]; done) | (simp [go_sem]; omega))), rfl⟩ | (trace_state; fail))
    refine KindSteps.cons ?_ ?_
    · intro xs w9 hw hd
      (first | (with_reducible have hw2 := World.plus_of_below ((World.below_plus _ _).trans (hw.mono (World.size_plus _ _))); obtain ⟨u, rfl⟩ := hw2) | (obtain ⟨u, rfl⟩ := World.plus_of_below hw))
      simp only [fill, Act.put, List.take_succ_cons, List.take_zero, List.drop_succ_cons, List.drop_zero, Nat.reduceAdd, Nat.zero_add, List.setIfInBounds_toArray, List.set_cons_succ, List.set_cons_zero, if_true, if_false, Nat.reduceEqDiff, reduceIte]
      have f2 : (xs 2) = .agg #[.bool (sg y), .string (mg y)] := hd 2 (by kernel_rfl); simp only [f2]
      go_wp2_with (go_at_call 53; refine (h4.out _).mono ?_; rintro e w8 ⟨v, rfl, hdl, hb⟩)
      all_goals (first | exact Below.refl _ _ | exact hb | exact ⟨hb, _, rfl, hdl⟩ | exact ⟨rfl, hb, _, rfl, hdl⟩)
    refine KindSteps.cons ?_ ?_
    · intro xs w9 hw hd
      (first | (with_reducible have hw2 := World.plus_of_below ((World.below_plus _ _).trans (hw.mono (World.size_plus _ _))); obtain ⟨u, rfl⟩ := hw2) | (obtain ⟨u, rfl⟩ := World.plus_of_below hw))
      simp only [fill, Act.put, List.take_succ_cons, List.take_zero, List.drop_succ_cons, List.drop_zero, Nat.reduceAdd, Nat.zero_add, List.setIfInBounds_toArray, List.set_cons_succ, List.set_cons_zero, if_true, if_false, Nat.reduceEqDiff, reduceIte]
      have f1 : DL _ (xs 1) 1048576 x.natAbs := hd 1 (by kernel_rfl)
      have f3 : DL _ (xs 3) 1048576 y.natAbs := hd 3 (by kernel_rfl)
      go_wp2_with (go_at_call 83; refine (HD.out _ _ _ f1 f3).mono ?_; rintro e w8 ⟨v, rfl, hdl, hb⟩)
      all_goals (first | exact Below.refl _ _ | exact hb | exact ⟨hb, _, rfl, hdl⟩ | exact ⟨rfl, hb, _, rfl, hdl⟩)
    refine KindSteps.cons ?_ ?_
    · intro xs w9 hw hd
      (first | (with_reducible have hw2 := World.plus_of_below ((World.below_plus _ _).trans (hw.mono (World.size_plus _ _))); obtain ⟨u, rfl⟩ := hw2) | (obtain ⟨u, rfl⟩ := World.plus_of_below hw))
      simp only [fill, Act.put, List.take_succ_cons, List.take_zero, List.drop_succ_cons, List.drop_zero, Nat.reduceAdd, Nat.zero_add, List.setIfInBounds_toArray, List.set_cons_succ, List.set_cons_zero, if_true, if_false, Nat.reduceEqDiff, reduceIte]
      have f4 : DP _ (xs 4) 1048576 Q0 16777216 R0 := hd 4 (by kernel_rfl); obtain ⟨f4q, f4r, f4e, f4a, f4b⟩ := f4; simp only [f4e]
      go_wp2_with fail
      all_goals (first | exact Below.refl _ _ | exact ⟨by (repeat' (first | (with_reducible exact Below.refl _ _) | (with_reducible assumption) | (with_reducible refine Below.plus0 ?_ _) | (with_reducible refine Below.alloc0 ?_ _) | (with_reducible refine Below.plus ?_ ?_ _) | (with_reducible refine Below.alloc ?_ ?_ _) | (with_reducible refine Below.drew ?_) | (with_reducible refine Below.drewN ?_ _) | (simp [go_sem]; done) | (simp [go_sem]; omega))), _, rfl, ⟨f4q, f4r, rfl, f4a, f4b⟩⟩ | exact ⟨rfl, by (repeat' (first | (with_reducible exact Below.refl _ _) | (with_reducible assumption) | (with_reducible refine Below.plus0 ?_ _) | (with_reducible refine Below.alloc0 ?_ _) | (with_reducible refine Below.plus ?_ ?_ _) | (with_reducible refine Below.alloc ?_ ?_ _) | (with_reducible refine Below.drew ?_) | (with_reducible refine Below.drewN ?_ _) | (simp [go_sem]; done) | (simp [go_sem]; omega))), _, rfl, ⟨f4q, f4r, rfl, f4a, f4b⟩⟩ | exact ⟨by (repeat' (first | (with_reducible exact Below.refl _ _) | (with_reducible assumption) | (with_reducible refine Below.plus0 ?_ _) | (with_reducible refine Below.alloc0 ?_ _) | (with_reducible refine Below.plus ?_ ?_ _) | (with_reducible refine Below.alloc ?_ ?_ _) | (with_reducible refine Below.drew ?_) | (with_reducible refine Below.drewN ?_ _) | (simp [go_sem]; done) | (simp [go_sem]; omega))), ⟨f4q, f4r, rfl, f4a, f4b⟩⟩ | (trace_state; fail))
    refine KindSteps.cons ?_ ?_
    · intro xs w9 hw hd
      (first | (with_reducible have hw2 := World.plus_of_below ((World.below_plus _ _).trans (hw.mono (World.size_plus _ _))); obtain ⟨u, rfl⟩ := hw2) | (obtain ⟨u, rfl⟩ := World.plus_of_below hw))
      simp only [fill, Act.put, List.take_succ_cons, List.take_zero, List.drop_succ_cons, List.drop_zero, Nat.reduceAdd, Nat.zero_add, List.setIfInBounds_toArray, List.set_cons_succ, List.set_cons_zero, if_true, if_false, Nat.reduceEqDiff, reduceIte]
      have f5 : DP _ (xs 5) 1048576 Q0 16777216 R0 := hd 5 (by kernel_rfl); obtain ⟨f5q, f5r, f5e, f5a, f5b⟩ := f5; simp only [f5e]
      go_wp2_with fail
      all_goals (first | exact Below.refl _ _ | exact ⟨by (repeat' (first | (with_reducible exact Below.refl _ _) | (with_reducible assumption) | (with_reducible refine Below.plus0 ?_ _) | (with_reducible refine Below.alloc0 ?_ _) | (with_reducible refine Below.plus ?_ ?_ _) | (with_reducible refine Below.alloc ?_ ?_ _) | (with_reducible refine Below.drew ?_) | (with_reducible refine Below.drewN ?_ _) | (simp [go_sem]; done) | (simp [go_sem]; omega))), _, rfl, f5a⟩ | exact ⟨rfl, by (repeat' (first | (with_reducible exact Below.refl _ _) | (with_reducible assumption) | (with_reducible refine Below.plus0 ?_ _) | (with_reducible refine Below.alloc0 ?_ _) | (with_reducible refine Below.plus ?_ ?_ _) | (with_reducible refine Below.alloc ?_ ?_ _) | (with_reducible refine Below.drew ?_) | (with_reducible refine Below.drewN ?_ _) | (simp [go_sem]; done) | (simp [go_sem]; omega))), _, rfl, f5a⟩ | exact ⟨by (repeat' (first | (with_reducible exact Below.refl _ _) | (with_reducible assumption) | (with_reducible refine Below.plus0 ?_ _) | (with_reducible refine Below.alloc0 ?_ _) | (with_reducible refine Below.plus ?_ ?_ _) | (with_reducible refine Below.alloc ?_ ?_ _) | (with_reducible refine Below.drew ?_) | (with_reducible refine Below.drewN ?_ _) | (simp [go_sem]; done) | (simp [go_sem]; omega))), f5a⟩ | (trace_state; fail))
    refine KindSteps.cons ?_ ?_
    · intro xs w9 hw hd
      (first | (with_reducible have hw2 := World.plus_of_below ((World.below_plus _ _).trans (hw.mono (World.size_plus _ _))); obtain ⟨u, rfl⟩ := hw2) | (obtain ⟨u, rfl⟩ := World.plus_of_below hw))
      simp only [fill, Act.put, List.take_succ_cons, List.take_zero, List.drop_succ_cons, List.drop_zero, Nat.reduceAdd, Nat.zero_add, List.setIfInBounds_toArray, List.set_cons_succ, List.set_cons_zero, if_true, if_false, Nat.reduceEqDiff, reduceIte]
      have f5 : DP _ (xs 5) 1048576 Q0 16777216 R0 := hd 5 (by kernel_rfl); obtain ⟨f5q, f5r, f5e, f5a, f5b⟩ := f5; simp only [f5e]
      go_wp2_with fail
      all_goals (first | exact Below.refl _ _ | exact ⟨by (repeat' (first | (with_reducible exact Below.refl _ _) | (with_reducible assumption) | (with_reducible refine Below.plus0 ?_ _) | (with_reducible refine Below.alloc0 ?_ _) | (with_reducible refine Below.plus ?_ ?_ _) | (with_reducible refine Below.alloc ?_ ?_ _) | (with_reducible refine Below.drew ?_) | (with_reducible refine Below.drewN ?_ _) | (simp [go_sem]; done) | (simp [go_sem]; omega))), _, rfl, f5b⟩ | exact ⟨rfl, by (repeat' (first | (with_reducible exact Below.refl _ _) | (with_reducible assumption) | (with_reducible refine Below.plus0 ?_ _) | (with_reducible refine Below.alloc0 ?_ _) | (with_reducible refine Below.plus ?_ ?_ _) | (with_reducible refine Below.alloc ?_ ?_ _) | (with_reducible refine Below.drew ?_) | (with_reducible refine Below.drewN ?_ _) | (simp [go_sem]; done) | (simp [go_sem]; omega))), _, rfl, f5b⟩ | exact ⟨by (repeat' (first | (with_reducible exact Below.refl _ _) | (with_reducible assumption) | (with_reducible refine Below.plus0 ?_ _) | (with_reducible refine Below.alloc0 ?_ _) | (with_reducible refine Below.plus ?_ ?_ _) | (with_reducible refine Below.alloc ?_ ?_ _) | (with_reducible refine Below.drew ?_) | (with_reducible refine Below.drewN ?_ _) | (simp [go_sem]; done) | (simp [go_sem]; omega))), f5b⟩ | (trace_state; fail))
    refine KindSteps.cons ?_ ?_
    · intro xs w9 hw hd
      (first | (with_reducible have hw2 := World.plus_of_below ((World.below_plus _ _).trans (hw.mono (World.size_plus _ _))); obtain ⟨u, rfl⟩ := hw2) | (obtain ⟨u, rfl⟩ := World.plus_of_below hw))
      simp only [fill, Act.put, List.take_succ_cons, List.take_zero, List.drop_succ_cons, List.drop_zero, Nat.reduceAdd, Nat.zero_add, List.setIfInBounds_toArray, List.set_cons_succ, List.set_cons_zero, if_true, if_false, Nat.reduceEqDiff, reduceIte]
      have f6 : DL _ (xs 6) 1048576 Q0 := hd 6 (by kernel_rfl)
      go_wp2_with fail
      all_goals (first | exact Below.refl _ _ | exact ⟨by (repeat' (first | (with_reducible exact Below.refl _ _) | (with_reducible assumption) | (with_reducible refine Below.plus0 ?_ _) | (with_reducible refine Below.alloc0 ?_ _) | (with_reducible refine Below.plus ?_ ?_ _) | (with_reducible refine Below.alloc ?_ ?_ _) | (with_reducible refine Below.drew ?_) | (with_reducible refine Below.drewN ?_ _) | (simp [go_sem]; done) | (simp [go_sem]; omega))), _, rfl, f6⟩ | exact ⟨rfl, by (repeat' (first | (with_reducible exact Below.refl _ _) | (with_reducible assumption) | (with_reducible refine Below.plus0 ?_ _) | (with_reducible refine Below.alloc0 ?_ _) | (with_reducible refine Below.plus ?_ ?_ _) | (with_reducible refine Below.alloc ?_ ?_ _) | (with_reducible refine Below.drew ?_) | (with_reducible refine Below.drewN ?_ _) | (simp [go_sem]; done) | (simp [go_sem]; omega))), _, rfl, f6⟩ | exact ⟨by (repeat' (first | (with_reducible exact Below.refl _ _) | (with_reducible assumption) | (with_reducible refine Below.plus0 ?_ _) | (with_reducible refine Below.alloc0 ?_ _) | (with_reducible refine Below.plus ?_ ?_ _) | (with_reducible refine Below.alloc ?_ ?_ _) | (with_reducible refine Below.drew ?_) | (with_reducible refine Below.drewN ?_ _) | (simp [go_sem]; done) | (simp [go_sem]; omega))), f6⟩ | (trace_state; fail))
    refine KindSteps.cons ?_ ?_
    · intro xs w9 hw hd
      (first | (with_reducible have hw2 := World.plus_of_below ((World.below_plus _ _).trans (hw.mono (World.size_plus _ _))); obtain ⟨u, rfl⟩ := hw2) | (obtain ⟨u, rfl⟩ := World.plus_of_below hw))
      simp only [fill, Act.put, List.take_succ_cons, List.take_zero, List.drop_succ_cons, List.drop_zero, Nat.reduceAdd, Nat.zero_add, List.setIfInBounds_toArray, List.set_cons_succ, List.set_cons_zero, if_true, if_false, Nat.reduceEqDiff, reduceIte]
      have f7 : DL _ (xs 7) 16777216 R0 := hd 7 (by kernel_rfl)
      go_wp2_with fail
      all_goals (first | exact Below.refl _ _ | exact ⟨by (repeat' (first | (with_reducible exact Below.refl _ _) | (with_reducible assumption) | (with_reducible refine Below.plus0 ?_ _) | (with_reducible refine Below.alloc0 ?_ _) | (with_reducible refine Below.plus ?_ ?_ _) | (with_reducible refine Below.alloc ?_ ?_ _) | (with_reducible refine Below.drew ?_) | (with_reducible refine Below.drewN ?_ _) | (simp [go_sem]; done) | (simp [go_sem]; omega))), _, rfl, f7⟩ | exact ⟨rfl, by (repeat' (first | (with_reducible exact Below.refl _ _) | (with_reducible assumption) | (with_reducible refine Below.plus0 ?_ _) | (with_reducible refine Below.alloc0 ?_ _) | (with_reducible refine Below.plus ?_ ?_ _) | (with_reducible refine Below.alloc ?_ ?_ _) | (with_reducible refine Below.drew ?_) | (with_reducible refine Below.drewN ?_ _) | (simp [go_sem]; done) | (simp [go_sem]; omega))), _, rfl, f7⟩ | exact ⟨by (repeat' (first | (with_reducible exact Below.refl _ _) | (with_reducible assumption) | (with_reducible refine Below.plus0 ?_ _) | (with_reducible refine Below.alloc0 ?_ _) | (with_reducible refine Below.plus ?_ ?_ _) | (with_reducible refine Below.alloc ?_ ?_ _) | (with_reducible refine Below.drew ?_) | (with_reducible refine Below.drewN ?_ _) | (simp [go_sem]; done) | (simp [go_sem]; omega))), f7⟩ | (trace_state; fail))
    exact KindSteps.nil
  intro xs w9 hw hd
  (first | (with_reducible have hw2 := World.plus_of_below ((World.below_plus _ _).trans (hw.mono (World.size_plus _ _))); obtain ⟨u, rfl⟩ := hw2) | (obtain ⟨u, rfl⟩ := World.plus_of_below hw))
  simp only [fill, Act.put, List.take_succ_cons, List.take_zero, List.drop_succ_cons, List.drop_zero, Nat.reduceAdd, Nat.zero_add, List.setIfInBounds_toArray, List.set_cons_succ, List.set_cons_zero, if_true, if_false, Nat.reduceEqDiff, reduceIte]
  have f0 : (xs 0) = .agg #[.bool (sg x), .string (mg x)] := hd 0 (by decide)
  simp only [f0]
  have f1 : DL _ (xs 1) 1048576 x.natAbs := hd 1 (by decide)
  have f2 : (xs 2) = .agg #[.bool (sg y), .string (mg y)] := hd 2 (by decide)
  simp only [f2]
  have f3 : DL _ (xs 3) 1048576 y.natAbs := hd 3 (by decide)
  have f4 : DP _ (xs 4) 1048576 Q0 16777216 R0 := hd 4 (by decide)
  have f5 : DP _ (xs 5) 1048576 Q0 16777216 R0 := hd 5 (by decide)
  have f6 : DL _ (xs 6) 1048576 Q0 := hd 6 (by decide)
  have f7 : DL _ (xs 7) 16777216 R0 := hd 7 (by decide)
  have f8 : DL _ (xs 8) 1048576 Q0 := hd 8 (by decide)
  have f9 : DL _ (xs 9) 16777216 R0 := hd 9 (by decide)
  clear hd
  obtain ⟨vq, hvq⟩ : ∃ v, v = xs 8 := ⟨_, rfl⟩
  obtain ⟨vr, hvr⟩ : ∃ v, v = xs 9 := ⟨_, rfl⟩
  rw [← hvq] at f8 ⊢
  rw [← hvr] at f9 ⊢
  have g1 := f8
  have g2 := f9
  clear f1 f3 f4 f5 f6 f7 f8 f9 hvq hvr hw
  go_wp2_with fail
  refine (number_D false vr _ R0 ri _ g2 (by omega) HRI.out).mono ?_
  rintro e w' ⟨rfl, hb⟩
  replace g1 := g1.below hb
  obtain ⟨u2, rfl⟩ := World.plus_of_below ((World.below_plus _ _).trans (hb.mono (World.size_plus _ _)))
  clear hb g2
  replace g1 := DL.cellSwap (o2 := .cells #[.bool (sg ri), .string (mg ri)] 23) g1
  by_cases hs : sg x = true
  · have NBt : Hid (nb = !sg y) := Lib.hid (by have := HB; rw [hs] at this; cases hy2 : sg y <;> cases hn2 : nb <;> rw [hy2, hn2] at this <;> first | rfl | (simp at this))
    by_cases h0 : R0 = 0
    · skip
      have hq1 := HQp.out (.inr h0)
      have hr1 := HRp.out (.inr h0)
      rw [← hr1] at hlen g1 hrsz ⊢
      have hl0 : ((mg r).size : Int) = 0 := by rw [hlen, h0, nd_zero]; rfl
      have hl1 : (mg r).size = 0 := by omega
      have hqn : q = if (!sg y) then -(Q0 : Int) else (Q0 : Int) := by rw [hq1, NBt.out]
      have HQ := Lib.hid hqn
      rw [hs] at g1 ⊢
      clear hq1 hr1 hlen h0 hs hqn HB
      go_wp2_with fail
      have HNB : Hid (∀ wz, DL wz vq 1048576 Q0 → Calls Tryd.prog 51 #[.bool (!sg y), vq] wz fun e w' => e = .returned (.agg #[.bool (sg q), .string (mg q)]) ∧ Below wz.heap.size wz w') := Lib.hid fun wz h => number_D (!sg y) vq _ Q0 q _ h (by omega) HQ.out
      obtain ⟨W1, hW1⟩ : ∃ z, z = ((((w.alloc (.cells #[.bool true, .string (mg x)] 23)).alloc (.cells #[.bool (sg y), .string (mg y)] 23)).alloc (.cells #[.bool false, .string ⟨#[]⟩] 23)).alloc (.cells #[.bool (sg r), .string (mg r)] 23)).plus u2 := ⟨_, rfl⟩
      rw [← hW1] at g1 ⊢
      have q4 : W1.heap[w.heap.size + 1 + 1]? = some (.cells #[.bool false, .string ⟨#[]⟩] 23 (0, 0)) := by rw [hW1, World.heap_plus _ _ _ (by simp), heap_alloc_old _ _ (show w.heap.size + 1 + 1 < _ by simp)]; exact heap_at _ _ _ (by simp)
      have q5 : W1.heap[w.heap.size + 1 + 1 + 1]? = some (.cells #[.bool (sg r), .string (mg r)] 23 (0, 0)) := by rw [hW1, World.heap_plus _ _ _ (by simp)]; exact heap_at _ _ _ (by simp)
      have c2 : W1.cell? ⟨w.heap.size, 0, none⟩ = some (.bool true) := by rw [hW1]; simp [go_sem]
      have c3 : W1.cell? ⟨w.heap.size + 1, 0, none⟩ = some (.bool (sg y)) := by rw [hW1]; simp [go_sem]
      have hbw : Below w.heap.size w W1 := by rw [hW1]; (repeat' (first | (with_reducible exact Below.refl _ _) | (with_reducible assumption) | (with_reducible refine Below.plus0 ?_ _) | (with_reducible refine Below.alloc0 ?_ _) | (with_reducible refine Below.plus ?_ ?_ _) | (with_reducible refine Below.alloc ?_ ?_ _) | (with_reducible refine Below.drew ?_) | (with_reducible refine Below.drewN ?_ _) | (simp [go_sem]; done) | (simp [go_sem]; omega)))
      have e5 := World.row_self W1 _ _ _ q5
      have e4 := World.row_self W1 _ _ _ q4
      have z4 := (Array.getElem?_eq_some_iff.1 q4).1
      have z5 := (Array.getElem?_eq_some_iff.1 q5).1
      clear hW1 q4 q5
      obtain ⟨b5, hb5⟩ : ∃ b, b = w.heap.size + 1 + 1 + 1 := ⟨_, rfl⟩
      rw [← hb5] at e5 z5 ⊢
      obtain ⟨b4, hb4⟩ : ∃ b, b = w.heap.size + 1 + 1 := ⟨_, rfl⟩
      rw [← hb4] at e4 z4 ⊢
      obtain ⟨b3, hb3⟩ : ∃ b, b = w.heap.size + 1 := ⟨_, rfl⟩
      rw [← hb3] at c3 ⊢
      obtain ⟨b2, hb2⟩ : ∃ b, b = w.heap.size := ⟨_, rfl⟩
      have hb2b : w.heap.size = b2 := hb2.symm
      have n1 : b2 ≠ b4 := by omega
      have n2 : b2 ≠ b5 := by omega
      have n3 : b3 ≠ b4 := by omega
      have n4 : b3 ≠ b5 := by omega
      have n5 : b5 ≠ b4 := by omega
      have n6 : b4 ≠ b5 := by omega
      have z2 : b2 < W1.heap.size := by omega
      have z3 : b3 < W1.heap.size := by omega
      have y4 : w.heap.size ≤ b4 := by omega
      have y5 : w.heap.size ≤ b5 := by omega
      rw [hb2b] at c2
      simp only [hb2b]
      have eW : (W1.row b5 23 #[.bool (sg r), .string (mg r)]).row b4 23 #[.bool false, .string ⟨#[]⟩] = W1 := by rw [e5, e4]
      have gA : DL ((W1.row b5 23 #[.bool (sg r), .string (mg r)]).row b4 23 #[.bool false, .string ⟨#[]⟩]) vq 1048576 Q0 := by rw [eW]; exact g1
      have hk4 : b4 < (W1.row b5 23 #[.bool (sg r), .string (mg r)]).heap.size := by rw [World.size_row]; exact z4
      have gB := DL.rowSwap (c1 := #[.bool (sg q), .string (mg q)]) hk4 gA
      rw [← eW]
      have GA := Lib.hid gA
      have GB := Lib.hid gB
      clear e4 e5 eW g1 gA gB hb2 hb2b hb3 hb4 hb5
      refine wp_region_rel_t (Rel := SR b4 (.cells #[.bool (sg q), .string (mg q)] 23 (0, 0))) 9 (fun i v w9 => match i with
          | 0 => v = .pointer (some ⟨b2, 0, none⟩)
          | 1 => v = .bool true
          | 2 => v = .pointer (some ⟨b3, 0, none⟩)
          | 3 => v = .bool (sg y)
          | 4 => v = .bool (!sg y)
          | 5 => v = vq
          | 6 => v = .agg #[.bool (sg q), .string (mg q)]
          | 7 => v = .agg #[.bool (sg r), .string (mg r)]
          | 8 => w9.heap[b4]? = some (.cells #[.bool (sg q), .string (mg q)] 23 (0, 0))
          | _ => True) (by kernel_rfl) (by kernel_rfl) (fun _ _ _ => SR.trans) (SR.of_below ⟨rfl, rfl, rfl, Nat.le_refl _, fun _ _ => rfl⟩) ?_ ?_ ?_
      · intro i v w1 w2 hb h
        match i, h with
        | 0, h => exact h
        | 1, h => exact h
        | 2, h => exact h
        | 3, h => exact h
        | 4, h => exact h
        | 5, h => exact h
        | 6, h => exact h
        | 7, h => exact h
        | 8, h =>
          rcases hb.2.2.2.2.2 (Array.getElem?_eq_some_iff.1 h).1 with h2 | h2
          · exact h2.trans h
          · exact h2
        | k + 9, h => exact trivial
      · simp only [List.take_succ_cons, List.take_zero]
        refine RSteps.cons ?_ ?_
        · intro xs w9 hw hd
          rcases SR.split hk4 hw with ⟨u, rfl⟩ | ⟨u, rfl⟩
          all_goals
            simp only [fill, Act.put, List.take_succ_cons, List.take_zero, List.drop_succ_cons, List.drop_zero, Nat.reduceAdd, Nat.zero_add, List.setIfInBounds_toArray, List.set_cons_succ, List.set_cons_zero, if_true, if_false, Nat.reduceEqDiff, reduceIte]
            go_wp2_with fail
            all_goals (first | exact SR.refl _ _ _ | exact ⟨SR.refl _ _ _, _, rfl, rfl⟩ | exact ⟨rfl, SR.refl _ _ _, _, rfl, rfl⟩ | (trace_state; fail))
        refine RSteps.cons ?_ ?_
        · intro xs w9 hw hd
          rcases SR.split hk4 hw with ⟨u, rfl⟩ | ⟨u, rfl⟩
          all_goals
            simp only [fill, Act.put, List.take_succ_cons, List.take_zero, List.drop_succ_cons, List.drop_zero, Nat.reduceAdd, Nat.zero_add, List.setIfInBounds_toArray, List.set_cons_succ, List.set_cons_zero, if_true, if_false, Nat.reduceEqDiff, reduceIte]
            have f0 : xs 0 = .pointer (some ⟨b2, 0, none⟩) := hd 0 (by kernel_rfl)
            simp only [f0]
            go_wp2_with fail
            all_goals (first | exact SR.refl _ _ _ | exact ⟨SR.refl _ _ _, _, rfl, rfl⟩ | exact ⟨rfl, SR.refl _ _ _, _, rfl, rfl⟩ | (trace_state; fail))
        refine RSteps.cons ?_ ?_
        · intro xs w9 hw hd
          rcases SR.split hk4 hw with ⟨u, rfl⟩ | ⟨u, rfl⟩
          all_goals
            simp only [fill, Act.put, List.take_succ_cons, List.take_zero, List.drop_succ_cons, List.drop_zero, Nat.reduceAdd, Nat.zero_add, List.setIfInBounds_toArray, List.set_cons_succ, List.set_cons_zero, if_true, if_false, Nat.reduceEqDiff, reduceIte]
            go_wp2_with fail
            all_goals (first | exact SR.refl _ _ _ | exact ⟨SR.refl _ _ _, _, rfl, rfl⟩ | exact ⟨rfl, SR.refl _ _ _, _, rfl, rfl⟩ | (trace_state; fail))
        refine RSteps.cons ?_ ?_
        · intro xs w9 hw hd
          rcases SR.split hk4 hw with ⟨u, rfl⟩ | ⟨u, rfl⟩
          all_goals
            simp only [fill, Act.put, List.take_succ_cons, List.take_zero, List.drop_succ_cons, List.drop_zero, Nat.reduceAdd, Nat.zero_add, List.setIfInBounds_toArray, List.set_cons_succ, List.set_cons_zero, if_true, if_false, Nat.reduceEqDiff, reduceIte]
            have f2 : xs 2 = .pointer (some ⟨b3, 0, none⟩) := hd 2 (by kernel_rfl)
            simp only [f2]
            go_wp2_with fail
            all_goals (first | exact SR.refl _ _ _ | exact ⟨SR.refl _ _ _, _, rfl, rfl⟩ | exact ⟨rfl, SR.refl _ _ _, _, rfl, rfl⟩ | (trace_state; fail))
        refine RSteps.cons ?_ ?_
        · intro xs w9 hw hd
          rcases SR.split hk4 hw with ⟨u, rfl⟩ | ⟨u, rfl⟩
          all_goals
            simp only [fill, Act.put, List.take_succ_cons, List.take_zero, List.drop_succ_cons, List.drop_zero, Nat.reduceAdd, Nat.zero_add, List.setIfInBounds_toArray, List.set_cons_succ, List.set_cons_zero, if_true, if_false, Nat.reduceEqDiff, reduceIte]
            have f1 : xs 1 = .bool true := hd 1 (by kernel_rfl)
            simp only [f1]
            have f3 : xs 3 = .bool (sg y) := hd 3 (by kernel_rfl)
            simp only [f3]
            go_wp2_with fail
            all_goals (first | exact SR.refl _ _ _ | exact ⟨SR.refl _ _ _, _, rfl, rfl⟩ | exact ⟨rfl, SR.refl _ _ _, _, rfl, rfl⟩ | (trace_state; fail))
        refine RSteps.cons ?_ ?_
        · intro xs w9 hw hd
          rcases SR.split hk4 hw with ⟨u, rfl⟩ | ⟨u, rfl⟩
          all_goals
            simp only [fill, Act.put, List.take_succ_cons, List.take_zero, List.drop_succ_cons, List.drop_zero, Nat.reduceAdd, Nat.zero_add, List.setIfInBounds_toArray, List.set_cons_succ, List.set_cons_zero, if_true, if_false, Nat.reduceEqDiff, reduceIte]
            go_wp2_with fail
            all_goals (first | exact SR.refl _ _ _ | exact ⟨SR.refl _ _ _, _, rfl, rfl⟩ | exact ⟨rfl, SR.refl _ _ _, _, rfl, rfl⟩ | (trace_state; fail))
        refine RSteps.cons ?_ ?_
        · intro xs w9 hw hd
          rcases SR.split hk4 hw with ⟨u, rfl⟩ | ⟨u, rfl⟩
          all_goals
            simp only [fill, Act.put, List.take_succ_cons, List.take_zero, List.drop_succ_cons, List.drop_zero, Nat.reduceAdd, Nat.zero_add, List.setIfInBounds_toArray, List.set_cons_succ, List.set_cons_zero, if_true, if_false, Nat.reduceEqDiff, reduceIte]
            have f4 : xs 4 = .bool (!sg y) := hd 4 (by kernel_rfl)
            simp only [f4]
            have f5 : xs 5 = vq := hd 5 (by kernel_rfl)
            simp only [f5]
            go_wp2_with (go_at_call 51; (first | (with_reducible refine (HNB.out _ (GA.out.below (World.below_plus _ _))).mono ?_) | (with_reducible refine (HNB.out _ (GB.out.below (World.below_plus _ _))).mono ?_)); rintro e w8 ⟨rfl, hb⟩)
            all_goals (first | exact SR.of_below hb | exact ⟨SR.of_below hb, _, rfl, rfl⟩ | exact ⟨rfl, SR.of_below hb, _, rfl, rfl⟩ | (trace_state; fail))
        refine RSteps.cons ?_ ?_
        · intro xs w9 hw hd
          rcases SR.split hk4 hw with ⟨u, rfl⟩ | ⟨u, rfl⟩
          all_goals
            simp only [fill, Act.put, List.take_succ_cons, List.take_zero, List.drop_succ_cons, List.drop_zero, Nat.reduceAdd, Nat.zero_add, List.setIfInBounds_toArray, List.set_cons_succ, List.set_cons_zero, if_true, if_false, Nat.reduceEqDiff, reduceIte]
            go_wp2_with fail
            all_goals (first | exact SR.refl _ _ _ | exact ⟨SR.refl _ _ _, _, rfl, rfl⟩ | exact ⟨rfl, SR.refl _ _ _, _, rfl, rfl⟩ | (trace_state; fail))
        refine RSteps.cons ?_ ?_
        · intro xs w9 hw hd
          rcases SR.split hk4 hw with ⟨u, rfl⟩ | ⟨u, rfl⟩
          all_goals
            simp only [fill, Act.put, List.take_succ_cons, List.take_zero, List.drop_succ_cons, List.drop_zero, Nat.reduceAdd, Nat.zero_add, List.setIfInBounds_toArray, List.set_cons_succ, List.set_cons_zero, if_true, if_false, Nat.reduceEqDiff, reduceIte]
            have f6 : xs 6 = .agg #[.bool (sg q), .string (mg q)] := hd 6 (by kernel_rfl)
            simp only [f6]
            go_wp2_with fail
            all_goals exact ⟨(SR.store hk4).1, (Array.getElem?_eq_some_iff.1 (SR.store_at hk4)).2⟩
        exact trivial
      · intro xs w9 hw hd
        have f8 : w9.heap[b4]? = some (.cells #[.bool (sg q), .string (mg q)] 23 (0, 0)) := hd 8 (by decide)
        have f7 : xs 7 = .agg #[.bool (sg r), .string (mg r)] := hd 7 (by decide)
        have f6 : xs 6 = .agg #[.bool (sg q), .string (mg q)] := hd 6 (by decide)
        obtain ⟨u, rfl⟩ := SR.at_end hk4 hw f8
        simp only [fill, Act.put, List.take_succ_cons, List.take_zero, List.drop_succ_cons, List.drop_zero, Nat.reduceAdd, Nat.zero_add, List.setIfInBounds_toArray, List.set_cons_succ, List.set_cons_zero, if_true, if_false, Nat.reduceEqDiff, reduceIte]
        simp only [f7, f6]
        clear hd hw f8
        go_wp2_with fail
        refine bodyPost_ret (by simp [results, Tryd.results64, go_sem, z4, z5, n5, n6, hk4]; rfl) rfl ?_
        exact ⟨rfl, by (repeat' (first | (with_reducible exact Below.refl _ _) | (with_reducible assumption) | (with_reducible refine Below.plus0 ?_ _) | (with_reducible refine Below.row ?_ ?_ _ _) | (with_reducible refine Below.alloc0 ?_ _) | (with_reducible refine Below.plus ?_ ?_ _) | (with_reducible refine Below.alloc ?_ ?_ _) | (with_reducible refine Below.drew ?_) | (with_reducible refine Below.drewN ?_ _) | (simp [go_sem]; done) | (simp [go_sem]; omega)))⟩
    · have hq1 := HQu.out hs h0
      have hr1 := HRu.out hs h0
      have hqn : q = if (!sg y) then -((Q0 + 1 : Nat) : Int) else ((Q0 + 1 : Nat) : Int) := by rw [hq1, NBt.out]
      have HQ := Lib.hid hqn
      have hl0 : (0 : Int) < ((mg ri).size : Int) := by
        have := nd_pos 256 (by omega) R0 (by omega)
        omega
      have hl1 : 0 < (mg ri).size := by omega
      obtain ⟨ya, hya2⟩ : ∃ z : Int, z = (y.natAbs : Nat) := ⟨_, rfl⟩
      have hyaz : (mg ya).size ≤ 1048576 := by
        have : mg ya = mg y := by unfold mg; rw [hya2, Int.natAbs_natCast]
        rw [this]; exact hyl
      have HAB := Lib.hid (fun w => rAbs_c y ya hya2 w)
      have HSU := Lib.hid (fun w => rSub_c ya ri r (by rw [hya2]; exact hr1) w (by omega) (by omega))
      rw [hs] at g1 ⊢
      clear hq1 hr1 hlen h0 hs hqn HB hya2
      go_wp2_with fail
      refine (sum_D vq _ 1048576 Q0 1 _ (g1.below ((Below.refl _ _).alloc (Nat.le_refl _) _)) ((one_D _).more (by omega)) (by omega)).mono ?_
      rintro e w' ⟨vq2, rfl, hd2, hb⟩
      obtain ⟨u3, rfl⟩ := World.plus_of_below ((World.below_plus (((w.alloc (.cells #[.bool true, .string (mg x)] 23)).alloc (.cells #[.bool (sg y), .string (mg y)] 23)).alloc (.cells #[.bool false, .string ⟨#[]⟩] 23) |>.alloc (.cells #[.bool (sg ri), .string (mg ri)] 23)) u2).trans ((((Below.refl _ _).alloc (Nat.le_refl _) _).trans (hb.mono (by simp))).mono (World.size_plus _ _)))
      clear hb g1
      rename_i vqold
      have g1 := hd2
      clear hd2
      go_wp2_with fail
      refine wp_region_facts_t 4 (fun i v w9 => match i with
        | 0 => v = .agg #[.bool (sg y), .string (mg y)]
        | 1 => v = .agg #[.bool (sg ya), .string (mg ya)]
        | 2 => v = .agg #[.bool (sg ri), .string (mg ri)]
        | 3 => v = .agg #[.bool (sg r), .string (mg r)]
        | _ => True) (by kernel_rfl) (by kernel_rfl) ?_ ?_ ?_
      · intro i v w1 w2 hb h
        match i, h with
        | 0, h => exact h
        | 1, h => exact h
        | 2, h => exact h
        | 3, h => exact h
        | k + 4, h => exact trivial
      · simp only [List.take_succ_cons, List.take_zero]; 
        refine KindSteps.cons ?_ ?_
        · intro xs w9 hw hd
          have g1 := g1.below hw; (first | (with_reducible have hw2 := World.plus_of_below ((World.below_plus _ _).trans (hw.mono (World.size_plus _ _))); obtain ⟨u, rfl⟩ := hw2) | (obtain ⟨u, rfl⟩ := World.plus_of_below hw))
          simp only [fill, Act.put, List.take_succ_cons, List.take_zero, List.drop_succ_cons, List.drop_zero, Nat.reduceAdd, Nat.zero_add, List.setIfInBounds_toArray, List.set_cons_succ, List.set_cons_zero, if_true, if_false, Nat.reduceEqDiff, reduceIte]
          go_wp2_with fail
          all_goals (first | exact Below.refl _ _ | exact ⟨by (repeat' (first | (with_reducible exact Below.refl _ _) | (with_reducible assumption) | (with_reducible refine Below.plus0 ?_ _) | (with_reducible refine Below.alloc0 ?_ _) | (with_reducible refine Below.plus ?_ ?_ _) | (with_reducible refine Below.alloc ?_ ?_ _) | (with_reducible refine Below.drew ?_) | (with_reducible refine Below.drewN ?_ _) | (simp [go_sem]; done) | (simp [go_sem]; omega))), _, rfl, rfl⟩ | exact ⟨rfl, by (repeat' (first | (with_reducible exact Below.refl _ _) | (with_reducible assumption) | (with_reducible refine Below.plus0 ?_ _) | (with_reducible refine Below.alloc0 ?_ _) | (with_reducible refine Below.plus ?_ ?_ _) | (with_reducible refine Below.alloc ?_ ?_ _) | (with_reducible refine Below.drew ?_) | (with_reducible refine Below.drewN ?_ _) | (simp [go_sem]; done) | (simp [go_sem]; omega))), _, rfl, rfl⟩ | exact ⟨by (repeat' (first | (with_reducible exact Below.refl _ _) | (with_reducible assumption) | (with_reducible refine Below.plus0 ?_ _) | (with_reducible refine Below.alloc0 ?_ _) | (with_reducible refine Below.plus ?_ ?_ _) | (with_reducible refine Below.alloc ?_ ?_ _) | (with_reducible refine Below.drew ?_) | (with_reducible refine Below.drewN ?_ _) | (simp [go_sem]; done) | (simp [go_sem]; omega))), rfl⟩ | (trace_state; fail))
        refine KindSteps.cons ?_ ?_
        · intro xs w9 hw hd
          have g1 := g1.below hw; (first | (with_reducible have hw2 := World.plus_of_below ((World.below_plus _ _).trans (hw.mono (World.size_plus _ _))); obtain ⟨u, rfl⟩ := hw2) | (obtain ⟨u, rfl⟩ := World.plus_of_below hw))
          simp only [fill, Act.put, List.take_succ_cons, List.take_zero, List.drop_succ_cons, List.drop_zero, Nat.reduceAdd, Nat.zero_add, List.setIfInBounds_toArray, List.set_cons_succ, List.set_cons_zero, if_true, if_false, Nat.reduceEqDiff, reduceIte]
          have f0 : (xs 0) = .agg #[.bool (sg y), .string (mg y)] := hd 0 (by kernel_rfl); simp only [f0]
          go_wp2_with (go_at_call 24; refine (HAB.out _).mono ?_; rintro e w8 ⟨rfl, hb⟩)
          all_goals (first | exact Below.refl _ _ | exact hb | exact ⟨hb, _, rfl, rfl⟩ | exact ⟨rfl, hb, _, rfl, rfl⟩)
        refine KindSteps.cons ?_ ?_
        · intro xs w9 hw hd
          have g1 := g1.below hw; (first | (with_reducible have hw2 := World.plus_of_below ((World.below_plus _ _).trans (hw.mono (World.size_plus _ _))); obtain ⟨u, rfl⟩ := hw2) | (obtain ⟨u, rfl⟩ := World.plus_of_below hw))
          simp only [fill, Act.put, List.take_succ_cons, List.take_zero, List.drop_succ_cons, List.drop_zero, Nat.reduceAdd, Nat.zero_add, List.setIfInBounds_toArray, List.set_cons_succ, List.set_cons_zero, if_true, if_false, Nat.reduceEqDiff, reduceIte]
          go_wp2_with fail
          all_goals (first | exact Below.refl _ _ | exact ⟨by (repeat' (first | (with_reducible exact Below.refl _ _) | (with_reducible assumption) | (with_reducible refine Below.plus0 ?_ _) | (with_reducible refine Below.alloc0 ?_ _) | (with_reducible refine Below.plus ?_ ?_ _) | (with_reducible refine Below.alloc ?_ ?_ _) | (with_reducible refine Below.drew ?_) | (with_reducible refine Below.drewN ?_ _) | (simp [go_sem]; done) | (simp [go_sem]; omega))), _, rfl, rfl⟩ | exact ⟨rfl, by (repeat' (first | (with_reducible exact Below.refl _ _) | (with_reducible assumption) | (with_reducible refine Below.plus0 ?_ _) | (with_reducible refine Below.alloc0 ?_ _) | (with_reducible refine Below.plus ?_ ?_ _) | (with_reducible refine Below.alloc ?_ ?_ _) | (with_reducible refine Below.drew ?_) | (with_reducible refine Below.drewN ?_ _) | (simp [go_sem]; done) | (simp [go_sem]; omega))), _, rfl, rfl⟩ | exact ⟨by (repeat' (first | (with_reducible exact Below.refl _ _) | (with_reducible assumption) | (with_reducible refine Below.plus0 ?_ _) | (with_reducible refine Below.alloc0 ?_ _) | (with_reducible refine Below.plus ?_ ?_ _) | (with_reducible refine Below.alloc ?_ ?_ _) | (with_reducible refine Below.drew ?_) | (with_reducible refine Below.drewN ?_ _) | (simp [go_sem]; done) | (simp [go_sem]; omega))), rfl⟩ | (trace_state; fail))
        refine KindSteps.cons ?_ ?_
        · intro xs w9 hw hd
          have g1 := g1.below hw; (first | (with_reducible have hw2 := World.plus_of_below ((World.below_plus _ _).trans (hw.mono (World.size_plus _ _))); obtain ⟨u, rfl⟩ := hw2) | (obtain ⟨u, rfl⟩ := World.plus_of_below hw))
          simp only [fill, Act.put, List.take_succ_cons, List.take_zero, List.drop_succ_cons, List.drop_zero, Nat.reduceAdd, Nat.zero_add, List.setIfInBounds_toArray, List.set_cons_succ, List.set_cons_zero, if_true, if_false, Nat.reduceEqDiff, reduceIte]
          have f1 : (xs 1) = .agg #[.bool (sg ya), .string (mg ya)] := hd 1 (by kernel_rfl); simp only [f1]
          have f2 : (xs 2) = .agg #[.bool (sg ri), .string (mg ri)] := hd 2 (by kernel_rfl); simp only [f2]
          go_wp2_with (go_at_call 34; refine (HSU.out _).mono ?_; rintro e w8 ⟨rfl, hb⟩)
          all_goals (first | exact Below.refl _ _ | exact hb | exact ⟨hb, _, rfl, rfl⟩ | exact ⟨rfl, hb, _, rfl, rfl⟩)
        exact KindSteps.nil
      intro xs w9 hw hd
      have g1 := g1.below hw; (first | (with_reducible have hw2 := World.plus_of_below ((World.below_plus _ _).trans (hw.mono (World.size_plus _ _))); obtain ⟨u, rfl⟩ := hw2) | (obtain ⟨u, rfl⟩ := World.plus_of_below hw))
      simp only [fill, Act.put, List.take_succ_cons, List.take_zero, List.drop_succ_cons, List.drop_zero, Nat.reduceAdd, Nat.zero_add, List.setIfInBounds_toArray, List.set_cons_succ, List.set_cons_zero, if_true, if_false, Nat.reduceEqDiff, reduceIte]
      have f0 : (xs 0) = .agg #[.bool (sg y), .string (mg y)] := hd 0 (by decide)
      simp only [f0]
      have f1 : (xs 1) = .agg #[.bool (sg ya), .string (mg ya)] := hd 1 (by decide)
      simp only [f1]
      have f2 : (xs 2) = .agg #[.bool (sg ri), .string (mg ri)] := hd 2 (by decide)
      simp only [f2]
      have f3 : (xs 3) = .agg #[.bool (sg r), .string (mg r)] := hd 3 (by decide)
      simp only [f3]
      clear hd
      replace g1 := DL.cellSwap (o2 := .cells #[.bool (sg r), .string (mg r)] 23) g1
      go_wp2_with fail
      have HNB : Hid (∀ wz, DL wz vq2 1048577 (Q0 + 1) → Calls Tryd.prog 51 #[.bool (!sg y), vq2] wz fun e w' => e = .returned (.agg #[.bool (sg q), .string (mg q)]) ∧ Below wz.heap.size wz w') := Lib.hid fun wz h => number_D (!sg y) vq2 _ (Q0 + 1) q _ h (by omega) HQ.out
      obtain ⟨W1, hW1⟩ : ∃ z, z = ((((w.alloc (.cells #[.bool true, .string (mg x)] 23)).alloc (.cells #[.bool (sg y), .string (mg y)] 23)).alloc (.cells #[.bool false, .string ⟨#[]⟩] 23)).alloc (.cells #[.bool (sg r), .string (mg r)] 23)).plus u := ⟨_, rfl⟩
      rw [← hW1] at g1 ⊢
      have q4 : W1.heap[w.heap.size + 1 + 1]? = some (.cells #[.bool false, .string ⟨#[]⟩] 23 (0, 0)) := by rw [hW1, World.heap_plus _ _ _ (by simp), heap_alloc_old _ _ (show w.heap.size + 1 + 1 < _ by simp)]; exact heap_at _ _ _ (by simp)
      have q5 : W1.heap[w.heap.size + 1 + 1 + 1]? = some (.cells #[.bool (sg r), .string (mg r)] 23 (0, 0)) := by rw [hW1, World.heap_plus _ _ _ (by simp)]; exact heap_at _ _ _ (by simp)
      have c2 : W1.cell? ⟨w.heap.size, 0, none⟩ = some (.bool true) := by rw [hW1]; simp [go_sem]
      have c3 : W1.cell? ⟨w.heap.size + 1, 0, none⟩ = some (.bool (sg y)) := by rw [hW1]; simp [go_sem]
      have hbw : Below w.heap.size w W1 := by rw [hW1]; (repeat' (first | (with_reducible exact Below.refl _ _) | (with_reducible assumption) | (with_reducible refine Below.plus0 ?_ _) | (with_reducible refine Below.alloc0 ?_ _) | (with_reducible refine Below.plus ?_ ?_ _) | (with_reducible refine Below.alloc ?_ ?_ _) | (with_reducible refine Below.drew ?_) | (with_reducible refine Below.drewN ?_ _) | (simp [go_sem]; done) | (simp [go_sem]; omega)))
      have e5 := World.row_self W1 _ _ _ q5
      have e4 := World.row_self W1 _ _ _ q4
      have z4 := (Array.getElem?_eq_some_iff.1 q4).1
      have z5 := (Array.getElem?_eq_some_iff.1 q5).1
      clear hW1 q4 q5
      obtain ⟨b5, hb5⟩ : ∃ b, b = w.heap.size + 1 + 1 + 1 := ⟨_, rfl⟩
      rw [← hb5] at e5 z5 ⊢
      obtain ⟨b4, hb4⟩ : ∃ b, b = w.heap.size + 1 + 1 := ⟨_, rfl⟩
      rw [← hb4] at e4 z4 ⊢
      obtain ⟨b3, hb3⟩ : ∃ b, b = w.heap.size + 1 := ⟨_, rfl⟩
      rw [← hb3] at c3 ⊢
      obtain ⟨b2, hb2⟩ : ∃ b, b = w.heap.size := ⟨_, rfl⟩
      have hb2b : w.heap.size = b2 := hb2.symm
      have n1 : b2 ≠ b4 := by omega
      have n2 : b2 ≠ b5 := by omega
      have n3 : b3 ≠ b4 := by omega
      have n4 : b3 ≠ b5 := by omega
      have n5 : b5 ≠ b4 := by omega
      have n6 : b4 ≠ b5 := by omega
      have z2 : b2 < W1.heap.size := by omega
      have z3 : b3 < W1.heap.size := by omega
      have y4 : w.heap.size ≤ b4 := by omega
      have y5 : w.heap.size ≤ b5 := by omega
      rw [hb2b] at c2
      simp only [hb2b]
      have eW : (W1.row b5 23 #[.bool (sg r), .string (mg r)]).row b4 23 #[.bool false, .string ⟨#[]⟩] = W1 := by rw [e5, e4]
      have gA : DL ((W1.row b5 23 #[.bool (sg r), .string (mg r)]).row b4 23 #[.bool false, .string ⟨#[]⟩]) vq2 1048577 (Q0 + 1) := by rw [eW]; exact g1
      have hk4 : b4 < (W1.row b5 23 #[.bool (sg r), .string (mg r)]).heap.size := by rw [World.size_row]; exact z4
      have gB := DL.rowSwap (c1 := #[.bool (sg q), .string (mg q)]) hk4 gA
      rw [← eW]
      have GA := Lib.hid gA
      have GB := Lib.hid gB
      clear e4 e5 eW g1 gA gB hb2 hb2b hb3 hb4 hb5
      refine wp_region_rel_t (Rel := SR b4 (.cells #[.bool (sg q), .string (mg q)] 23 (0, 0))) 9 (fun i v w9 => match i with
          | 0 => v = .pointer (some ⟨b2, 0, none⟩)
          | 1 => v = .bool true
          | 2 => v = .pointer (some ⟨b3, 0, none⟩)
          | 3 => v = .bool (sg y)
          | 4 => v = .bool (!sg y)
          | 5 => v = vq2
          | 6 => v = .agg #[.bool (sg q), .string (mg q)]
          | 7 => v = .agg #[.bool (sg r), .string (mg r)]
          | 8 => w9.heap[b4]? = some (.cells #[.bool (sg q), .string (mg q)] 23 (0, 0))
          | _ => True) (by kernel_rfl) (by kernel_rfl) (fun _ _ _ => SR.trans) (SR.of_below ⟨rfl, rfl, rfl, Nat.le_refl _, fun _ _ => rfl⟩) ?_ ?_ ?_
      · intro i v w1 w2 hb h
        match i, h with
        | 0, h => exact h
        | 1, h => exact h
        | 2, h => exact h
        | 3, h => exact h
        | 4, h => exact h
        | 5, h => exact h
        | 6, h => exact h
        | 7, h => exact h
        | 8, h =>
          rcases hb.2.2.2.2.2 (Array.getElem?_eq_some_iff.1 h).1 with h2 | h2
          · exact h2.trans h
          · exact h2
        | k + 9, h => exact trivial
      · simp only [List.take_succ_cons, List.take_zero]
        refine RSteps.cons ?_ ?_
        · intro xs w9 hw hd
          rcases SR.split hk4 hw with ⟨u, rfl⟩ | ⟨u, rfl⟩
          all_goals
            simp only [fill, Act.put, List.take_succ_cons, List.take_zero, List.drop_succ_cons, List.drop_zero, Nat.reduceAdd, Nat.zero_add, List.setIfInBounds_toArray, List.set_cons_succ, List.set_cons_zero, if_true, if_false, Nat.reduceEqDiff, reduceIte]
            go_wp2_with fail
            all_goals (first | exact SR.refl _ _ _ | exact ⟨SR.refl _ _ _, _, rfl, rfl⟩ | exact ⟨rfl, SR.refl _ _ _, _, rfl, rfl⟩ | (trace_state; fail))
        refine RSteps.cons ?_ ?_
        · intro xs w9 hw hd
          rcases SR.split hk4 hw with ⟨u, rfl⟩ | ⟨u, rfl⟩
          all_goals
            simp only [fill, Act.put, List.take_succ_cons, List.take_zero, List.drop_succ_cons, List.drop_zero, Nat.reduceAdd, Nat.zero_add, List.setIfInBounds_toArray, List.set_cons_succ, List.set_cons_zero, if_true, if_false, Nat.reduceEqDiff, reduceIte]
            have f0 : xs 0 = .pointer (some ⟨b2, 0, none⟩) := hd 0 (by kernel_rfl)
            simp only [f0]
            go_wp2_with fail
            all_goals (first | exact SR.refl _ _ _ | exact ⟨SR.refl _ _ _, _, rfl, rfl⟩ | exact ⟨rfl, SR.refl _ _ _, _, rfl, rfl⟩ | (trace_state; fail))
        refine RSteps.cons ?_ ?_
        · intro xs w9 hw hd
          rcases SR.split hk4 hw with ⟨u, rfl⟩ | ⟨u, rfl⟩
          all_goals
            simp only [fill, Act.put, List.take_succ_cons, List.take_zero, List.drop_succ_cons, List.drop_zero, Nat.reduceAdd, Nat.zero_add, List.setIfInBounds_toArray, List.set_cons_succ, List.set_cons_zero, if_true, if_false, Nat.reduceEqDiff, reduceIte]
            go_wp2_with fail
            all_goals (first | exact SR.refl _ _ _ | exact ⟨SR.refl _ _ _, _, rfl, rfl⟩ | exact ⟨rfl, SR.refl _ _ _, _, rfl, rfl⟩ | (trace_state; fail))
        refine RSteps.cons ?_ ?_
        · intro xs w9 hw hd
          rcases SR.split hk4 hw with ⟨u, rfl⟩ | ⟨u, rfl⟩
          all_goals
            simp only [fill, Act.put, List.take_succ_cons, List.take_zero, List.drop_succ_cons, List.drop_zero, Nat.reduceAdd, Nat.zero_add, List.setIfInBounds_toArray, List.set_cons_succ, List.set_cons_zero, if_true, if_false, Nat.reduceEqDiff, reduceIte]
            have f2 : xs 2 = .pointer (some ⟨b3, 0, none⟩) := hd 2 (by kernel_rfl)
            simp only [f2]
            go_wp2_with fail
            all_goals (first | exact SR.refl _ _ _ | exact ⟨SR.refl _ _ _, _, rfl, rfl⟩ | exact ⟨rfl, SR.refl _ _ _, _, rfl, rfl⟩ | (trace_state; fail))
        refine RSteps.cons ?_ ?_
        · intro xs w9 hw hd
          rcases SR.split hk4 hw with ⟨u, rfl⟩ | ⟨u, rfl⟩
          all_goals
            simp only [fill, Act.put, List.take_succ_cons, List.take_zero, List.drop_succ_cons, List.drop_zero, Nat.reduceAdd, Nat.zero_add, List.setIfInBounds_toArray, List.set_cons_succ, List.set_cons_zero, if_true, if_false, Nat.reduceEqDiff, reduceIte]
            have f1 : xs 1 = .bool true := hd 1 (by kernel_rfl)
            simp only [f1]
            have f3 : xs 3 = .bool (sg y) := hd 3 (by kernel_rfl)
            simp only [f3]
            go_wp2_with fail
            all_goals (first | exact SR.refl _ _ _ | exact ⟨SR.refl _ _ _, _, rfl, rfl⟩ | exact ⟨rfl, SR.refl _ _ _, _, rfl, rfl⟩ | (trace_state; fail))
        refine RSteps.cons ?_ ?_
        · intro xs w9 hw hd
          rcases SR.split hk4 hw with ⟨u, rfl⟩ | ⟨u, rfl⟩
          all_goals
            simp only [fill, Act.put, List.take_succ_cons, List.take_zero, List.drop_succ_cons, List.drop_zero, Nat.reduceAdd, Nat.zero_add, List.setIfInBounds_toArray, List.set_cons_succ, List.set_cons_zero, if_true, if_false, Nat.reduceEqDiff, reduceIte]
            go_wp2_with fail
            all_goals (first | exact SR.refl _ _ _ | exact ⟨SR.refl _ _ _, _, rfl, rfl⟩ | exact ⟨rfl, SR.refl _ _ _, _, rfl, rfl⟩ | (trace_state; fail))
        refine RSteps.cons ?_ ?_
        · intro xs w9 hw hd
          rcases SR.split hk4 hw with ⟨u, rfl⟩ | ⟨u, rfl⟩
          all_goals
            simp only [fill, Act.put, List.take_succ_cons, List.take_zero, List.drop_succ_cons, List.drop_zero, Nat.reduceAdd, Nat.zero_add, List.setIfInBounds_toArray, List.set_cons_succ, List.set_cons_zero, if_true, if_false, Nat.reduceEqDiff, reduceIte]
            have f4 : xs 4 = .bool (!sg y) := hd 4 (by kernel_rfl)
            simp only [f4]
            have f5 : xs 5 = vq2 := hd 5 (by kernel_rfl)
            simp only [f5]
            go_wp2_with (go_at_call 51; (first | (with_reducible refine (HNB.out _ (GA.out.below (World.below_plus _ _))).mono ?_) | (with_reducible refine (HNB.out _ (GB.out.below (World.below_plus _ _))).mono ?_)); rintro e w8 ⟨rfl, hb⟩)
            all_goals (first | exact SR.of_below hb | exact ⟨SR.of_below hb, _, rfl, rfl⟩ | exact ⟨rfl, SR.of_below hb, _, rfl, rfl⟩ | (trace_state; fail))
        refine RSteps.cons ?_ ?_
        · intro xs w9 hw hd
          rcases SR.split hk4 hw with ⟨u, rfl⟩ | ⟨u, rfl⟩
          all_goals
            simp only [fill, Act.put, List.take_succ_cons, List.take_zero, List.drop_succ_cons, List.drop_zero, Nat.reduceAdd, Nat.zero_add, List.setIfInBounds_toArray, List.set_cons_succ, List.set_cons_zero, if_true, if_false, Nat.reduceEqDiff, reduceIte]
            go_wp2_with fail
            all_goals (first | exact SR.refl _ _ _ | exact ⟨SR.refl _ _ _, _, rfl, rfl⟩ | exact ⟨rfl, SR.refl _ _ _, _, rfl, rfl⟩ | (trace_state; fail))
        refine RSteps.cons ?_ ?_
        · intro xs w9 hw hd
          rcases SR.split hk4 hw with ⟨u, rfl⟩ | ⟨u, rfl⟩
          all_goals
            simp only [fill, Act.put, List.take_succ_cons, List.take_zero, List.drop_succ_cons, List.drop_zero, Nat.reduceAdd, Nat.zero_add, List.setIfInBounds_toArray, List.set_cons_succ, List.set_cons_zero, if_true, if_false, Nat.reduceEqDiff, reduceIte]
            have f6 : xs 6 = .agg #[.bool (sg q), .string (mg q)] := hd 6 (by kernel_rfl)
            simp only [f6]
            go_wp2_with fail
            all_goals exact ⟨(SR.store hk4).1, (Array.getElem?_eq_some_iff.1 (SR.store_at hk4)).2⟩
        exact trivial
      · intro xs w9 hw hd
        have f8 : w9.heap[b4]? = some (.cells #[.bool (sg q), .string (mg q)] 23 (0, 0)) := hd 8 (by decide)
        have f7 : xs 7 = .agg #[.bool (sg r), .string (mg r)] := hd 7 (by decide)
        have f6 : xs 6 = .agg #[.bool (sg q), .string (mg q)] := hd 6 (by decide)
        obtain ⟨u, rfl⟩ := SR.at_end hk4 hw f8
        simp only [fill, Act.put, List.take_succ_cons, List.take_zero, List.drop_succ_cons, List.drop_zero, Nat.reduceAdd, Nat.zero_add, List.setIfInBounds_toArray, List.set_cons_succ, List.set_cons_zero, if_true, if_false, Nat.reduceEqDiff, reduceIte]
        simp only [f7, f6]
        clear hd hw f8
        go_wp2_with fail
        refine bodyPost_ret (by simp [results, Tryd.results64, go_sem, z4, z5, n5, n6, hk4]; rfl) rfl ?_
        exact ⟨rfl, by (repeat' (first | (with_reducible exact Below.refl _ _) | (with_reducible assumption) | (with_reducible refine Below.plus0 ?_ _) | (with_reducible refine Below.row ?_ ?_ _ _) | (with_reducible refine Below.alloc0 ?_ _) | (with_reducible refine Below.plus ?_ ?_ _) | (with_reducible refine Below.alloc ?_ ?_ _) | (with_reducible refine Below.drew ?_) | (with_reducible refine Below.drewN ?_ _) | (simp [go_sem]; done) | (simp [go_sem]; omega)))⟩
  · skip
    have hs2 : sg x = false := by simpa using hs
    have hq1 := HQp.out (.inl hs2)
    have hr1 := HRp.out (.inl hs2)
    rw [← hr1] at hlen g1 hrsz ⊢
    have NBf : nb = sg y := by have := HB; rw [hs2] at this; cases hy2 : sg y <;> cases hn2 : nb <;> rw [hy2, hn2] at this <;> first | rfl | (simp at this)
    have hqn : q = if sg y then -(Q0 : Int) else (Q0 : Int) := by rw [hq1, NBf]
    have HQ := Lib.hid hqn
    rw [hs2] at g1 ⊢
    clear hq1 hr1 hlen hs2 hs hqn HB NBf
    go_wp2_with fail
    have HNB : Hid (∀ wz, DL wz vq 1048576 Q0 → Calls Tryd.prog 51 #[.bool (sg y), vq] wz fun e w' => e = .returned (.agg #[.bool (sg q), .string (mg q)]) ∧ Below wz.heap.size wz w') := Lib.hid fun wz h => number_D (sg y) vq _ Q0 q _ h (by omega) HQ.out
    obtain ⟨W1, hW1⟩ : ∃ z, z = ((((w.alloc (.cells #[.bool false, .string (mg x)] 23)).alloc (.cells #[.bool (sg y), .string (mg y)] 23)).alloc (.cells #[.bool false, .string ⟨#[]⟩] 23)).alloc (.cells #[.bool (sg r), .string (mg r)] 23)).plus u2 := ⟨_, rfl⟩
    rw [← hW1] at g1 ⊢
    have q4 : W1.heap[w.heap.size + 1 + 1]? = some (.cells #[.bool false, .string ⟨#[]⟩] 23 (0, 0)) := by rw [hW1, World.heap_plus _ _ _ (by simp), heap_alloc_old _ _ (show w.heap.size + 1 + 1 < _ by simp)]; exact heap_at _ _ _ (by simp)
    have q5 : W1.heap[w.heap.size + 1 + 1 + 1]? = some (.cells #[.bool (sg r), .string (mg r)] 23 (0, 0)) := by rw [hW1, World.heap_plus _ _ _ (by simp)]; exact heap_at _ _ _ (by simp)
    have c2 : W1.cell? ⟨w.heap.size, 0, none⟩ = some (.bool false) := by rw [hW1]; simp [go_sem]
    have c3 : W1.cell? ⟨w.heap.size + 1, 0, none⟩ = some (.bool (sg y)) := by rw [hW1]; simp [go_sem]
    have hbw : Below w.heap.size w W1 := by rw [hW1]; (repeat' (first | (with_reducible exact Below.refl _ _) | (with_reducible assumption) | (with_reducible refine Below.plus0 ?_ _) | (with_reducible refine Below.alloc0 ?_ _) | (with_reducible refine Below.plus ?_ ?_ _) | (with_reducible refine Below.alloc ?_ ?_ _) | (with_reducible refine Below.drew ?_) | (with_reducible refine Below.drewN ?_ _) | (simp [go_sem]; done) | (simp [go_sem]; omega)))
    have e5 := World.row_self W1 _ _ _ q5
    have e4 := World.row_self W1 _ _ _ q4
    have z4 := (Array.getElem?_eq_some_iff.1 q4).1
    have z5 := (Array.getElem?_eq_some_iff.1 q5).1
    clear hW1 q4 q5
    obtain ⟨b5, hb5⟩ : ∃ b, b = w.heap.size + 1 + 1 + 1 := ⟨_, rfl⟩
    rw [← hb5] at e5 z5 ⊢
    obtain ⟨b4, hb4⟩ : ∃ b, b = w.heap.size + 1 + 1 := ⟨_, rfl⟩
    rw [← hb4] at e4 z4 ⊢
    obtain ⟨b3, hb3⟩ : ∃ b, b = w.heap.size + 1 := ⟨_, rfl⟩
    rw [← hb3] at c3 ⊢
    obtain ⟨b2, hb2⟩ : ∃ b, b = w.heap.size := ⟨_, rfl⟩
    have hb2b : w.heap.size = b2 := hb2.symm
    have n1 : b2 ≠ b4 := by omega
    have n2 : b2 ≠ b5 := by omega
    have n3 : b3 ≠ b4 := by omega
    have n4 : b3 ≠ b5 := by omega
    have n5 : b5 ≠ b4 := by omega
    have n6 : b4 ≠ b5 := by omega
    have z2 : b2 < W1.heap.size := by omega
    have z3 : b3 < W1.heap.size := by omega
    have y4 : w.heap.size ≤ b4 := by omega
    have y5 : w.heap.size ≤ b5 := by omega
    rw [hb2b] at c2
    simp only [hb2b]
    have eW : (W1.row b5 23 #[.bool (sg r), .string (mg r)]).row b4 23 #[.bool false, .string ⟨#[]⟩] = W1 := by rw [e5, e4]
    have gA : DL ((W1.row b5 23 #[.bool (sg r), .string (mg r)]).row b4 23 #[.bool false, .string ⟨#[]⟩]) vq 1048576 Q0 := by rw [eW]; exact g1
    have hk4 : b4 < (W1.row b5 23 #[.bool (sg r), .string (mg r)]).heap.size := by rw [World.size_row]; exact z4
    have gB := DL.rowSwap (c1 := #[.bool (sg q), .string (mg q)]) hk4 gA
    rw [← eW]
    have GA := Lib.hid gA
    have GB := Lib.hid gB
    clear e4 e5 eW g1 gA gB hb2 hb2b hb3 hb4 hb5
    refine wp_region_rel_t (Rel := SR b4 (.cells #[.bool (sg q), .string (mg q)] 23 (0, 0))) 9 (fun i v w9 => match i with
        | 0 => v = .pointer (some ⟨b2, 0, none⟩)
        | 1 => v = .bool false
        | 2 => v = .pointer (some ⟨b3, 0, none⟩)
        | 3 => v = .bool (sg y)
        | 4 => v = .bool (sg y)
        | 5 => v = vq
        | 6 => v = .agg #[.bool (sg q), .string (mg q)]
        | 7 => v = .agg #[.bool (sg r), .string (mg r)]
        | 8 => w9.heap[b4]? = some (.cells #[.bool (sg q), .string (mg q)] 23 (0, 0))
        | _ => True) (by kernel_rfl) (by kernel_rfl) (fun _ _ _ => SR.trans) (SR.of_below ⟨rfl, rfl, rfl, Nat.le_refl _, fun _ _ => rfl⟩) ?_ ?_ ?_
    · intro i v w1 w2 hb h
      match i, h with
      | 0, h => exact h
      | 1, h => exact h
      | 2, h => exact h
      | 3, h => exact h
      | 4, h => exact h
      | 5, h => exact h
      | 6, h => exact h
      | 7, h => exact h
      | 8, h =>
        rcases hb.2.2.2.2.2 (Array.getElem?_eq_some_iff.1 h).1 with h2 | h2
        · exact h2.trans h
        · exact h2
      | k + 9, h => exact trivial
    · simp only [List.take_succ_cons, List.take_zero]
      refine RSteps.cons ?_ ?_
      · intro xs w9 hw hd
        rcases SR.split hk4 hw with ⟨u, rfl⟩ | ⟨u, rfl⟩
        all_goals
          simp only [fill, Act.put, List.take_succ_cons, List.take_zero, List.drop_succ_cons, List.drop_zero, Nat.reduceAdd, Nat.zero_add, List.setIfInBounds_toArray, List.set_cons_succ, List.set_cons_zero, if_true, if_false, Nat.reduceEqDiff, reduceIte]
          go_wp2_with fail
          all_goals (first | exact SR.refl _ _ _ | exact ⟨SR.refl _ _ _, _, rfl, rfl⟩ | exact ⟨rfl, SR.refl _ _ _, _, rfl, rfl⟩ | (trace_state; fail))
      refine RSteps.cons ?_ ?_
      · intro xs w9 hw hd
        rcases SR.split hk4 hw with ⟨u, rfl⟩ | ⟨u, rfl⟩
        all_goals
          simp only [fill, Act.put, List.take_succ_cons, List.take_zero, List.drop_succ_cons, List.drop_zero, Nat.reduceAdd, Nat.zero_add, List.setIfInBounds_toArray, List.set_cons_succ, List.set_cons_zero, if_true, if_false, Nat.reduceEqDiff, reduceIte]
          have f0 : xs 0 = .pointer (some ⟨b2, 0, none⟩) := hd 0 (by kernel_rfl)
          simp only [f0]
          go_wp2_with fail
          all_goals (first | exact SR.refl _ _ _ | exact ⟨SR.refl _ _ _, _, rfl, rfl⟩ | exact ⟨rfl, SR.refl _ _ _, _, rfl, rfl⟩ | (trace_state; fail))
      refine RSteps.cons ?_ ?_
      · intro xs w9 hw hd
        rcases SR.split hk4 hw with ⟨u, rfl⟩ | ⟨u, rfl⟩
        all_goals
          simp only [fill, Act.put, List.take_succ_cons, List.take_zero, List.drop_succ_cons, List.drop_zero, Nat.reduceAdd, Nat.zero_add, List.setIfInBounds_toArray, List.set_cons_succ, List.set_cons_zero, if_true, if_false, Nat.reduceEqDiff, reduceIte]
          go_wp2_with fail
          all_goals (first | exact SR.refl _ _ _ | exact ⟨SR.refl _ _ _, _, rfl, rfl⟩ | exact ⟨rfl, SR.refl _ _ _, _, rfl, rfl⟩ | (trace_state; fail))
      refine RSteps.cons ?_ ?_
      · intro xs w9 hw hd
        rcases SR.split hk4 hw with ⟨u, rfl⟩ | ⟨u, rfl⟩
        all_goals
          simp only [fill, Act.put, List.take_succ_cons, List.take_zero, List.drop_succ_cons, List.drop_zero, Nat.reduceAdd, Nat.zero_add, List.setIfInBounds_toArray, List.set_cons_succ, List.set_cons_zero, if_true, if_false, Nat.reduceEqDiff, reduceIte]
          have f2 : xs 2 = .pointer (some ⟨b3, 0, none⟩) := hd 2 (by kernel_rfl)
          simp only [f2]
          go_wp2_with fail
          all_goals (first | exact SR.refl _ _ _ | exact ⟨SR.refl _ _ _, _, rfl, rfl⟩ | exact ⟨rfl, SR.refl _ _ _, _, rfl, rfl⟩ | (trace_state; fail))
      refine RSteps.cons ?_ ?_
      · intro xs w9 hw hd
        rcases SR.split hk4 hw with ⟨u, rfl⟩ | ⟨u, rfl⟩
        all_goals
          simp only [fill, Act.put, List.take_succ_cons, List.take_zero, List.drop_succ_cons, List.drop_zero, Nat.reduceAdd, Nat.zero_add, List.setIfInBounds_toArray, List.set_cons_succ, List.set_cons_zero, if_true, if_false, Nat.reduceEqDiff, reduceIte]
          have f1 : xs 1 = .bool false := hd 1 (by kernel_rfl)
          simp only [f1]
          have f3 : xs 3 = .bool (sg y) := hd 3 (by kernel_rfl)
          simp only [f3]
          go_wp2_with fail
          all_goals (first | exact SR.refl _ _ _ | exact ⟨SR.refl _ _ _, _, rfl, rfl⟩ | exact ⟨rfl, SR.refl _ _ _, _, rfl, rfl⟩ | (trace_state; fail))
      refine RSteps.cons ?_ ?_
      · intro xs w9 hw hd
        rcases SR.split hk4 hw with ⟨u, rfl⟩ | ⟨u, rfl⟩
        all_goals
          simp only [fill, Act.put, List.take_succ_cons, List.take_zero, List.drop_succ_cons, List.drop_zero, Nat.reduceAdd, Nat.zero_add, List.setIfInBounds_toArray, List.set_cons_succ, List.set_cons_zero, if_true, if_false, Nat.reduceEqDiff, reduceIte]
          go_wp2_with fail
          all_goals (first | exact SR.refl _ _ _ | exact ⟨SR.refl _ _ _, _, rfl, rfl⟩ | exact ⟨rfl, SR.refl _ _ _, _, rfl, rfl⟩ | (trace_state; fail))
      refine RSteps.cons ?_ ?_
      · intro xs w9 hw hd
        rcases SR.split hk4 hw with ⟨u, rfl⟩ | ⟨u, rfl⟩
        all_goals
          simp only [fill, Act.put, List.take_succ_cons, List.take_zero, List.drop_succ_cons, List.drop_zero, Nat.reduceAdd, Nat.zero_add, List.setIfInBounds_toArray, List.set_cons_succ, List.set_cons_zero, if_true, if_false, Nat.reduceEqDiff, reduceIte]
          have f4 : xs 4 = .bool (sg y) := hd 4 (by kernel_rfl)
          simp only [f4]
          have f5 : xs 5 = vq := hd 5 (by kernel_rfl)
          simp only [f5]
          go_wp2_with (go_at_call 51; (first | (with_reducible refine (HNB.out _ (GA.out.below (World.below_plus _ _))).mono ?_) | (with_reducible refine (HNB.out _ (GB.out.below (World.below_plus _ _))).mono ?_)); rintro e w8 ⟨rfl, hb⟩)
          all_goals (first | exact SR.of_below hb | exact ⟨SR.of_below hb, _, rfl, rfl⟩ | exact ⟨rfl, SR.of_below hb, _, rfl, rfl⟩ | (trace_state; fail))
      refine RSteps.cons ?_ ?_
      · intro xs w9 hw hd
        rcases SR.split hk4 hw with ⟨u, rfl⟩ | ⟨u, rfl⟩
        all_goals
          simp only [fill, Act.put, List.take_succ_cons, List.take_zero, List.drop_succ_cons, List.drop_zero, Nat.reduceAdd, Nat.zero_add, List.setIfInBounds_toArray, List.set_cons_succ, List.set_cons_zero, if_true, if_false, Nat.reduceEqDiff, reduceIte]
          go_wp2_with fail
          all_goals (first | exact SR.refl _ _ _ | exact ⟨SR.refl _ _ _, _, rfl, rfl⟩ | exact ⟨rfl, SR.refl _ _ _, _, rfl, rfl⟩ | (trace_state; fail))
      refine RSteps.cons ?_ ?_
      · intro xs w9 hw hd
        rcases SR.split hk4 hw with ⟨u, rfl⟩ | ⟨u, rfl⟩
        all_goals
          simp only [fill, Act.put, List.take_succ_cons, List.take_zero, List.drop_succ_cons, List.drop_zero, Nat.reduceAdd, Nat.zero_add, List.setIfInBounds_toArray, List.set_cons_succ, List.set_cons_zero, if_true, if_false, Nat.reduceEqDiff, reduceIte]
          have f6 : xs 6 = .agg #[.bool (sg q), .string (mg q)] := hd 6 (by kernel_rfl)
          simp only [f6]
          go_wp2_with fail
          all_goals exact ⟨(SR.store hk4).1, (Array.getElem?_eq_some_iff.1 (SR.store_at hk4)).2⟩
      exact trivial
    · intro xs w9 hw hd
      have f8 : w9.heap[b4]? = some (.cells #[.bool (sg q), .string (mg q)] 23 (0, 0)) := hd 8 (by decide)
      have f7 : xs 7 = .agg #[.bool (sg r), .string (mg r)] := hd 7 (by decide)
      have f6 : xs 6 = .agg #[.bool (sg q), .string (mg q)] := hd 6 (by decide)
      obtain ⟨u, rfl⟩ := SR.at_end hk4 hw f8
      simp only [fill, Act.put, List.take_succ_cons, List.take_zero, List.drop_succ_cons, List.drop_zero, Nat.reduceAdd, Nat.zero_add, List.setIfInBounds_toArray, List.set_cons_succ, List.set_cons_zero, if_true, if_false, Nat.reduceEqDiff, reduceIte]
      simp only [f7, f6]
      clear hd hw f8
      go_wp2_with fail
      refine bodyPost_ret (by simp [results, Tryd.results64, go_sem, z4, z5, n5, n6, hk4]; rfl) rfl ?_
      exact ⟨rfl, by (repeat' (first | (with_reducible exact Below.refl _ _) | (with_reducible assumption) | (with_reducible refine Below.plus0 ?_ _) | (with_reducible refine Below.row ?_ ?_ _ _) | (with_reducible refine Below.alloc0 ?_ _) | (with_reducible refine Below.plus ?_ ?_ _) | (with_reducible refine Below.alloc ?_ ?_ _) | (with_reducible refine Below.drew ?_) | (with_reducible refine Below.drewN ?_ _) | (simp [go_sem]; done) | (simp [go_sem]; omega)))⟩
end Go.Proofs.YtkoodpbcfdblbaaDoor
