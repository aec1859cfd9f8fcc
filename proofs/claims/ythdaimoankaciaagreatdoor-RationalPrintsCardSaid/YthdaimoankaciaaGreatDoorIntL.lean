import Derived.Test.YthdaimoankaciaaGreatDoorIntK
import Derived.Test.YthdaimoankaciaaGreatDoorRoot
import Derived.Test.YthdaimoankaciaaGreatDoorKinds
import Derived.Deep.DeepCutAuto
import Derived.Deep.CutBlock
set_option linter.unusedSimpArgs false
set_option linter.unusedVariables false
namespace Go.Proofs.YthdaimoankaciaaGreatDoor
open Go Go.RowKit
open Vi
def DB (w : World) (v : Value) (n : Nat) (f : Nat → Nat) : Prop := (∀ i, f i < 256) ∧ ∃ g c, v = .slice (some ⟨g, 0, none⟩) n c ∧ g < w.heap.size ∧ ∀ i, i < n → w.cell? ⟨g, i, none⟩ = some (.int .u8 (f i : Int))
theorem DB.below {w w' : World} {v : Value} {n : Nat} {f : Nat → Nat} (h : DB w v n f) (hb : Below w.heap.size w w') : DB w' v n f := by
 obtain ⟨hf, g, c, rfl, hg, hc⟩ := h
 exact ⟨hf, g, c, rfl, Nat.lt_of_lt_of_le hg hb.size, fun i hi => (hb.cell (p := ⟨g, i, none⟩) hg).trans (hc i hi)⟩
theorem DB.form {w : World} {v : Value} {n : Nat} {f : Nat → Nat} (h : DB w v n f) : ∃ g c, v = .slice (some ⟨g, 0, none⟩) n c := by
 obtain ⟨_, g, c, rfl, _⟩ := h
 exact ⟨g, c, rfl⟩
theorem convG (w : World) (g n c : Nat) (f : Nat → Nat) (h : ∀ i, i < n → w.cell? ⟨g, i, none⟩ = some (.int .u8 (f i : Int))) : (convert 157 9 (.slice (some ⟨g, 0, none⟩) n c)).run Tryz.prog w = .ok (.string (strFn f n)) w := by
 have hlen : ((List.range n).map fun i => (f i : Int)).length = n := by simp
 have := run_convert_bytes_arg (P := Tryz.prog) w 157 5 Tryz.underlying157 Tryz.underlying5 g 0 n c ((List.range n).map fun i => (f i : Int)) hlen (fun i hi => by
  rw [Nat.zero_add, h i hi]
  simp [hi]) 9 Tryz.underlying9
 rw [this]
 have e : strOfNums ((List.range n).map fun i => (f i : Int)) = strFn f n := by
  unfold strOfNums strFn
  rw [List.map_map]; rfl
 rw [e]
theorem DB.conv {w : World} {g n c : Nat} {f : Nat → Nat} (h : DB w (.slice (some ⟨g, 0, none⟩) n c) n f) : (convert 157 9 (.slice (some ⟨g, 0, none⟩) n c)).run Tryz.prog w = .ok (.string (strFn f n)) w := by
 obtain ⟨hf, g', c', e, hg, hc⟩ := h
 cases e
 exact convG w g n c f hc
theorem DB.one (w : World) (b : Nat) (hb : b < 256) : DB (w.alloc (.cells #[.int .u8 (b : Int)] 5)) (.slice (some ⟨w.heap.size, 0, none⟩) 1 1) 1 (fun _ => b) :=
 ⟨fun _ => hb, _, _, rfl, by simp, fun i hi => by
  have e : i = 0 := by omega
  subst e
  rw [World.cell?_alloc_new]; rfl⟩
theorem strFn_one (b : Nat) : strFn (fun _ => b) 1 = ⟨#[UInt8.ofNat b]⟩ := rfl
theorem rep_zero (k : Nat) : Lib.repeatL [0] k = List.replicate k 0 := by
 induction k with
 | zero => rfl
 | succ k ih => rw [Lib.repeatL, ih]; rfl
theorem cat1 (b : UInt8) (l : List UInt8) : (⟨#[b]⟩ ++ ⟨l.toArray⟩ : ByteArray) = ⟨(b :: l).toArray⟩ := by
 apply ByteArray.ext
 simp
theorem sz_add (x y k : Nat) (hx : (mag x).size ≤ k) (hy : (mag y).size ≤ k) : (mag (x + y)).size ≤ k + 1 := by
 have h1 := lt_of_size_mag x k hx
 have h2 := lt_of_size_mag y k hy
 apply size_mag_le
 rw [Nat.pow_succ]
 have : 0 < 256 ^ k := Nat.pow_pos (by omega)
 omega
set_option maxRecDepth 100000 in
set_option maxHeartbeats 1600000 in
theorem root_c (X r : Nat) (h1 : r * r ≤ X) (h2 : X < (r + 1) * (r + 1)) (w : World) (hx : (mag X).size ≤ 1048576) : Calls Tryz.prog 147 #[.string (mag X)] w fun e w' => e = .returned (.string (mag r)) ∧ Below w.heap.size w w' := by
 by_cases h0 : X = 0
 ·have hr : r = 0 := by
    apply Decidable.byContradiction
    intro h
    have : 1 * 1 ≤ r * r := Nat.mul_le_mul (by omega) (by omega)
    omega
  subst hr
  subst h0
  rw [mag_zero]
  clear h1 h2 hx
  go_enter Tryz.func147, Tryz.ntmps147
  go_wp2
  go_ret
  exact ⟨rfl, by (repeat' (first | (with_reducible first | exact Below.refl _ _ | assumption | refine Below.plus0 ?_ _ | refine Below.alloc0 ?_ _ | refine Below.plus ?_ ?_ _ | refine Below.alloc ?_ ?_ _ | refine Below.drew ?_ | refine Below.drewN ?_ _) | (simp [go_sem]; done) | (simp [go_sem]; omega)))⟩
 ·have he2 : (mag X).toList.isEmpty = false := mag_empty_not X h0
  obtain ⟨hp, hg, hlt⟩ := get_first X (by omega)
  have hbt := bits_top X (by omega)
  have hs := size_mag X
  have hn2 : nd 2 (topByte X) ≤ 8 := nd_le 2 (by omega) _ 8 (by omega)
  obtain ⟨t, ht⟩ : ∃ t, t = topByte X := ⟨_, rfl⟩
  obtain ⟨n, hn⟩ : ∃ n, n = nd 2 X := ⟨_, rfl⟩
  rw [← ht] at hg hlt hbt hn2
  rw [← hn] at hbt
  have hXn : X < 2 ^ n := by rw [hn]; exact lt_pow_nd 2 (by omega) X
  obtain ⟨L, hL⟩ : ∃ L, (mag X).size = L + 1 := ⟨(mag X).size - 1, by omega⟩
  rw [← hs, hL, Nat.add_sub_cancel] at hbt
  have hsz : ((mag X).size : Int) = (L : Int) + 1 := by omega
  have en : 8 * (L : Int) + ((nd 2 t : Nat) : Int) = (n : Int) := by omega
  obtain ⟨m, hm⟩ : ∃ m, m = (n + 1) / 2 := ⟨_, rfl⟩
  obtain ⟨m8, hm8⟩ : ∃ z, z = m % 8 := ⟨_, rfl⟩
  obtain ⟨d8, hd8⟩ : ∃ z, z = m / 8 := ⟨_, rfl⟩
  obtain ⟨b, hb⟩ : ∃ z, z = 2 ^ m8 := ⟨_, rfl⟩
  obtain ⟨x0, hx0⟩ : ∃ z, z = 2 ^ m := ⟨_, rfl⟩
  have hb256 : b < 256 := by rw [hb]; exact Nat.lt_of_lt_of_le (Nat.pow_lt_pow_right (by omega) (show m8 < 8 by omega)) (by decide)
  have hb0 : 0 < b := by rw [hb]; exact Nat.pow_pos (by omega)
  have hxm : mag x0 = ⟨(UInt8.ofNat b :: List.replicate d8 0).toArray⟩ := by
   rw [hx0, two_pow_split m, ← hm8, ← hd8, ← hb]; exact mag_shift b d8 hb0 hb256
  have hx0r : r ≤ x0 := by rw [hx0, hm]; exact Nat.le_of_lt (root_start h1 hXn)
  have hx0p : 0 < x0 := by rw [hx0]; exact Nat.pow_pos (by omega)
  have hx0s : (mag x0).size = d8 + 1 := by
   rw [hxm]
   show (List.toArray _).size = _
   simp
  have hd8b : d8 ≤ 1048576 := by omega
  have hm8i : (m : Int).tmod 8 = (m8 : Int) := by rw [hm8]; exact Int.ofNat_tmod m 8
  have hd8i : (m : Int).tdiv 8 = (d8 : Int) := by rw [hd8]; exact Int.ofNat_tdiv m 8
  have hmi : ((n : Int) + 1).tdiv 2 = (m : Int) := by rw [hm]; exact Int.ofNat_tdiv (n + 1) 2
  have HR : Hid (∀ w, Calls Tryz.prog 175 #[.string ⟨#[0]⟩, .int .i64 (d8 : Int)] w fun e w' => e = .returned (.string ⟨(List.replicate d8 0).toArray⟩) ∧ Below w.heap.size w w') := Lib.hid fun w => by
   have := Tryz.strings_Repeat ⟨#[0]⟩ d8 w (by omega) (by show 1 * d8 ≤ _; omega)
   rw [show (⟨#[0]⟩ : ByteArray).data.toList = [0] from rfl, rep_zero] at this
   exact this
  have HM := Lib.hid hxm
  have hnb : n ≤ 8388616 := by omega
  have hmb : m ≤ 8388616 := by omega
  have hm8b : m8 < 8 := by omega
  have hg2 : (((mag X)[0]'hp).toNat : Int) = (t : Int) := by rw [hg]
  have H1 := Lib.hid h1
  have H2 := Lib.hid h2
  have H0 := Lib.hid h0
  have HXR := Lib.hid hx0r
  have hxe : b * 1 = 1 * b := by omega
  have Hb := Lib.hid hb
  have hsh : (2 : Int) ^ m8 % 256 = (b : Int) := by
   have e : (2 : Int) ^ m8 = (b : Int) := by rw [hb]; simp
   rw [e]; omega
  have hcat : (⟨#[UInt8.ofNat b]⟩ ++ ⟨Array.replicate d8 0⟩ : ByteArray) = mag x0 := by
   rw [hxm, ← cat1 (UInt8.ofNat b) (List.replicate d8 0), List.toArray_replicate]
  clear hbt hs hn ht hL hXn h1 h2 h0 hx0r hxm hb hm hm8 hd8 hx0 hg hxe
  go_enter Tryz.func147, Tryz.ntmps147
  go_wp2_with fail
  (refine (len8 _ _ hlt).mono ?_; rintro e w' ⟨rfl, rfl⟩)
  go_wp2_with fail
  refine wp_region_facts (fun i v w9 => match i with
      | 0 => v = .int .i64 (m : Int)
      | 1 => v = .int .i64 (m8 : Int)
      | 2 => v = .int .u8 (b : Int)
      | 3 => DB w9 v 1 (fun _ => b)
      | 4 => v = .string ⟨#[UInt8.ofNat b]⟩
      | 5 => v = .int .i64 (m : Int)
      | 6 => v = .int .i64 (d8 : Int)
      | 7 => v = .string ⟨(List.replicate d8 0).toArray⟩
      | 8 => v = .string (mag x0)
      | 9 => v = .string (mag x0)
      | _ => True) (by kernel_rfl) (by kernel_rfl) ?_ ?_ ?_
  ·intro i v w1 w2 hb h
   match i, h with
   | 0, h => exact h
   | 1, h => exact h
   | 2, h => exact h
   | 3, h => exact DB.below h hb
   | 4, h => exact h
   | 5, h => exact h
   | 6, h => exact h
   | 7, h => exact h
   | 8, h => exact h
   | 9, h => exact h
   | k + 10, h => exact trivial
  ·
   refine KindSteps.cons ?_ ?_
   ·intro xs w9 hw hd
    (first | (with_reducible have hw2 := World.plus_of_below ((World.below_plus _ _).trans (hw.mono (World.size_plus _ _))); obtain ⟨u, rfl⟩ := hw2) | (obtain ⟨u, rfl⟩ := World.plus_of_below hw))
    simp only [fill, Act.put, List.take_succ_cons, List.take_zero, List.drop_succ_cons, List.drop_zero, Nat.reduceAdd, Nat.zero_add, List.setIfInBounds_toArray, List.set_cons_succ, List.set_cons_zero, if_true, if_false, Nat.reduceEqDiff, reduceIte]
    go_wp2_with fail
    all_goals (first | exact Below.refl _ _ | exact ⟨by (repeat' (first | (with_reducible first | exact Below.refl _ _ | assumption | refine Below.plus0 ?_ _ | refine Below.alloc0 ?_ _ | refine Below.plus ?_ ?_ _ | refine Below.alloc ?_ ?_ _ | refine Below.drew ?_ | refine Below.drewN ?_ _) | (simp [go_sem]; done) | (simp [go_sem]; omega))), _, rfl, rfl⟩ | exact ⟨rfl, by (repeat' (first | (with_reducible first | exact Below.refl _ _ | assumption | refine Below.plus0 ?_ _ | refine Below.alloc0 ?_ _ | refine Below.plus ?_ ?_ _ | refine Below.alloc ?_ ?_ _ | refine Below.drew ?_ | refine Below.drewN ?_ _) | (simp [go_sem]; done) | (simp [go_sem]; omega))), _, rfl, rfl⟩ | exact ⟨by (repeat' (first | (with_reducible first | exact Below.refl _ _ | assumption | refine Below.plus0 ?_ _ | refine Below.alloc0 ?_ _ | refine Below.plus ?_ ?_ _ | refine Below.alloc ?_ ?_ _ | refine Below.drew ?_ | refine Below.drewN ?_ _) | (simp [go_sem]; done) | (simp [go_sem]; omega))), rfl⟩ | (trace_state; fail))
   refine KindSteps.cons ?_ ?_
   ·intro xs w9 hw hd
    (first | (with_reducible have hw2 := World.plus_of_below ((World.below_plus _ _).trans (hw.mono (World.size_plus _ _))); obtain ⟨u, rfl⟩ := hw2) | (obtain ⟨u, rfl⟩ := World.plus_of_below hw))
    simp only [fill, Act.put, List.take_succ_cons, List.take_zero, List.drop_succ_cons, List.drop_zero, Nat.reduceAdd, Nat.zero_add, List.setIfInBounds_toArray, List.set_cons_succ, List.set_cons_zero, if_true, if_false, Nat.reduceEqDiff, reduceIte]
    have f0 : xs 0 = .int .i64 (m : Int) := hd 0 (by kernel_rfl)
    simp only [f0]
    go_wp2_with fail
    all_goals (first | exact Below.refl _ _ | exact ⟨by (repeat' (first | (with_reducible first | exact Below.refl _ _ | assumption | refine Below.plus0 ?_ _ | refine Below.alloc0 ?_ _ | refine Below.plus ?_ ?_ _ | refine Below.alloc ?_ ?_ _ | refine Below.drew ?_ | refine Below.drewN ?_ _) | (simp [go_sem]; done) | (simp [go_sem]; omega))), _, rfl, rfl⟩ | exact ⟨rfl, by (repeat' (first | (with_reducible first | exact Below.refl _ _ | assumption | refine Below.plus0 ?_ _ | refine Below.alloc0 ?_ _ | refine Below.plus ?_ ?_ _ | refine Below.alloc ?_ ?_ _ | refine Below.drew ?_ | refine Below.drewN ?_ _) | (simp [go_sem]; done) | (simp [go_sem]; omega))), _, rfl, rfl⟩ | exact ⟨by (repeat' (first | (with_reducible first | exact Below.refl _ _ | assumption | refine Below.plus0 ?_ _ | refine Below.alloc0 ?_ _ | refine Below.plus ?_ ?_ _ | refine Below.alloc ?_ ?_ _ | refine Below.drew ?_ | refine Below.drewN ?_ _) | (simp [go_sem]; done) | (simp [go_sem]; omega))), rfl⟩ | (trace_state; fail))
   refine KindSteps.cons ?_ ?_
   ·intro xs w9 hw hd
    (first | (with_reducible have hw2 := World.plus_of_below ((World.below_plus _ _).trans (hw.mono (World.size_plus _ _))); obtain ⟨u, rfl⟩ := hw2) | (obtain ⟨u, rfl⟩ := World.plus_of_below hw))
    simp only [fill, Act.put, List.take_succ_cons, List.take_zero, List.drop_succ_cons, List.drop_zero, Nat.reduceAdd, Nat.zero_add, List.setIfInBounds_toArray, List.set_cons_succ, List.set_cons_zero, if_true, if_false, Nat.reduceEqDiff, reduceIte]
    have f1 : xs 1 = .int .i64 (m8 : Int) := hd 1 (by kernel_rfl)
    simp only [f1]
    go_wp2_with fail
    all_goals (first | exact Below.refl _ _ | exact ⟨by (repeat' (first | (with_reducible first | exact Below.refl _ _ | assumption | refine Below.plus0 ?_ _ | refine Below.alloc0 ?_ _ | refine Below.plus ?_ ?_ _ | refine Below.alloc ?_ ?_ _ | refine Below.drew ?_ | refine Below.drewN ?_ _) | (simp [go_sem]; done) | (simp [go_sem]; omega))), _, rfl, rfl⟩ | exact ⟨rfl, by (repeat' (first | (with_reducible first | exact Below.refl _ _ | assumption | refine Below.plus0 ?_ _ | refine Below.alloc0 ?_ _ | refine Below.plus ?_ ?_ _ | refine Below.alloc ?_ ?_ _ | refine Below.drew ?_ | refine Below.drewN ?_ _) | (simp [go_sem]; done) | (simp [go_sem]; omega))), _, rfl, rfl⟩ | exact ⟨by (repeat' (first | (with_reducible first | exact Below.refl _ _ | assumption | refine Below.plus0 ?_ _ | refine Below.alloc0 ?_ _ | refine Below.plus ?_ ?_ _ | refine Below.alloc ?_ ?_ _ | refine Below.drew ?_ | refine Below.drewN ?_ _) | (simp [go_sem]; done) | (simp [go_sem]; omega))), rfl⟩ | (trace_state; fail))
   refine KindSteps.cons ?_ ?_
   ·intro xs w9 hw hd
    (first | (with_reducible have hw2 := World.plus_of_below ((World.below_plus _ _).trans (hw.mono (World.size_plus _ _))); obtain ⟨u, rfl⟩ := hw2) | (obtain ⟨u, rfl⟩ := World.plus_of_below hw))
    simp only [fill, Act.put, List.take_succ_cons, List.take_zero, List.drop_succ_cons, List.drop_zero, Nat.reduceAdd, Nat.zero_add, List.setIfInBounds_toArray, List.set_cons_succ, List.set_cons_zero, if_true, if_false, Nat.reduceEqDiff, reduceIte]
    have f2 : xs 2 = .int .u8 (b : Int) := hd 2 (by kernel_rfl)
    simp only [f2]
    go_wp2_with fail
    all_goals (first | exact Below.refl _ _ | exact ⟨by (repeat' (first | (with_reducible first | exact Below.refl _ _ | assumption | refine Below.plus0 ?_ _ | refine Below.alloc0 ?_ _ | refine Below.plus ?_ ?_ _ | refine Below.alloc ?_ ?_ _ | refine Below.drew ?_ | refine Below.drewN ?_ _) | (simp [go_sem]; done) | (simp [go_sem]; omega))), _, rfl, DB.one _ _ hb256⟩ | exact ⟨rfl, by (repeat' (first | (with_reducible first | exact Below.refl _ _ | assumption | refine Below.plus0 ?_ _ | refine Below.alloc0 ?_ _ | refine Below.plus ?_ ?_ _ | refine Below.alloc ?_ ?_ _ | refine Below.drew ?_ | refine Below.drewN ?_ _) | (simp [go_sem]; done) | (simp [go_sem]; omega))), _, rfl, DB.one _ _ hb256⟩ | exact ⟨by (repeat' (first | (with_reducible first | exact Below.refl _ _ | assumption | refine Below.plus0 ?_ _ | refine Below.alloc0 ?_ _ | refine Below.plus ?_ ?_ _ | refine Below.alloc ?_ ?_ _ | refine Below.drew ?_ | refine Below.drewN ?_ _) | (simp [go_sem]; done) | (simp [go_sem]; omega))), DB.one _ _ hb256⟩ | (trace_state; fail))
   refine KindSteps.cons ?_ ?_
   ·intro xs w9 hw hd
    (first | (with_reducible have hw2 := World.plus_of_below ((World.below_plus _ _).trans (hw.mono (World.size_plus _ _))); obtain ⟨u, rfl⟩ := hw2) | (obtain ⟨u, rfl⟩ := World.plus_of_below hw))
    simp only [fill, Act.put, List.take_succ_cons, List.take_zero, List.drop_succ_cons, List.drop_zero, Nat.reduceAdd, Nat.zero_add, List.setIfInBounds_toArray, List.set_cons_succ, List.set_cons_zero, if_true, if_false, Nat.reduceEqDiff, reduceIte]
    have f3 : DB _ (xs 3) 1 (fun _ => b) := hd 3 (by kernel_rfl)
    obtain ⟨g3, c3, e3⟩ := f3.form
    rw [e3] at f3
    simp only [e3]
    have hcv := f3.conv
    rw [strFn_one] at hcv
    go_wp2_with fail
    all_goals (first | exact Below.refl _ _ | exact ⟨by (repeat' (first | (with_reducible first | exact Below.refl _ _ | assumption | refine Below.plus0 ?_ _ | refine Below.alloc0 ?_ _ | refine Below.plus ?_ ?_ _ | refine Below.alloc ?_ ?_ _ | refine Below.drew ?_ | refine Below.drewN ?_ _) | (simp [go_sem]; done) | (simp [go_sem]; omega))), _, rfl, rfl⟩ | exact ⟨rfl, by (repeat' (first | (with_reducible first | exact Below.refl _ _ | assumption | refine Below.plus0 ?_ _ | refine Below.alloc0 ?_ _ | refine Below.plus ?_ ?_ _ | refine Below.alloc ?_ ?_ _ | refine Below.drew ?_ | refine Below.drewN ?_ _) | (simp [go_sem]; done) | (simp [go_sem]; omega))), _, rfl, rfl⟩ | exact ⟨by (repeat' (first | (with_reducible first | exact Below.refl _ _ | assumption | refine Below.plus0 ?_ _ | refine Below.alloc0 ?_ _ | refine Below.plus ?_ ?_ _ | refine Below.alloc ?_ ?_ _ | refine Below.drew ?_ | refine Below.drewN ?_ _) | (simp [go_sem]; done) | (simp [go_sem]; omega))), rfl⟩ | (trace_state; fail))
   refine KindSteps.cons ?_ ?_
   ·intro xs w9 hw hd
    (first | (with_reducible have hw2 := World.plus_of_below ((World.below_plus _ _).trans (hw.mono (World.size_plus _ _))); obtain ⟨u, rfl⟩ := hw2) | (obtain ⟨u, rfl⟩ := World.plus_of_below hw))
    simp only [fill, Act.put, List.take_succ_cons, List.take_zero, List.drop_succ_cons, List.drop_zero, Nat.reduceAdd, Nat.zero_add, List.setIfInBounds_toArray, List.set_cons_succ, List.set_cons_zero, if_true, if_false, Nat.reduceEqDiff, reduceIte]
    go_wp2_with fail
    all_goals (first | exact Below.refl _ _ | exact ⟨by (repeat' (first | (with_reducible first | exact Below.refl _ _ | assumption | refine Below.plus0 ?_ _ | refine Below.alloc0 ?_ _ | refine Below.plus ?_ ?_ _ | refine Below.alloc ?_ ?_ _ | refine Below.drew ?_ | refine Below.drewN ?_ _) | (simp [go_sem]; done) | (simp [go_sem]; omega))), _, rfl, rfl⟩ | exact ⟨rfl, by (repeat' (first | (with_reducible first | exact Below.refl _ _ | assumption | refine Below.plus0 ?_ _ | refine Below.alloc0 ?_ _ | refine Below.plus ?_ ?_ _ | refine Below.alloc ?_ ?_ _ | refine Below.drew ?_ | refine Below.drewN ?_ _) | (simp [go_sem]; done) | (simp [go_sem]; omega))), _, rfl, rfl⟩ | exact ⟨by (repeat' (first | (with_reducible first | exact Below.refl _ _ | assumption | refine Below.plus0 ?_ _ | refine Below.alloc0 ?_ _ | refine Below.plus ?_ ?_ _ | refine Below.alloc ?_ ?_ _ | refine Below.drew ?_ | refine Below.drewN ?_ _) | (simp [go_sem]; done) | (simp [go_sem]; omega))), rfl⟩ | (trace_state; fail))
   refine KindSteps.cons ?_ ?_
   ·intro xs w9 hw hd
    (first | (with_reducible have hw2 := World.plus_of_below ((World.below_plus _ _).trans (hw.mono (World.size_plus _ _))); obtain ⟨u, rfl⟩ := hw2) | (obtain ⟨u, rfl⟩ := World.plus_of_below hw))
    simp only [fill, Act.put, List.take_succ_cons, List.take_zero, List.drop_succ_cons, List.drop_zero, Nat.reduceAdd, Nat.zero_add, List.setIfInBounds_toArray, List.set_cons_succ, List.set_cons_zero, if_true, if_false, Nat.reduceEqDiff, reduceIte]
    have f5 : xs 5 = .int .i64 (m : Int) := hd 5 (by kernel_rfl)
    simp only [f5]
    go_wp2_with fail
    all_goals (first | exact Below.refl _ _ | exact ⟨by (repeat' (first | (with_reducible first | exact Below.refl _ _ | assumption | refine Below.plus0 ?_ _ | refine Below.alloc0 ?_ _ | refine Below.plus ?_ ?_ _ | refine Below.alloc ?_ ?_ _ | refine Below.drew ?_ | refine Below.drewN ?_ _) | (simp [go_sem]; done) | (simp [go_sem]; omega))), _, rfl, rfl⟩ | exact ⟨rfl, by (repeat' (first | (with_reducible first | exact Below.refl _ _ | assumption | refine Below.plus0 ?_ _ | refine Below.alloc0 ?_ _ | refine Below.plus ?_ ?_ _ | refine Below.alloc ?_ ?_ _ | refine Below.drew ?_ | refine Below.drewN ?_ _) | (simp [go_sem]; done) | (simp [go_sem]; omega))), _, rfl, rfl⟩ | exact ⟨by (repeat' (first | (with_reducible first | exact Below.refl _ _ | assumption | refine Below.plus0 ?_ _ | refine Below.alloc0 ?_ _ | refine Below.plus ?_ ?_ _ | refine Below.alloc ?_ ?_ _ | refine Below.drew ?_ | refine Below.drewN ?_ _) | (simp [go_sem]; done) | (simp [go_sem]; omega))), rfl⟩ | (trace_state; fail))
   refine KindSteps.cons ?_ ?_
   ·intro xs w9 hw hd
    (first | (with_reducible have hw2 := World.plus_of_below ((World.below_plus _ _).trans (hw.mono (World.size_plus _ _))); obtain ⟨u, rfl⟩ := hw2) | (obtain ⟨u, rfl⟩ := World.plus_of_below hw))
    simp only [fill, Act.put, List.take_succ_cons, List.take_zero, List.drop_succ_cons, List.drop_zero, Nat.reduceAdd, Nat.zero_add, List.setIfInBounds_toArray, List.set_cons_succ, List.set_cons_zero, if_true, if_false, Nat.reduceEqDiff, reduceIte]
    have f6 : xs 6 = .int .i64 (d8 : Int) := hd 6 (by kernel_rfl)
    simp only [f6]
    go_wp2_with (go_at_call 175; refine (HR.out _).mono ?_; rintro e w8 ⟨rfl, hb⟩)
    all_goals (first | exact Below.refl _ _ | exact hb | exact ⟨hb, _, rfl, rfl⟩ | exact ⟨rfl, hb, _, rfl, rfl⟩ | (trace_state; fail))
   refine KindSteps.cons ?_ ?_
   ·intro xs w9 hw hd
    (first | (with_reducible have hw2 := World.plus_of_below ((World.below_plus _ _).trans (hw.mono (World.size_plus _ _))); obtain ⟨u, rfl⟩ := hw2) | (obtain ⟨u, rfl⟩ := World.plus_of_below hw))
    simp only [fill, Act.put, List.take_succ_cons, List.take_zero, List.drop_succ_cons, List.drop_zero, Nat.reduceAdd, Nat.zero_add, List.setIfInBounds_toArray, List.set_cons_succ, List.set_cons_zero, if_true, if_false, Nat.reduceEqDiff, reduceIte]
    have f4 : xs 4 = .string ⟨#[UInt8.ofNat b]⟩ := hd 4 (by kernel_rfl)
    simp only [f4]
    have f7 : xs 7 = .string ⟨(List.replicate d8 0).toArray⟩ := hd 7 (by kernel_rfl)
    simp only [f7]
    go_wp2_with fail
    all_goals (first | exact Below.refl _ _ | exact ⟨by (repeat' (first | (with_reducible first | exact Below.refl _ _ | assumption | refine Below.plus0 ?_ _ | refine Below.alloc0 ?_ _ | refine Below.plus ?_ ?_ _ | refine Below.alloc ?_ ?_ _ | refine Below.drew ?_ | refine Below.drewN ?_ _) | (simp [go_sem]; done) | (simp [go_sem]; omega))), _, rfl, rfl⟩ | exact ⟨rfl, by (repeat' (first | (with_reducible first | exact Below.refl _ _ | assumption | refine Below.plus0 ?_ _ | refine Below.alloc0 ?_ _ | refine Below.plus ?_ ?_ _ | refine Below.alloc ?_ ?_ _ | refine Below.drew ?_ | refine Below.drewN ?_ _) | (simp [go_sem]; done) | (simp [go_sem]; omega))), _, rfl, rfl⟩ | exact ⟨by (repeat' (first | (with_reducible first | exact Below.refl _ _ | assumption | refine Below.plus0 ?_ _ | refine Below.alloc0 ?_ _ | refine Below.plus ?_ ?_ _ | refine Below.alloc ?_ ?_ _ | refine Below.drew ?_ | refine Below.drewN ?_ _) | (simp [go_sem]; done) | (simp [go_sem]; omega))), rfl⟩ | (trace_state; fail))
   refine KindSteps.cons ?_ ?_
   ·intro xs w9 hw hd
    (first | (with_reducible have hw2 := World.plus_of_below ((World.below_plus _ _).trans (hw.mono (World.size_plus _ _))); obtain ⟨u, rfl⟩ := hw2) | (obtain ⟨u, rfl⟩ := World.plus_of_below hw))
    simp only [fill, Act.put, List.take_succ_cons, List.take_zero, List.drop_succ_cons, List.drop_zero, Nat.reduceAdd, Nat.zero_add, List.setIfInBounds_toArray, List.set_cons_succ, List.set_cons_zero, if_true, if_false, Nat.reduceEqDiff, reduceIte]
    have f8 : xs 8 = .string (mag x0) := hd 8 (by kernel_rfl)
    simp only [f8]
    go_wp2_with fail
    all_goals (first | exact Below.refl _ _ | exact ⟨by (repeat' (first | (with_reducible first | exact Below.refl _ _ | assumption | refine Below.plus0 ?_ _ | refine Below.alloc0 ?_ _ | refine Below.plus ?_ ?_ _ | refine Below.alloc ?_ ?_ _ | refine Below.drew ?_ | refine Below.drewN ?_ _) | (simp [go_sem]; done) | (simp [go_sem]; omega))), _, rfl, rfl⟩ | exact ⟨rfl, by (repeat' (first | (with_reducible first | exact Below.refl _ _ | assumption | refine Below.plus0 ?_ _ | refine Below.alloc0 ?_ _ | refine Below.plus ?_ ?_ _ | refine Below.alloc ?_ ?_ _ | refine Below.drew ?_ | refine Below.drewN ?_ _) | (simp [go_sem]; done) | (simp [go_sem]; omega))), _, rfl, rfl⟩ | exact ⟨by (repeat' (first | (with_reducible first | exact Below.refl _ _ | assumption | refine Below.plus0 ?_ _ | refine Below.alloc0 ?_ _ | refine Below.plus ?_ ?_ _ | refine Below.alloc ?_ ?_ _ | refine Below.drew ?_ | refine Below.drewN ?_ _) | (simp [go_sem]; done) | (simp [go_sem]; omega))), rfl⟩ | (trace_state; fail))
   exact KindSteps.nil
  intro xs w9 hw hd
  (first | (with_reducible have hw2 := World.plus_of_below ((World.below_plus _ _).trans (hw.mono (World.size_plus _ _))); obtain ⟨u, rfl⟩ := hw2) | (obtain ⟨u, rfl⟩ := World.plus_of_below hw))
  simp only [fill, Act.put, List.take_succ_cons, List.take_zero, List.drop_succ_cons, List.drop_zero, Nat.reduceAdd, Nat.zero_add, List.setIfInBounds_toArray, List.set_cons_succ, List.set_cons_zero, if_true, if_false, Nat.reduceEqDiff, reduceIte]
  have f9 : xs 9 = .string (mag x0) := hd 9 (by decide)
  simp only [f9]
  clear hd
  go_wp2_with fail
  go_loopw [4] (fun xv wr => ∃ (x : Nat) (u : World), xv = .string (mag x) ∧ Hid (r ≤ x) ∧ Hid (0 < x) ∧ (mag x).size ≤ 1048577 ∧ wr = w.plus u) (fun xv _ => num (strOf xv))
  case atStart => exact ⟨x0, u, rfl, HXR, Lib.hid hx0p, by omega, rfl⟩
  case round =>
   obtain ⟨x, u, rfl, HRX, HXP, hxs, rfl⟩ := hrel
   obtain ⟨q, hq⟩ : ∃ z, z = X / x := ⟨_, rfl⟩
   obtain ⟨s, hs⟩ : ∃ z, z = x + q := ⟨_, rfl⟩
   obtain ⟨nx, hnx⟩ : ∃ z, z = s / 2 := ⟨_, rfl⟩
   have hqs : (mag q).size ≤ 1048577 := Nat.le_trans (size_mag_mono q X (by rw [hq]; exact Nat.div_le_self _ _)) (by omega)
   have hss : (mag s).size ≤ 1048578 := by rw [hs]; exact sz_add x q 1048577 hxs hqs
   have hns : (mag nx).size ≤ 1048578 := Nat.le_trans (size_mag_mono nx s (by rw [hnx]; exact Nat.div_le_self _ _)) (by omega)
   have HD : Hid (∀ w, Calls Tryz.prog 153 #[.string (mag X), .string (mag x)] w fun e w' => e = .returned (.tuple #[.string (mag q), .string (mag (X % x))]) ∧ Below w.heap.size w w') := Lib.hid fun w => by rw [hq]; exact div_ok X x (by omega) (by omega) HXP.out w
   have HA : Hid (∀ w, Calls Tryz.prog 149 #[.string (mag x), .string (mag q)] w fun e w' => e = .returned (.string (mag s)) ∧ Below w.heap.size w w') := Lib.hid fun w => by rw [hs]; exact add_c x q w (by omega) (by omega)
   have HD2 : Hid (∀ w, Calls Tryz.prog 153 #[.string (mag s), .string ⟨#[2]⟩] w fun e w' => e = .returned (.tuple #[.string (mag nx), .string (mag (s % 2))]) ∧ Below w.heap.size w w') := Lib.hid fun w => by
    have := div_ok s 2 (by omega) (by rw [show mag 2 = ⟨#[2]⟩ by decide]; decide) (by omega) w
    rw [show mag 2 = ⟨#[2]⟩ by decide, ← hnx] at this
    exact this
   have HC : Hid (∀ w, Calls Tryz.prog 150 #[.string (mag nx), .string (mag x)] w fun e w' => e = .returned (.int .i64 (cmpN nx x)) ∧ Below w.heap.size w w') := Lib.hid fun w => compare_c nx x w (by omega) (by omega)
   have hge : r ≤ nx := by rw [hnx, hs, hq]; exact newton_ge H1.out HXP.out
   have HGE := Lib.hid hge
   have hle : x ≤ nx → x = r := fun h => by
    rw [hnx, hs, hq] at h
    exact Nat.le_antisymm (sqrt_mono (newton_le HXP.out h) H2.out) HRX.out
   have hr0 : 0 < r := by
    apply Nat.pos_of_ne_zero
    intro h
    have := H2.out
    rw [h] at this
    exact H0.out (by omega)
   have HR0 := Lib.hid hr0
   by_cases hc : x ≤ nx
   ·have hxr := hle hc
    obtain ⟨c, hcc⟩ : ∃ c, c = cmpN nx x := ⟨_, rfl⟩
    have hc0 : (0 : Int) ≤ c := by rw [hcc]; unfold cmpN; repeat' split
                                   all_goals omega
    rw [← hcc] at HC
    have HXR2 := Lib.hid hxr
    clear hq hs hnx hge hle hr0 hc hcc hxr
    go_wp2_with fail
    (go_wp2_with fail; refine (HD.out _).mono ?_; rintro e w' ⟨rfl, hb⟩; (first | (with_reducible (have hb2 := World.plus_of_below ((World.below_plus _ _).trans (hb.mono (World.size_plus _ _)))); obtain ⟨u, rfl⟩ := hb2) | (obtain ⟨u, rfl⟩ := World.plus_of_below hb)); clear hb)
    go_wp2_with fail
    (go_wp2_with fail; refine (HA.out _).mono ?_; rintro e w' ⟨rfl, hb⟩; (first | (with_reducible (have hb2 := World.plus_of_below ((World.below_plus _ _).trans (hb.mono (World.size_plus _ _)))); obtain ⟨u, rfl⟩ := hb2) | (obtain ⟨u, rfl⟩ := World.plus_of_below hb)); clear hb)
    go_wp2_with fail
    (go_wp2_with fail; refine (HD2.out _).mono ?_; rintro e w' ⟨rfl, hb⟩; (first | (with_reducible (have hb2 := World.plus_of_below ((World.below_plus _ _).trans (hb.mono (World.size_plus _ _)))); obtain ⟨u, rfl⟩ := hb2) | (obtain ⟨u, rfl⟩ := World.plus_of_below hb)); clear hb)
    go_wp2_with fail
    (go_wp2_with fail; refine (HC.out _).mono ?_; rintro e w' ⟨rfl, hb⟩; (first | (with_reducible (have hb2 := World.plus_of_below ((World.below_plus _ _).trans (hb.mono (World.size_plus _ _)))); obtain ⟨u, rfl⟩ := hb2) | (obtain ⟨u, rfl⟩ := World.plus_of_below hb)); clear hb)
    go_wp2_with fail
    go_ret
    exact ⟨by rw [HXR2.out]; rfl, by (repeat' (first | (with_reducible first | exact Below.refl _ _ | assumption | refine Below.plus0 ?_ _ | refine Below.alloc0 ?_ _ | refine Below.plus ?_ ?_ _ | refine Below.alloc ?_ ?_ _ | refine Below.drew ?_ | refine Below.drewN ?_ _) | (simp [go_sem]; done) | (simp [go_sem]; omega)))⟩
   ·obtain ⟨c, hcc⟩ : ∃ c, c = cmpN nx x := ⟨_, rfl⟩
    have hc0 : ¬ (0 : Int) ≤ c := by rw [hcc]; unfold cmpN; rw [if_pos (by omega)]; omega
    rw [← hcc] at HC
    have HLT : Hid (nx < x) := Lib.hid (by omega)
    clear hq hs hnx hge hle hr0 hc hcc
    go_wp2_with fail
    (go_wp2_with fail; refine (HD.out _).mono ?_; rintro e w' ⟨rfl, hb⟩; (first | (with_reducible (have hb2 := World.plus_of_below ((World.below_plus _ _).trans (hb.mono (World.size_plus _ _)))); obtain ⟨u, rfl⟩ := hb2) | (obtain ⟨u, rfl⟩ := World.plus_of_below hb)); clear hb)
    go_wp2_with fail
    (go_wp2_with fail; refine (HA.out _).mono ?_; rintro e w' ⟨rfl, hb⟩; (first | (with_reducible (have hb2 := World.plus_of_below ((World.below_plus _ _).trans (hb.mono (World.size_plus _ _)))); obtain ⟨u, rfl⟩ := hb2) | (obtain ⟨u, rfl⟩ := World.plus_of_below hb)); clear hb)
    go_wp2_with fail
    (go_wp2_with fail; refine (HD2.out _).mono ?_; rintro e w' ⟨rfl, hb⟩; (first | (with_reducible (have hb2 := World.plus_of_below ((World.below_plus _ _).trans (hb.mono (World.size_plus _ _)))); obtain ⟨u, rfl⟩ := hb2) | (obtain ⟨u, rfl⟩ := World.plus_of_below hb)); clear hb)
    go_wp2_with fail
    (go_wp2_with fail; refine (HC.out _).mono ?_; rintro e w' ⟨rfl, hb⟩; (first | (with_reducible (have hb2 := World.plus_of_below ((World.below_plus _ _).trans (hb.mono (World.size_plus _ _)))); obtain ⟨u, rfl⟩ := hb2) | (obtain ⟨u, rfl⟩ := World.plus_of_below hb)); clear hb)
    go_wp2_with fail
    refine ⟨⟨nx, _, rfl, HGE, Lib.hid (Nat.lt_of_lt_of_le HR0.out HGE.out), Nat.le_trans (size_mag_mono nx x (Nat.le_of_lt HLT.out)) hxs, rfl⟩, ?_⟩
    show num (mag nx) < num (mag x)
    rw [num_mag, num_mag]
    exact HLT.out
set_option maxHeartbeats 400000 in
theorem Sqrt_c (x : Int) (r : Nat) (h0 : 0 ≤ x) (h1 : r * r ≤ x.natAbs) (h2 : x.natAbs < (r + 1) * (r + 1)) (w : World) (hx : (mg x).size ≤ 1048576) : Calls Tryz.prog 106 #[.agg #[.bool (sg x), .string (mg x)]] w fun e w' => e = .returned (.tuple #[.agg #[.bool (sg (r : Int)), .string (mg (r : Int))], .int .i64 0]) ∧ Below w.heap.size w w' := by
 have hs := sg_false x h0
 have HM : Hid (∀ w, Calls Tryz.prog 146 #[.bool false, .string (mag r)] w fun e w' => e = .returned (.agg #[.bool (sg (r : Int)), .string (mg (r : Int))]) ∧ Below w.heap.size w w') := Lib.hid fun w => made_c false r r rfl w
 have HR : Hid (∀ w, Calls Tryz.prog 147 #[.string (mg x)] w fun e w' => e = .returned (.string (mag r)) ∧ Below w.heap.size w w') := Lib.hid fun w => root_c x.natAbs r h1 h2 w hx
 rw [hs]
 clear h1 h2 h0 hs
 go_enter Tryz.func106, Tryz.ntmps106
 go_wp2_with fail
 (go_wp2_with fail; refine (HR.out _).mono ?_; rintro e w' ⟨rfl, hb⟩; (first | (with_reducible (have hb2 := World.plus_of_below ((World.below_plus _ _).trans (hb.mono (World.size_plus _ _)))); obtain ⟨u, rfl⟩ := hb2) | (obtain ⟨u, rfl⟩ := World.plus_of_below hb)); clear hb)
 go_wp2_with fail
 (go_wp2_with fail; refine (HM.out _).mono ?_; rintro e w' ⟨rfl, hb⟩; (first | (with_reducible (have hb2 := World.plus_of_below ((World.below_plus _ _).trans (hb.mono (World.size_plus _ _)))); obtain ⟨u, rfl⟩ := hb2) | (obtain ⟨u, rfl⟩ := World.plus_of_below hb)); clear hb)
 go_wp2_with fail
 refine bodyPost_ret (by simp [results, Tryz.results106, go_sem]; rfl) rfl ?_
 exact ⟨rfl, by (repeat' (first | (with_reducible first | exact Below.refl _ _ | assumption | refine Below.plus0 ?_ _ | refine Below.alloc0 ?_ _ | refine Below.plus ?_ ?_ _ | refine Below.alloc ?_ ?_ _ | refine Below.drew ?_ | refine Below.drewN ?_ _) | (simp [go_sem]; done) | (simp [go_sem]; omega)))⟩
set_option maxHeartbeats 400000 in
theorem Sqrt_neg (x : Int) (h0 : x < 0) (w : World) : Calls Tryz.prog 106 #[.agg #[.bool (sg x), .string (mg x)]] w fun e w' => e = .returned (.tuple #[.agg #[.bool false, .string ⟨#[]⟩], .int .i64 2]) ∧ Below w.heap.size w w' := by
 rw [sg_true x h0]
 go_enter Tryz.func106, Tryz.ntmps106
 go_wp2_with fail
 refine bodyPost_ret (by simp [results, Tryz.results106, go_sem]; rfl) rfl ?_
 exact ⟨rfl, by (repeat' (first | (with_reducible first | exact Below.refl _ _ | assumption | refine Below.plus0 ?_ _ | refine Below.alloc0 ?_ _ | refine Below.plus ?_ ?_ _ | refine Below.alloc ?_ ?_ _ | refine Below.drew ?_ | refine Below.drewN ?_ _) | (simp [go_sem]; done) | (simp [go_sem]; omega)))⟩
set_option maxHeartbeats 400000 in
theorem IsSquare_neg (x : Int) (h0 : x < 0) (w : World) : Calls Tryz.prog 158 #[.agg #[.bool (sg x), .string (mg x)]] w fun e w' => e = .returned (.tuple #[.agg #[.bool false, .string ⟨#[]⟩], .bool false]) ∧ Below w.heap.size w w' := by
 rw [sg_true x h0]
 go_enter Tryz.func158, Tryz.ntmps158
 go_wp2_with fail
 refine bodyPost_ret (by simp [results, Tryz.results158, go_sem]; rfl) rfl ?_
 exact ⟨rfl, by (repeat' (first | (with_reducible first | exact Below.refl _ _ | assumption | refine Below.plus0 ?_ _ | refine Below.alloc0 ?_ _ | refine Below.plus ?_ ?_ _ | refine Below.alloc ?_ ?_ _ | refine Below.drew ?_ | refine Below.drewN ?_ _) | (simp [go_sem]; done) | (simp [go_sem]; omega)))⟩
set_option maxHeartbeats 800000 in
theorem IsSquare_yes (x : Int) (r : Nat) (h0 : 0 ≤ x) (h1 : r * r = x.natAbs) (w : World) (hx : (mg x).size ≤ 1048576) : Calls Tryz.prog 158 #[.agg #[.bool (sg x), .string (mg x)]] w fun e w' => e = .returned (.tuple #[.agg #[.bool (sg (r : Int)), .string (mg (r : Int))], .bool true]) ∧ Below w.heap.size w w' := by
 have hs := sg_false x h0
 have HM : Hid (∀ w, Calls Tryz.prog 146 #[.bool false, .string (mag r)] w fun e w' => e = .returned (.agg #[.bool (sg (r : Int)), .string (mg (r : Int))]) ∧ Below w.heap.size w w') := Lib.hid fun w => made_c false r r rfl w
 have HR : Hid (∀ w, Calls Tryz.prog 147 #[.string (mg x)] w fun e w' => e = .returned (.string (mag r)) ∧ Below w.heap.size w w') := Lib.hid fun w => root_c x.natAbs r (Nat.le_of_eq h1) (by rw [← h1]; exact Nat.mul_lt_mul_of_lt_of_lt (by omega) (by omega)) w hx
 have hrs : (mag r).size ≤ 1048576 := Nat.le_trans (size_mag_mono r x.natAbs (by rw [← h1]; exact Nat.le_mul_self r)) hx
 have HU : Hid (∀ w, Calls Tryz.prog 148 #[.string (mag r), .string (mag r)] w fun e w' => e = .returned (.string (mg x)) ∧ Below w.heap.size w w') := Lib.hid fun w => by
  have := mul_c r r w (by omega) (by omega)
  rw [h1] at this
  exact this
 rw [hs]
 clear h1 h0 hs
 go_enter Tryz.func158, Tryz.ntmps158
 go_wp2_with fail
 (go_wp2_with fail; refine (HR.out _).mono ?_; rintro e w' ⟨rfl, hb⟩; (first | (with_reducible (have hb2 := World.plus_of_below ((World.below_plus _ _).trans (hb.mono (World.size_plus _ _)))); obtain ⟨u, rfl⟩ := hb2) | (obtain ⟨u, rfl⟩ := World.plus_of_below hb)); clear hb)
 go_wp2_with fail
 ((first | (with_reducible refine wp_region_steady_plus (by kernel_rfl) (by kernel_rfl) ?_) | refine wp_region_steady (by kernel_rfl) (by kernel_rfl) ?_); repeat go_big_quiet_step (first | (go_at_call 148; refine Calls.steady (HU.out _)))); (refine wpQuiet_nil ?_; rintro _ ⟨u, rfl⟩)
 go_wp2_with fail
 (go_wp2_with fail; refine (HM.out _).mono ?_; rintro e w' ⟨rfl, hb⟩; (first | (with_reducible (have hb2 := World.plus_of_below ((World.below_plus _ _).trans (hb.mono (World.size_plus _ _)))); obtain ⟨u, rfl⟩ := hb2) | (obtain ⟨u, rfl⟩ := World.plus_of_below hb)); clear hb)
 go_wp2_with fail
 refine bodyPost_ret (by simp [results, Tryz.results158, go_sem]; rfl) rfl ?_
 exact ⟨rfl, by (repeat' (first | (with_reducible first | exact Below.refl _ _ | assumption | refine Below.plus0 ?_ _ | refine Below.alloc0 ?_ _ | refine Below.plus ?_ ?_ _ | refine Below.alloc ?_ ?_ _ | refine Below.drew ?_ | refine Below.drewN ?_ _) | (simp [go_sem]; done) | (simp [go_sem]; omega)))⟩
set_option maxHeartbeats 800000 in
theorem IsSquare_no (x : Int) (r : Nat) (h0 : 0 ≤ x) (h1 : r * r ≤ x.natAbs) (h2 : x.natAbs < (r + 1) * (r + 1)) (hne : r * r ≠ x.natAbs) (w : World) (hx : (mg x).size ≤ 1048576) : Calls Tryz.prog 158 #[.agg #[.bool (sg x), .string (mg x)]] w fun e w' => e = .returned (.tuple #[.agg #[.bool false, .string ⟨#[]⟩], .bool false]) ∧ Below w.heap.size w w' := by
 have hs := sg_false x h0
 have HR : Hid (∀ w, Calls Tryz.prog 147 #[.string (mg x)] w fun e w' => e = .returned (.string (mag r)) ∧ Below w.heap.size w w') := Lib.hid fun w => root_c x.natAbs r h1 h2 w hx
 have hrs : (mag r).size ≤ 1048576 := Nat.le_trans (size_mag_mono r x.natAbs (Nat.le_trans (Nat.le_mul_self r) h1)) hx
 obtain ⟨p, hp⟩ : ∃ p, p = r * r := ⟨_, rfl⟩
 have HU : Hid (∀ w, Calls Tryz.prog 148 #[.string (mag r), .string (mag r)] w fun e w' => e = .returned (.string (mag p)) ∧ Below w.heap.size w w') := Lib.hid fun w => by
  rw [hp]; exact mul_c r r w (by omega) (by omega)
 have hb : ((mag p).toList == (mg x).toList) = false := by
  rw [show mg x = mag x.natAbs from rfl, mag_beq, beq_eq_false_iff_ne, hp]; exact hne
 have hb2 : (mag p).toList ≠ (mg x).toList := by simpa using hb
 rw [hs]
 clear h1 h0 hs hne hp h2
 go_enter Tryz.func158, Tryz.ntmps158
 go_wp2_with fail
 (go_wp2_with fail; refine (HR.out _).mono ?_; rintro e w' ⟨rfl, hb⟩; (first | (with_reducible (have hb2 := World.plus_of_below ((World.below_plus _ _).trans (hb.mono (World.size_plus _ _)))); obtain ⟨u, rfl⟩ := hb2) | (obtain ⟨u, rfl⟩ := World.plus_of_below hb)); clear hb)
 go_wp2_with fail
 ((first | (with_reducible refine wp_region_steady_plus (by kernel_rfl) (by kernel_rfl) ?_) | refine wp_region_steady (by kernel_rfl) (by kernel_rfl) ?_); repeat go_big_quiet_step (first | (go_at_call 148; refine Calls.steady (HU.out _)))); (refine wpQuiet_nil ?_; rintro _ ⟨u, rfl⟩)
 go_wp2_with fail
 refine bodyPost_ret (by simp [results, Tryz.results158, go_sem]; rfl) rfl ?_
 exact ⟨rfl, by (repeat' (first | (with_reducible first | exact Below.refl _ _ | assumption | refine Below.plus0 ?_ _ | refine Below.alloc0 ?_ _ | refine Below.plus ?_ ?_ _ | refine Below.alloc ?_ ?_ _ | refine Below.drew ?_ | refine Below.drewN ?_ _) | (simp [go_sem]; done) | (simp [go_sem]; omega)))⟩
end Go.Proofs.YthdaimoankaciaaGreatDoor
