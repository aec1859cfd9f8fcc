import Derived.Test.YtkoodpbcfdblbaaDoorRefH
set_option linter.unusedSimpArgs false
set_option linter.unusedVariables false
namespace Go.Proofs.YtkoodpbcfdblbaaDoor
open Go Go.RowKit
open Vi
set_option maxRecDepth 100000 in
set_option maxHeartbeats 1600000 in
theorem rGcd_c (a b g : Int) (hg : g = (Nat.gcd a.natAbs b.natAbs : Nat)) (w : World) (ha : (mg a).size ≤ 1048576) (hb : (mg b).size ≤ 1048576) : Calls Tryd.prog 38 #[.agg #[.bool (sg a), .string (mg a)], .agg #[.bool (sg b), .string (mg b)]] w fun e w' => e = .returned (.agg #[.bool (sg g), .string (mg g)]) ∧ Below w.heap.size w w' := by
  obtain ⟨G, hG⟩ : ∃ G, G = Nat.gcd a.natAbs b.natAbs := ⟨_, rfl⟩
  rw [← hG] at hg
  obtain ⟨X0, hX0⟩ : ∃ X, X = a.natAbs := ⟨_, rfl⟩
  obtain ⟨Y0, hY0⟩ : ∃ X, X = b.natAbs := ⟨_, rfl⟩
  have hA := Lib.hid (fun w => rAbs_c a (X0 : Int) (by rw [hX0]) w)
  have hB := Lib.hid (fun w => rAbs_c b (Y0 : Int) (by rw [hY0]) w)
  have hx0 : (mag X0).size ≤ 1048576 := by rw [hX0]; exact ha
  have hy0 : (mag Y0).size ≤ 1048576 := by rw [hY0]; exact hb
  rw [← hX0, ← hY0] at hG
  have HG := Lib.hid hG
  have Hg := Lib.hid hg
  clear hX0 hY0 hG hg ha hb
  have Hcell : Hid (∀ (A B : Int) (u : World), ((((w.alloc (.cells #[.bool (sg A), .string (mg A)] 23)).alloc (.cells #[.bool (sg B), .string (mg B)] 23)).alloc (.cells #[.bool false, .string ⟨#[]⟩] 23)).plus u).cell? ⟨w.heap.size + 1, 1, none⟩ = some (.string (mg B))) := Lib.hid fun A B u => by simp [go_sem]
  go_enter Tryd.func38, Tryd.ntmps38
  go_wp2_with fail
  ((first | (with_reducible refine wp_region_steady_plus_t 4 (by kernel_rfl) (by kernel_rfl) ?_) | refine wp_region_steady_t 4 (by kernel_rfl) (by kernel_rfl) ?_); simp only [List.take_succ_cons, List.take_zero, List.drop_succ_cons, List.drop_zero]; repeat go_big_quiet_step (first | (go_at_call 24; first | (with_reducible refine Calls.steady (hA.out _)) | (with_reducible refine Calls.steady (hB.out _))))); (refine wpQuiet_nil ?_; rintro _ ⟨u, rfl⟩)
  go_wp2_with fail
  go_loopw [] (fun wr => ∃ (X Y : Nat) (u' : World), Hid (Nat.gcd X Y = G) ∧ (mag X).size ≤ 1048576 ∧ (mag Y).size ≤ 1048576 ∧ wr = (((w.alloc (.cells #[.bool (sg (X : Int)), .string (mg (X : Int))] 23)).alloc (.cells #[.bool (sg (Y : Int)), .string (mg (Y : Int))] 23)).alloc (.cells #[.bool false, .string ⟨#[]⟩] 23)).plus u') (fun wr => num (strOf ((wr.cell? ⟨w.heap.size + 1, 1, none⟩).getD undef)))
  case atStart => exact ⟨X0, Y0, u, Lib.hid HG.out.symm, hx0, hy0, rfl⟩
  case round =>
    obtain ⟨X, Y, u', HX, hx, hy, rfl⟩ := hrel
    by_cases h0 : Y = 0
    · have e : X = G := by rw [← HX.out, h0, Nat.gcd_zero_right]
      have hz : ((mg (Y : Int)).size : Int) = 0 := by rw [h0]; rfl
      have hz2 : (mg (Y : Int)).size = 0 := by omega
      rw [e]
      clear h0 e HX
      go_wp2_with fail
      refine bodyPost_ret (by simp [results, Tryd.results38, go_sem]; rfl) rfl ?_
      exact ⟨by rw [Hg.out], by (repeat' (first | (with_reducible exact Below.refl _ _) | (with_reducible assumption) | (with_reducible refine Below.plus0 ?_ _) | (with_reducible refine Below.alloc0 ?_ _) | (with_reducible refine Below.plus ?_ ?_ _) | (with_reducible refine Below.alloc ?_ ?_ _) | (with_reducible refine Below.drew ?_) | (with_reducible refine Below.drewN ?_ _) | (simp [go_sem]; done) | (simp [go_sem]; omega)))⟩
    · have hp : 0 < (mg (Y : Int)).size := by rw [mg_nat, size_mag]; exact nd_pos 256 (by omega) Y (by omega)
      have hp2 : (0 : Int) < ((mg (Y : Int)).size : Int) := by omega
      obtain ⟨q, hq⟩ : ∃ z : Int, z = (X : Int) / (Y : Int) := ⟨_, rfl⟩
      obtain ⟨r, hr⟩ : ∃ z : Nat, z = X % Y := ⟨_, rfl⟩
      have hr2 : (r : Int) = (X : Int) % (Y : Int) := by rw [hr]; rfl
      have HD := Lib.hid (fun w => rDivMod_c (X : Int) (Y : Int) q (r : Int) hq hr2 w (by omega) (by rw [mg_nat]; exact hx) (by rw [mg_nat]; exact hy))
      have HN : Hid (Nat.gcd Y r = G) := Lib.hid (by rw [hr, ← HX.out, Nat.gcd_comm X Y, Nat.gcd_rec Y X, Nat.gcd_comm])
      have hrl : r < Y := by rw [hr]; exact Nat.mod_lt _ (by omega)
      have hrs : (mag r).size ≤ 1048576 := Nat.le_trans (size_mag_mono r Y (by omega)) hy
      have HRL := Lib.hid hrl
      clear hq hr hr2 hrl h0
      go_wp2_with fail
      (go_wp2_with fail; refine (HD.out _).mono ?_; rintro e w' ⟨rfl, hb⟩; (first | (with_reducible (have hb2 := World.plus_of_below ((World.below_plus _ _).trans (hb.mono (World.size_plus _ _)))); obtain ⟨u, rfl⟩ := hb2) | (obtain ⟨u, rfl⟩ := World.plus_of_below hb)); clear hb)
      go_wp2_with fail
      obtain ⟨W1, hW1⟩ : ∃ z, z = (((((w.alloc (.cells #[.bool (sg (X : Int)), .string (mg (X : Int))] 23)).alloc (.cells #[.bool (sg (Y : Int)), .string (mg (Y : Int))] 23)).alloc (.cells #[.bool false, .string ⟨#[]⟩] 23)).plus u).alloc (.cells #[.bool (sg q), .string (mg q)] 23)).alloc (.cells #[.bool (sg (r : Int)), .string (mg (r : Int))] 23) := ⟨_, rfl⟩
      rw [← hW1]
      have hWb : Below (((w.alloc (.cells #[.bool (sg (X : Int)), .string (mg (X : Int))] 23)).alloc (.cells #[.bool (sg (Y : Int)), .string (mg (Y : Int))] 23)).alloc (.cells #[.bool false, .string ⟨#[]⟩] 23)).heap.size (((w.alloc (.cells #[.bool (sg (X : Int)), .string (mg (X : Int))] 23)).alloc (.cells #[.bool (sg (Y : Int)), .string (mg (Y : Int))] 23)).alloc (.cells #[.bool false, .string ⟨#[]⟩] 23)) W1 := by rw [hW1]; (repeat' (first | (with_reducible exact Below.refl _ _) | (with_reducible assumption) | (with_reducible refine Below.plus0 ?_ _) | (with_reducible refine Below.alloc0 ?_ _) | (with_reducible refine Below.plus ?_ ?_ _) | (with_reducible refine Below.alloc ?_ ?_ _) | (with_reducible refine Below.drew ?_) | (with_reducible refine Below.drewN ?_ _) | (simp [go_sem]; done) | (simp [go_sem]; omega)))
      obtain ⟨b6, hb6⟩ : ∃ b, b = ((((w.alloc (.cells #[.bool (sg (X : Int)), .string (mg (X : Int))] 23)).alloc (.cells #[.bool (sg (Y : Int)), .string (mg (Y : Int))] 23)).alloc (.cells #[.bool false, .string ⟨#[]⟩] 23)).plus u).heap.size + 1 := ⟨_, rfl⟩
      have hb6s : w.heap.size + 3 < b6 + 1 := by have := World.size_plus (((w.alloc (.cells #[.bool (sg (X : Int)), .string (mg (X : Int))] 23)).alloc (.cells #[.bool (sg (Y : Int)), .string (mg (Y : Int))] 23)).alloc (.cells #[.bool false, .string ⟨#[]⟩] 23)) u; simp at this; omega
      have c60 : W1.cell? ⟨b6, 0, none⟩ = some (.bool (sg (r : Int))) := by rw [hW1, hb6]; simp [go_sem]
      have c61 : W1.cell? ⟨b6, 1, none⟩ = some (.string (mg (r : Int))) := by rw [hW1, hb6]; simp [go_sem]
      have f60 : W1.frozen? ⟨b6, 0, none⟩ = false := by rw [hW1, hb6]; simp [go_sem]
      rw [← hb6]
      have q2 : W1.heap[w.heap.size]? = some (.cells #[.bool (sg (X : Int)), .string (mg (X : Int))] 23 (0, 0)) := by
        rw [hWb.block _ (by simp only [World.size_alloc]; omega), heap_alloc_old _ _ (show w.heap.size < _ by simp only [World.size_alloc]; omega), heap_alloc_old _ _ (show w.heap.size < _ by simp only [World.size_alloc]; omega)]; exact heap_at _ _ _ rfl
      have q3 : W1.heap[w.heap.size + 1]? = some (.cells #[.bool (sg (Y : Int)), .string (mg (Y : Int))] 23 (0, 0)) := by
        rw [hWb.block _ (by simp only [World.size_alloc]; omega), heap_alloc_old _ _ (show w.heap.size + 1 < _ by simp only [World.size_alloc]; omega)]; exact heap_at _ _ _ (by simp)
      have e2 := World.row_self W1 _ _ _ q2
      have e3 := World.row_self W1 _ _ _ q3
      have z2 := (Array.getElem?_eq_some_iff.1 q2).1
      have z3 := (Array.getElem?_eq_some_iff.1 q3).1
      have eW : (W1.row w.heap.size 23 #[.bool (sg (X : Int)), .string (mg (X : Int))]).row (w.heap.size + 1) 23 #[.bool (sg (Y : Int)), .string (mg (Y : Int))] = W1 := by rw [e2, e3]
      have hend : ∃ u4, ((W1.row w.heap.size 23 #[.bool (sg (Y : Int)), .string (mg (Y : Int))]).row (w.heap.size + 1) 23 #[.bool (sg (r : Int)), .string (mg (r : Int))]).drew = (((w.alloc (.cells #[.bool (sg (Y : Int)), .string (mg (Y : Int))] 23)).alloc (.cells #[.bool (sg (r : Int)), .string (mg (r : Int))] 23)).alloc (.cells #[.bool false, .string ⟨#[]⟩] 23)).plus u4 := by
        apply World.plus_of_below
        refine ⟨hWb.os, hWb.tape, hWb.output, ?_, fun j hj => ?_⟩
        · have := hWb.size
          show _ ≤ ((W1.row _ _ _).row _ _ _).heap.size
          rw [World.size_row, World.size_row]
          simp at this ⊢; omega
        · show ((W1.row _ _ _).row _ _ _).heap[j]? = _
          have hj3 : j < w.heap.size + 3 := by simp at hj; omega
          by_cases j1 : j = w.heap.size + 1
          · subst j1
            rw [World.heap_row_same _ _ _ _ (by rw [World.size_row]; exact z3), heap_alloc_old _ _ (show w.heap.size + 1 < _ by simp only [World.size_alloc]; omega)]
            exact (heap_at _ _ _ (by simp)).symm
          · rw [World.heap_row_other _ _ _ _ _ j1]
            by_cases j0 : j = w.heap.size
            · subst j0
              rw [World.heap_row_same _ _ _ _ z2, heap_alloc_old _ _ (show w.heap.size < _ by simp only [World.size_alloc]; omega), heap_alloc_old _ _ (show w.heap.size < _ by simp only [World.size_alloc]; omega)]
              exact (heap_at _ _ _ rfl).symm
            · rw [World.heap_row_other _ _ _ _ _ j0, hWb.block j (by simp only [World.size_alloc]; omega)]
              by_cases j2 : j = w.heap.size + 2
              · subst j2
                exact (heap_at _ _ _ (by simp)).trans (heap_at _ _ _ (by simp)).symm
              · rw [heap_alloc_old _ _ (show j < _ by simp only [World.size_alloc]; omega), heap_alloc_old _ _ (show j < _ by simp only [World.size_alloc]; omega), heap_alloc_old _ _ (show j < _ by omega), heap_alloc_old _ _ (show j < _ by simp only [World.size_alloc]; omega), heap_alloc_old _ _ (show j < _ by simp only [World.size_alloc]; omega), heap_alloc_old _ _ (show j < _ by omega)]
      obtain ⟨u4, hu4⟩ := hend
      rw [← eW]
      have n1 : b6 ≠ w.heap.size := by omega
      have n2 : b6 ≠ w.heap.size + 1 := by omega
      have HU4 := Lib.hid hu4
      clear hu4 hW1 hWb q2 q3 e2 e3 eW hb6
      go_region
      all_goals
        go_wp2_with fail
        rw [HU4.out]
        refine ⟨⟨Y, r, u4, HN, hy, hrs, rfl⟩, ?_⟩
        rw [Hcell.out, Hcell.out]
        show num (mg (r : Int)) < num (mg (Y : Int))
        rw [mg_nat, mg_nat, num_mag, num_mag]
        exact HRL.out
end Go.Proofs.YtkoodpbcfdblbaaDoor
