import Derived.Test.YtkoodpbcfdblbaaDoorRefI
import Derived.Test.YtkoodpbcfdblbaaDoorRefF
set_option linter.unusedSimpArgs false
set_option linter.unusedVariables false
namespace Go.Proofs.YtkoodpbcfdblbaaDoor
open Go Go.RowKit
open Vi
set_option maxHeartbeats 1600000 in
theorem rSmall_c (r : Nat) (w : World) (h : r < 10) : Calls Tryd.prog 72 #[.agg #[.bool (sg (r : Int)), .string (mg (r : Int))]] w fun e w' => e = .returned (.int .i64 (r : Int)) ∧ Below w.heap.size w w' := by
  rw [sg_nat, mg_nat]
  by_cases h0 : r = 0
  · subst h0
    rw [mag_zero]
    go_enter Tryd.func72, Tryd.ntmps72
    go_wp2
    go_rounds 1
    go_wp2
    go_ret
    exact ⟨rfl, by (repeat' (first | (with_reducible exact Below.refl _ _) | (with_reducible assumption) | (with_reducible refine Below.plus0 ?_ _) | (with_reducible refine Below.alloc0 ?_ _) | (with_reducible refine Below.plus ?_ ?_ _) | (with_reducible refine Below.alloc ?_ ?_ _) | (with_reducible refine Below.drew ?_) | (with_reducible refine Below.drewN ?_ _) | (simp [go_sem]; done) | (simp [go_sem]; omega)))⟩
  · obtain ⟨b, hb⟩ : ∃ b : UInt8, b = UInt8.ofNat r := ⟨_, rfl⟩
    have hm : mag r = ⟨#[b]⟩ := by
      rw [hb]
      match r, h, h0 with
      | 1, _, _ => decide
      | 2, _, _ => decide
      | 3, _, _ => decide
      | 4, _, _ => decide
      | 5, _, _ => decide
      | 6, _, _ => decide
      | 7, _, _ => decide
      | 8, _, _ => decide
      | 9, _, _ => decide
    have hv : b.toNat = r := by rw [hb, UInt8.toNat_ofNat']; omega
    have hw : wrap64 (r : Int) = (r : Int) := by unfold wrap64; omega
    have HW := Lib.hid hw
    rw [hm]
    clear hm hb hw h0
    go_enter Tryd.func72, Tryd.ntmps72
    go_wp2
    go_rounds 2
    go_wp2
    go_ret
    refine ⟨?_, by (repeat' (first | (with_reducible exact Below.refl _ _) | (with_reducible assumption) | (with_reducible refine Below.plus0 ?_ _) | (with_reducible refine Below.alloc0 ?_ _) | (with_reducible refine Below.plus ?_ ?_ _) | (with_reducible refine Below.alloc ?_ ?_ _) | (with_reducible refine Below.drew ?_) | (with_reducible refine Below.drewN ?_ _) | (simp [go_sem]; done) | (simp [go_sem]; omega)))⟩
    show Ending.returned (.int .i64 (wrap64 (wrap64 (b.toNat : Int)))) = _
    rw [hv, HW.out, HW.out]
/-- The decimal digits of a number, the highest one first; none of 0. -/
def decS (n : Nat) : List UInt8 := ((dig 10 n).map fun d => UInt8.ofNat (48 + d)).reverse
theorem decS_zero : decS 0 = [] := rfl
theorem decS_pos (n : Nat) (h : 0 < n) : decS n = decS (n / 10) ++ [UInt8.ofNat (48 + n % 10)] := by
  unfold decS
  rw [dig_pos 10 n (by omega) h, List.map_cons, List.reverse_cons]
theorem decS_len (n k : Nat) (h : (mag n).size ≤ k) : (decS n).length ≤ 3 * k := by
  have h1 : n < 256 ^ k := lt_of_size_mag n k h
  have h2 : (256 : Nat) ^ k ≤ (10 ^ 3) ^ k := Nat.pow_le_pow_left (by decide) k
  rw [← Nat.pow_mul] at h2
  have h3 := nd_le 10 (by omega) n (3 * k) (by omega)
  unfold decS
  rw [List.length_reverse, List.length_map]
  exact h3
theorem catB (b : UInt8) (l : List UInt8) : (⟨#[b]⟩ ++ ⟨l.toArray⟩ : ByteArray) = ⟨(b :: l).toArray⟩ := by
  apply ByteArray.ext
  simp
/-- What Print returns. -/
def printS (x : Int) : ByteArray := if x = 0 then ⟨#[48]⟩ else if x < 0 then ⟨(45 :: decS x.natAbs).toArray⟩ else ⟨(decS x.natAbs).toArray⟩
set_option maxRecDepth 100000 in
set_option maxHeartbeats 1600000 in
theorem rPrint_c (x : Int) (w : World) (hx : (mg x).size ≤ 1048576) : Calls Tryd.prog 45 #[.agg #[.bool (sg x), .string (mg x)]] w fun e w' => e = .returned (.string (printS x)) ∧ Below w.heap.size w w' := by
  obtain ⟨X0, hX0⟩ : ∃ X, X = x.natAbs := ⟨_, rfl⟩
  have hT := Lib.hid (fun w => rFromInt_c 10 w (by omega) (by omega))
  have hA := Lib.hid (fun w => rAbs_c x (X0 : Int) (by rw [hX0]) w)
  have hx0 : (mag X0).size ≤ 1048576 := by rw [hX0]; exact hx
  have HX0 := Lib.hid hX0
  have hdl : (decS X0).length ≤ 3 * 1048576 := decS_len X0 1048576 hx0
  clear hX0
  go_enter Tryd.func45, Tryd.ntmps45
  go_wp2_with fail
  (go_wp2_with fail; refine (hT.out _).mono ?_; rintro e w' ⟨rfl, hb⟩; obtain ⟨u, rfl⟩ := World.plus_of_below hb; clear hb)
  revert u
  intro ua
  go_wp2_with fail
  (go_wp2_with fail; refine (hA.out _).mono ?_; rintro e w' ⟨rfl, hb⟩; obtain ⟨u, rfl⟩ := World.plus_of_below hb; clear hb)
  revert u
  intro ub
  go_wp2_with fail
  obtain ⟨W, hW⟩ : ∃ W, W = (((w.alloc (.cells #[.bool (sg x), .string (mg x)] 23)).plus ua).alloc (.cells #[.bool (sg 10), .string (mg 10)] 23)).plus ub := ⟨_, rfl⟩
  rw [← hW]
  obtain ⟨b4, hb4⟩ : ∃ b, b = ((w.alloc (.cells #[.bool (sg x), .string (mg x)] 23)).plus ua).heap.size := ⟨_, rfl⟩
  rw [← hb4]
  have hbw : Below w.heap.size w W := by rw [hW]; (repeat' (first | (with_reducible exact Below.refl _ _) | (with_reducible assumption) | (with_reducible refine Below.plus0 ?_ _) | (with_reducible refine Below.alloc0 ?_ _) | (with_reducible refine Below.plus ?_ ?_ _) | (with_reducible refine Below.alloc ?_ ?_ _) | (with_reducible refine Below.drew ?_) | (with_reducible refine Below.drewN ?_ _) | (simp [go_sem]; done) | (simp [go_sem]; omega)))
  have c10 : W.cell? ⟨w.heap.size, 0, none⟩ = some (.bool (sg x)) := by rw [hW]; simp [go_sem]
  have c40 : W.cell? ⟨b4, 0, none⟩ = some (.bool (sg 10)) := by rw [hW, hb4]; simp [go_sem]
  have c41 : W.cell? ⟨b4, 1, none⟩ = some (.string (mg 10)) := by rw [hW, hb4]; simp [go_sem]
  have l1 : w.heap.size < W.heap.size := World.block_lt_of_cell? W _ c10
  have l4 : b4 < W.heap.size := World.block_lt_of_cell? W _ c40
  clear hW hb4
  have Hcell : Hid (∀ (A : Int) (u : World), ((W.alloc (.cells #[.bool (sg A), .string (mg A)] 23)).plus u).cell? ⟨W.heap.size, 1, none⟩ = some (.string (mg A))) := Lib.hid fun A u => by simp [go_sem]
  go_loopw [3] (fun s wr => ∃ (X : Nat) (l : List UInt8) (u' : World), Hid (decS X ++ l = decS X0) ∧ (mag X).size ≤ 1048576 ∧ s = .string ⟨l.toArray⟩ ∧ wr = (W.alloc (.cells #[.bool (sg (X : Int)), .string (mg (X : Int))] 23)).plus u') (fun _ wr => num (strOf ((wr.cell? ⟨W.heap.size, 1, none⟩).getD undef)))
  case atStart =>
    obtain ⟨u', hu⟩ := World.plus_of_below (Below.refl _ (W.alloc (.cells #[.bool (sg (X0 : Int)), .string (mg (X0 : Int))] 23)))
    exact ⟨X0, [], u', Lib.hid (by simp), hx0, rfl, hu⟩
  case round =>
    obtain ⟨X, l, u', HL, hxs, rfl, rfl⟩ := hrel
    have hll : l.length ≤ 3145728 := by
      have h1 := congrArg List.length HL.out
      rw [List.length_append] at h1
      omega
    by_cases h0 : X = 0
    · have hz : ((mg (X : Int)).size : Int) = 0 := by rw [h0]; rfl
      have hz2 : (mg (X : Int)).size = 0 := by omega
      have hl : l = decS X0 := by have := HL.out; rw [h0, decS_zero, List.nil_append] at this; exact this
      clear HL h0
      by_cases hX : X0 = 0
      · have hxz : x = 0 := by have := HX0.out; omega
        have hl2 : l = [] := by rw [hl, hX]; rfl
        subst hl2
        clear hl
        have HP : Hid (printS x = ⟨#[48]⟩) := Lib.hid (by unfold printS; rw [if_pos hxz])
        clear hxz hX
        go_wp2_with fail
        go_ret
        exact ⟨by rw [HP.out]; rfl, by (repeat' (first | (with_reducible exact Below.refl _ _) | (with_reducible assumption) | (with_reducible refine Below.plus0 ?_ _) | (with_reducible refine Below.alloc0 ?_ _) | (with_reducible refine Below.plus ?_ ?_ _) | (with_reducible refine Below.alloc ?_ ?_ _) | (with_reducible refine Below.drew ?_) | (with_reducible refine Below.drewN ?_ _) | (simp [go_sem]; done) | (simp [go_sem]; omega)))⟩
      · have hne : l.isEmpty = false := by
          have := decS_pos X0 (by omega)
          rw [hl, this]
          simp
        by_cases hneg : x < 0
        · have hs := sg_true x hneg
          have HP : Hid (printS x = ⟨(45 :: l).toArray⟩) := Lib.hid (by unfold printS; rw [if_neg (by omega), if_pos hneg, hl, HX0.out])
          rw [hs] at c10
          clear hl hs hneg hX
          go_wp2_with fail
          go_ret
          exact ⟨by rw [HP.out, ← catB]; rfl, by (repeat' (first | (with_reducible exact Below.refl _ _) | (with_reducible assumption) | (with_reducible refine Below.plus0 ?_ _) | (with_reducible refine Below.alloc0 ?_ _) | (with_reducible refine Below.plus ?_ ?_ _) | (with_reducible refine Below.alloc ?_ ?_ _) | (with_reducible refine Below.drew ?_) | (with_reducible refine Below.drewN ?_ _) | (simp [go_sem]; done) | (simp [go_sem]; omega)))⟩
        · have hs := sg_false x (by omega)
          have HP : Hid (printS x = ⟨l.toArray⟩) := Lib.hid (by unfold printS; rw [if_neg (by have := HX0.out; omega), if_neg hneg, hl, HX0.out])
          rw [hs] at c10
          clear hl hs hneg hX
          go_wp2_with fail
          go_ret
          exact ⟨by rw [HP.out]; rfl, by (repeat' (first | (with_reducible exact Below.refl _ _) | (with_reducible assumption) | (with_reducible refine Below.plus0 ?_ _) | (with_reducible refine Below.alloc0 ?_ _) | (with_reducible refine Below.plus ?_ ?_ _) | (with_reducible refine Below.alloc ?_ ?_ _) | (with_reducible refine Below.drew ?_) | (with_reducible refine Below.drewN ?_ _) | (simp [go_sem]; done) | (simp [go_sem]; omega)))⟩
    · have hp : 0 < (mg (X : Int)).size := by rw [mg_nat, size_mag]; exact nd_pos 256 (by omega) X (by omega)
      have hp2 : (0 : Int) < ((mg (X : Int)).size : Int) := by omega
      obtain ⟨q, hq⟩ : ∃ z : Nat, z = X / 10 := ⟨_, rfl⟩
      obtain ⟨r, hr⟩ : ∃ z : Nat, z = X % 10 := ⟨_, rfl⟩
      have hr10 : r < 10 := by omega
      have HD := Lib.hid (fun w => rDivMod_c (X : Int) 10 (q : Int) (r : Int) (by rw [hq]; exact Int.natCast_ediv X 10) (by rw [hr]; exact Int.natCast_emod X 10) w (by omega) (by rw [mg_nat]; exact hxs) (by rw [show mg 10 = ⟨#[10]⟩ by decide]; decide))
      have HS := Lib.hid (fun w => rSmall_c r w hr10)
      have HN : Hid (decS q ++ ((UInt8.ofNat (48 + r)) :: l) = decS X0) := Lib.hid (by
        rw [← HL.out, decS_pos X (by omega), hq, hr]; simp)
      have hqs : (mag q).size ≤ 1048576 := Nat.le_trans (size_mag_mono q X (by omega)) hxs
      have HQL := Lib.hid (show q < X by omega)
      obtain ⟨d, hd⟩ : ∃ z, z = 48 + r := ⟨_, rfl⟩
      have d1 : (48 : Int) + (r : Int) = (d : Int) := by omega
      have d2 : (d : Int) % 256 = (d : Int) := by omega
      have hd256 : d < 256 := by omega
      rw [← hd] at HN
      clear hq hr h0 hd
      go_wp2_with fail
      (go_wp2_with fail; refine (HD.out _).mono ?_; rintro e w' ⟨rfl, hb⟩; (first | (with_reducible (have hb2 := World.plus_of_below ((World.below_plus _ _).trans (hb.mono (World.size_plus _ _)))); obtain ⟨u, rfl⟩ := hb2) | (obtain ⟨u, rfl⟩ := World.plus_of_below hb)); clear hb)
      revert u
      intro u1
      go_wp2_with fail
      (go_wp2_with fail; refine (HS.out _).mono ?_; rintro e w' ⟨rfl, hb⟩; obtain ⟨u, rfl⟩ := World.plus_of_below hb; clear hb)
      revert u
      intro u2
      obtain ⟨W5, hW5⟩ : ∃ z, z = ((((W.alloc (.cells #[.bool (sg (X : Int)), .string (mg (X : Int))] 23)).plus u1).alloc (.cells #[.bool (sg (q : Int)), .string (mg (q : Int))] 23)).alloc (.cells #[.bool (sg (r : Int)), .string (mg (r : Int))] 23)).plus u2 := ⟨_, rfl⟩
      rw [← hW5]
      have hWb : Below (W.alloc (.cells #[.bool (sg (X : Int)), .string (mg (X : Int))] 23)).heap.size (W.alloc (.cells #[.bool (sg (X : Int)), .string (mg (X : Int))] 23)) W5 := by rw [hW5]; (repeat' (first | (with_reducible exact Below.refl _ _) | (with_reducible assumption) | (with_reducible refine Below.plus0 ?_ _) | (with_reducible refine Below.alloc0 ?_ _) | (with_reducible refine Below.plus ?_ ?_ _) | (with_reducible refine Below.alloc ?_ ?_ _) | (with_reducible refine Below.drew ?_) | (with_reducible refine Below.drewN ?_ _) | (simp [go_sem]; done) | (simp [go_sem]; omega)))
      obtain ⟨b6, hb6⟩ : ∃ b, b = ((W.alloc (.cells #[.bool (sg (X : Int)), .string (mg (X : Int))] 23)).plus u1).heap.size := ⟨_, rfl⟩
      have c60 : W5.cell? ⟨b6, 0, none⟩ = some (.bool (sg (q : Int))) := by rw [hW5, hb6]; simp [go_sem]
      have c61 : W5.cell? ⟨b6, 1, none⟩ = some (.string (mg (q : Int))) := by rw [hW5, hb6]; simp [go_sem]
      have hb6s : W.heap.size < b6 := by have := World.size_plus (W.alloc (.cells #[.bool (sg (X : Int)), .string (mg (X : Int))] 23)) u1; rw [World.size_alloc] at this; omega
      have l6 : b6 < W5.heap.size := World.block_lt_of_cell? W5 _ c60
      have q5 : W5.heap[W.heap.size]? = some (.cells #[.bool (sg (X : Int)), .string (mg (X : Int))] 23 (0, 0)) := by
        rw [hWb.block _ (by simp only [World.size_alloc]; omega)]; exact heap_at _ _ _ rfl
      have e5 := World.row_self W5 _ _ _ q5
      have z5 := (Array.getElem?_eq_some_iff.1 q5).1
      have hend : ∃ u4, ((W5.row W.heap.size 23 #[.bool (sg (q : Int)), .string (mg (q : Int))]).alloc (.cells #[.int .u8 (d : Int)] 5)) = (W.alloc (.cells #[.bool (sg (q : Int)), .string (mg (q : Int))] 23)).plus u4 := by
        apply World.plus_of_below
        refine ⟨hWb.os, hWb.tape, hWb.output, ?_, fun j hj => ?_⟩
        · rw [World.size_alloc, World.size_alloc, World.size_row]; omega
        · have hj3 : j < W.heap.size + 1 := by rw [World.size_alloc] at hj; exact hj
          rw [heap_alloc_old _ _ (show j < _ by rw [World.size_row]; omega)]
          by_cases j1 : j = W.heap.size
          · subst j1
            rw [World.heap_row_same _ _ _ _ z5]
            exact (heap_at _ _ _ rfl).symm
          · rw [World.heap_row_other _ _ _ _ _ j1, hWb.block j (by rw [World.size_alloc]; omega), heap_alloc_old _ _ (show j < _ by omega), heap_alloc_old _ _ (show j < _ by omega)]
      obtain ⟨u4, hu4⟩ := hend
      have hcv : (convert 46 9 (.slice (some ⟨W5.heap.size, 0, none⟩) 1 1)).run Tryd.prog ((W5.row W.heap.size 23 #[.bool (sg (X : Int)), .string (mg (X : Int))]).alloc (.cells #[.int .u8 (d : Int)] 5)) = .ok (.string ⟨#[UInt8.ofNat d]⟩) ((W5.row W.heap.size 23 #[.bool (sg (X : Int)), .string (mg (X : Int))]).alloc (.cells #[.int .u8 (d : Int)] 5)) := by
        have := conv8 (fun _ => d) 1 1 (W5.row W.heap.size 23 #[.bool (sg (X : Int)), .string (mg (X : Int))]) (fun _ => hd256)
        rw [World.size_row] at this
        exact this
      rw [← e5]
      have n6 : b6 ≠ W.heap.size := by omega
      have HU4 := Lib.hid hu4
      rw [← hb6]
      clear hu4 hW5 hWb q5 e5 hb6
      go_wp2_with fail
      refine ⟨⟨q, UInt8.ofNat d :: l, u4, HN, hqs, by rw [catB], HU4.out⟩, ?_⟩
      rw [HU4.out, Hcell.out, Hcell.out]
      show num (mg (q : Int)) < num (mg (X : Int))
      rw [mg_nat, mg_nat, num_mag, num_mag]
      exact HQL.out
end Go.Proofs.YtkoodpbcfdblbaaDoor
