/- Part 8 of the proof; what it holds is said text by text. -/
import Derived.Test.YthdaimoankaciaaGreatDoorRqD
import Derived.Test.YthdaimoankaciaaGreatDoorRqA
import Derived.Test.YthdaimoankaciaaGreatDoorRqE
import Derived.Test.YthdaimoankaciaaGreatDoorRqG
import Derived.Lib.OthersKept
import Derived.Laws.RangeAny
import Derived.WalkSmall
import Derived.Laws.RangeString
import Derived.OwnWalk
import Derived.Deep.DeepCutAuto
import Derived.Deep.CutBlock
import Derived.Lib.TrimByte
import Derived.Lib.IndexMore
section
/- The program's digits; strings.Cut. -/
set_option linter.unusedSimpArgs false
set_option linter.unusedVariables false
namespace Go.Proofs.YthdaimoankaciaaGreatDoor
open Go Go.RowKit
open Vi
theorem size_i64 (n : Int) (h1 : -9223372036854775808 ≤ n) (h2 : n ≤ 9223372036854775807) : (mg n).size ≤ 8 := by
 apply size_mag_le _ 8
 have e : (256 : Nat) ^ 8 = 18446744073709551616 := by decide
 rw [e]; omega
def DigS (s : ByteArray) : Prop := ∀ i (h : i < s.size), 48 ≤ (s[i]'h).toNat ∧ (s[i]'h).toNat ≤ 57
theorem row_plus_other {V u : World} {b j : Nat} {T : TypeId} {c : Array Value} {o : Obj} (hj : V.heap[j]? = some o) (hne : j ≠ b) : ((V.row b T c).plus u).heap[j]? = some o := by
 have h := (Array.getElem?_eq_some_iff.1 hj).1
 rw [World.heap_plus _ _ _ (by rw [World.size_row]; exact h), World.heap_row_other _ _ _ _ _ hne, hj]
theorem row_plus_same {V u : World} {b : Nat} {T : TypeId} {c : Array Value} (h : b < V.heap.size) : ((V.row b T c).plus u).heap[b]? = some (.cells c T (0, 0)) := by
 rw [World.heap_plus _ _ _ (by rw [World.size_row]; exact h), World.heap_row_same _ _ _ _ h]
theorem isEmpty_size (s : ByteArray) : s.toList.isEmpty = decide (s.size = 0) := by
 rw [toList_data]
 have : s.data.toList.length = s.size := rfl
 cases h : s.data.toList with
 | nil => rw [h] at this; simp at this; simp [← this]
 | cons a l =>
  rw [h] at this
  have h0 : s.size ≠ 0 := by rw [← this]; simp
  simp [h0]
set_option maxRecDepth 100000 in
set_option maxHeartbeats 3200000 in
theorem qDigits_c (s : ByteArray) (hs : s.size ≤ 4096) (r1 : Int) (r2 : Bool) (hok : (DigS s ∧ r1 = (pv s s.size : Nat) ∧ r2 = decide (0 < s.size)) ∨ (¬ DigS s ∧ r1 = 0 ∧ r2 = false)) (w : World) : Calls Tryz.prog 128 #[.string s] w fun z w' => z = .returned (.tuple #[.agg #[.bool (sg r1), .string (mg r1)], .bool r2]) ∧ Below w.heap.size w w' := by
 have HOK := Lib.hid hok
 clear hok
 obtain ⟨ten, hten⟩ : ∃ z : Int, z = 10 := ⟨_, rfl⟩
 have h10 : Hid (∀ w, Calls Tryz.prog 110 #[.int .i64 10] w fun z w' => z = .returned (.agg #[.bool (sg ten), .string (mg ten)]) ∧ Below w.heap.size w w') := Lib.hid fun w => by rw [hten]; exact FromInt_c 10 w (by decide) (by decide)
 have HTEN := Lib.hid hten
 clear hten
 go_enter Tryz.func128, Tryz.ntmps128
 go_upto_region 2 with fail
 obtain ⟨V1, hV1⟩ : ∃ z, z = ((w.alloc (.cells #[.bool false, .string ⟨#[]⟩] 23)).alloc (.cells #[.bool false, .string ⟨#[]⟩] 23)) := ⟨_, rfl⟩
 rw [← hV1]
 try rw [← hV1] at HV
 have q4 : V1.heap[w.heap.size + 1]? = some (.cells #[.bool false, .string ⟨#[]⟩] 23 (0, 0)) := by rw [hV1]; (repeat' (first | (with_reducible exact heap_at _ _ _ (by first | (simp [go_sem]; done) | omega)) | (with_reducible assumption) | (with_reducible exact World.heap_row_same _ _ _ _ (by first | assumption | omega | (with_reducible exact Nat.lt_of_lt_of_le (by first | assumption | omega | (simp [go_sem]; done) | (simp [go_sem]; omega)) (World.size_plus _ _)) | (simp [go_sem]; done) | (simp [go_sem]; omega))) | (rw [World.heap_row_other _ _ _ _ _ (by first | assumption | omega)]) | (rw [World.heap_plus _ _ _ (by first | assumption | omega | (with_reducible exact Nat.lt_of_lt_of_le (by first | assumption | omega | (simp [go_sem]; done) | (simp [go_sem]; omega)) (World.size_plus _ _)) | (simp [go_sem]; done) | (simp [go_sem]; omega))]) | (rw [heap_alloc_old _ _ (by first | assumption | omega | (with_reducible exact Nat.lt_of_lt_of_le (by first | assumption | omega | (simp [go_sem]; done) | (simp [go_sem]; omega)) (World.size_plus _ _)) | (simp [go_sem]; done) | (simp [go_sem]; omega))])))
 have q2 : V1.heap[w.heap.size]? = some (.cells #[.bool false, .string ⟨#[]⟩] 23 (0, 0)) := by rw [hV1]; (repeat' (first | (with_reducible exact heap_at _ _ _ (by first | (simp [go_sem]; done) | omega)) | (with_reducible assumption) | (with_reducible exact World.heap_row_same _ _ _ _ (by first | assumption | omega | (with_reducible exact Nat.lt_of_lt_of_le (by first | assumption | omega | (simp [go_sem]; done) | (simp [go_sem]; omega)) (World.size_plus _ _)) | (simp [go_sem]; done) | (simp [go_sem]; omega))) | (rw [World.heap_row_other _ _ _ _ _ (by first | assumption | omega)]) | (rw [World.heap_plus _ _ _ (by first | assumption | omega | (with_reducible exact Nat.lt_of_lt_of_le (by first | assumption | omega | (simp [go_sem]; done) | (simp [go_sem]; omega)) (World.size_plus _ _)) | (simp [go_sem]; done) | (simp [go_sem]; omega))]) | (rw [heap_alloc_old _ _ (by first | assumption | omega | (with_reducible exact Nat.lt_of_lt_of_le (by first | assumption | omega | (simp [go_sem]; done) | (simp [go_sem]; omega)) (World.size_plus _ _)) | (simp [go_sem]; done) | (simp [go_sem]; omega))])))
 replace hbw : Below w.heap.size w V1 := by rw [hV1]; (repeat' (first | (with_reducible first | exact Below.refl _ _ | assumption | refine Below.plus0 ?_ _ | refine Below.row ?_ ?_ _ _ | refine Below.alloc0 ?_ _ | refine Below.plus ?_ ?_ _ | refine Below.alloc ?_ ?_ _ | refine Below.drew ?_ | refine Below.drewN ?_ _) | (simp [go_sem]; done) | (simp [go_sem]; omega)))
 obtain ⟨b4, hb4⟩ : ∃ b, b = w.heap.size + 1 := ⟨_, rfl⟩
 rw [← hb4] at q4
 try simp only [← hb4]
 obtain ⟨b2, hb2⟩ : ∃ b, b = w.heap.size := ⟨_, rfl⟩
 rw [← hb2] at q2
 try simp only [← hb2]
 have y4 : w.heap.size ≤ b4 := by first | omega | (rw [hb4]; first | exact Nat.le_refl _ | (simp [go_sem]; done) | (simp [go_sem]; omega) | (have := hbw.size; simp [go_sem] at *; omega))
 have y2 : w.heap.size ≤ b2 := by first | omega | (rw [hb2]; first | exact Nat.le_refl _ | (simp [go_sem]; done) | (simp [go_sem]; omega) | (have := hbw.size; simp [go_sem] at *; omega))
 have n42 : b4 ≠ b2 := by first | omega | (rw [hb4, hb2]; first | (simp [go_sem]; done) | (simp [go_sem]; omega))
 have n24 : b2 ≠ b4 := n42.symm
 replace z4 : b4 < V1.heap.size := (Array.getElem?_eq_some_iff.1 q4).1
 replace c40 : V1.cell? ⟨b4, 0, none⟩ = some (.bool false) := (cell_at q4).trans rfl
 replace c41 : V1.cell? ⟨b4, 1, none⟩ = some (.string ⟨#[]⟩) := (cell_at q4).trans rfl
 replace z2 : b2 < V1.heap.size := (Array.getElem?_eq_some_iff.1 q2).1
 replace c20 : V1.cell? ⟨b2, 0, none⟩ = some (.bool false) := (cell_at q2).trans rfl
 replace c21 : V1.cell? ⟨b2, 1, none⟩ = some (.string ⟨#[]⟩) := (cell_at q2).trans rfl
 clear hV1 hb4 hb2
 (go_wp2_with fail; refine (h10.out _).mono ?_; rintro e w' ⟨rfl, hb⟩; (first | (with_reducible (have hb2 := World.plus_of_below ((World.below_plus _ _).trans (hb.mono (World.size_plus _ _)))); obtain ⟨u, rfl⟩ := hb2) | (obtain ⟨u, rfl⟩ := World.plus_of_below hb)); clear hb)
 go_upto_region 3 with fail
 obtain ⟨V2, hV2⟩ : ∃ z, z = ((V1.plus u).alloc (.cells #[.bool (sg ten), .string (mg ten)] 23)) := ⟨_, rfl⟩
 rw [← hV2]
 try rw [← hV2] at HV
 have q5 : V2.heap[(V1.plus u).heap.size]? = some (.cells #[.bool (sg ten), .string (mg ten)] 23 (0, 0)) := by rw [hV2]; (repeat' (first | (with_reducible exact heap_at _ _ _ (by first | (simp [go_sem]; done) | omega)) | (with_reducible assumption) | (with_reducible exact World.heap_row_same _ _ _ _ (by first | assumption | omega | (with_reducible exact Nat.lt_of_lt_of_le (by first | assumption | omega | (simp [go_sem]; done) | (simp [go_sem]; omega)) (World.size_plus _ _)) | (simp [go_sem]; done) | (simp [go_sem]; omega))) | (rw [World.heap_row_other _ _ _ _ _ (by first | assumption | omega)]) | (rw [World.heap_plus _ _ _ (by first | assumption | omega | (with_reducible exact Nat.lt_of_lt_of_le (by first | assumption | omega | (simp [go_sem]; done) | (simp [go_sem]; omega)) (World.size_plus _ _)) | (simp [go_sem]; done) | (simp [go_sem]; omega))]) | (rw [heap_alloc_old _ _ (by first | assumption | omega | (with_reducible exact Nat.lt_of_lt_of_le (by first | assumption | omega | (simp [go_sem]; done) | (simp [go_sem]; omega)) (World.size_plus _ _)) | (simp [go_sem]; done) | (simp [go_sem]; omega))])))
 replace q4 : V2.heap[b4]? = some (.cells #[.bool false, .string ⟨#[]⟩] 23 (0, 0)) := by rw [hV2]; (repeat' (first | (with_reducible exact heap_at _ _ _ (by first | (simp [go_sem]; done) | omega)) | (with_reducible assumption) | (with_reducible exact World.heap_row_same _ _ _ _ (by first | assumption | omega | (with_reducible exact Nat.lt_of_lt_of_le (by first | assumption | omega | (simp [go_sem]; done) | (simp [go_sem]; omega)) (World.size_plus _ _)) | (simp [go_sem]; done) | (simp [go_sem]; omega))) | (rw [World.heap_row_other _ _ _ _ _ (by first | assumption | omega)]) | (rw [World.heap_plus _ _ _ (by first | assumption | omega | (with_reducible exact Nat.lt_of_lt_of_le (by first | assumption | omega | (simp [go_sem]; done) | (simp [go_sem]; omega)) (World.size_plus _ _)) | (simp [go_sem]; done) | (simp [go_sem]; omega))]) | (rw [heap_alloc_old _ _ (by first | assumption | omega | (with_reducible exact Nat.lt_of_lt_of_le (by first | assumption | omega | (simp [go_sem]; done) | (simp [go_sem]; omega)) (World.size_plus _ _)) | (simp [go_sem]; done) | (simp [go_sem]; omega))])))
 replace q2 : V2.heap[b2]? = some (.cells #[.bool false, .string ⟨#[]⟩] 23 (0, 0)) := by rw [hV2]; (repeat' (first | (with_reducible exact heap_at _ _ _ (by first | (simp [go_sem]; done) | omega)) | (with_reducible assumption) | (with_reducible exact World.heap_row_same _ _ _ _ (by first | assumption | omega | (with_reducible exact Nat.lt_of_lt_of_le (by first | assumption | omega | (simp [go_sem]; done) | (simp [go_sem]; omega)) (World.size_plus _ _)) | (simp [go_sem]; done) | (simp [go_sem]; omega))) | (rw [World.heap_row_other _ _ _ _ _ (by first | assumption | omega)]) | (rw [World.heap_plus _ _ _ (by first | assumption | omega | (with_reducible exact Nat.lt_of_lt_of_le (by first | assumption | omega | (simp [go_sem]; done) | (simp [go_sem]; omega)) (World.size_plus _ _)) | (simp [go_sem]; done) | (simp [go_sem]; omega))]) | (rw [heap_alloc_old _ _ (by first | assumption | omega | (with_reducible exact Nat.lt_of_lt_of_le (by first | assumption | omega | (simp [go_sem]; done) | (simp [go_sem]; omega)) (World.size_plus _ _)) | (simp [go_sem]; done) | (simp [go_sem]; omega))])))
 replace hbw : Below w.heap.size w V2 := by rw [hV2]; (repeat' (first | (with_reducible first | exact Below.refl _ _ | assumption | refine Below.plus0 ?_ _ | refine Below.row ?_ ?_ _ _ | refine Below.alloc0 ?_ _ | refine Below.plus ?_ ?_ _ | refine Below.alloc ?_ ?_ _ | refine Below.drew ?_ | refine Below.drewN ?_ _) | (simp [go_sem]; done) | (simp [go_sem]; omega)))
 obtain ⟨b5, hb5⟩ : ∃ b, b = (V1.plus u).heap.size := ⟨_, rfl⟩
 rw [← hb5] at q5
 try simp only [← hb5]
 have y5 : w.heap.size ≤ b5 := by first | omega | (rw [hb5]; first | exact Nat.le_refl _ | (simp [go_sem]; done) | (simp [go_sem]; omega) | (have := hbw.size; simp [go_sem] at *; omega))
 have n45 : b4 ≠ b5 := by first | omega | (rw [hb5]; first | (simp [go_sem]; done) | (simp [go_sem]; omega))
 have n54 : b5 ≠ b4 := n45.symm
 have n25 : b2 ≠ b5 := by first | omega | (rw [hb5]; first | (simp [go_sem]; done) | (simp [go_sem]; omega))
 have n52 : b5 ≠ b2 := n25.symm
 replace z5 : b5 < V2.heap.size := (Array.getElem?_eq_some_iff.1 q5).1
 replace c50 : V2.cell? ⟨b5, 0, none⟩ = some (.bool (sg ten)) := (cell_at q5).trans rfl
 replace c51 : V2.cell? ⟨b5, 1, none⟩ = some (.string (mg ten)) := (cell_at q5).trans rfl
 replace z4 : b4 < V2.heap.size := (Array.getElem?_eq_some_iff.1 q4).1
 replace c40 : V2.cell? ⟨b4, 0, none⟩ = some (.bool false) := (cell_at q4).trans rfl
 replace c41 : V2.cell? ⟨b4, 1, none⟩ = some (.string ⟨#[]⟩) := (cell_at q4).trans rfl
 replace z2 : b2 < V2.heap.size := (Array.getElem?_eq_some_iff.1 q2).1
 replace c20 : V2.cell? ⟨b2, 0, none⟩ = some (.bool false) := (cell_at q2).trans rfl
 replace c21 : V2.cell? ⟨b2, 1, none⟩ = some (.string ⟨#[]⟩) := (cell_at q2).trans rfl
 clear hV2 hb5
 go_wp2_with fail
 obtain ⟨k, hk⟩ : ∃ k, k = V2.heap.size := ⟨_, rfl⟩
 have n5 : b5 ≠ k := by omega
 have n4 : b4 ≠ k := by omega
 have n2 : b2 ≠ k := by omega
 have yk : w.heap.size ≤ k := by have := hbw.size; omega
 rw [← hk]
 go_loopw [] (fun wr => ∃ p : Nat, p ≤ s.size ∧ Hid (∀ i (h : i < s.size), i < p → 48 ≤ (s[i]'h).toNat ∧ (s[i]'h).toNat ≤ 57) ∧ wr.heap[k]? = some (.stringIter s p) ∧ wr.heap[b5]? = some (.cells #[.bool (sg ten), .string (mg ten)] 23 (0, 0)) ∧ wr.heap[b4]? = some (.cells #[.bool (sg ((pv s p : Nat) : Int)), .string (mg ((pv s p : Nat) : Int))] 23 (0, 0)) ∧ wr.heap[b2]? = some (.cells #[.bool false, .string ⟨#[]⟩] 23 (0, 0)) ∧ Below w.heap.size w wr) (fun wr => s.size - wr.iterPos k)
 case atStart =>
  refine ⟨0, Nat.zero_le _, Lib.hid (fun i h hi => absurd hi (by omega)), ?_, ?_, ?_, ?_, ?_⟩
  ·rw [hk]; exact World.iter_heap ..
  ·show (V2.alloc _).heap[b5]? = _
   rw [heap_alloc_old _ _ z5]; exact q5
  ·show (V2.alloc _).heap[b4]? = _
   rw [heap_alloc_old _ _ z4]; exact q4
  ·show (V2.alloc _).heap[b2]? = _
   rw [heap_alloc_old _ _ z2]; exact q2
  ·exact Below.alloc hbw hbw.size _
 case round =>
  obtain ⟨p, hp, HP, qk, r5, r4, r2', hbel⟩ := hrel
  clear q5 q4 q2 c50 c51 c40 c41 c20 c21 z5 z4 z2 hbw hk
  have HPK := Lib.hid (iterPos_of qk)
  by_cases hlt : p < s.size
  ·obtain ⟨c, hc⟩ : ∃ c, c = (s[p]'hlt).toNat := ⟨_, rfl⟩
   have HC := Lib.hid hc
   have step : ∀ (V : World) (p' : Nat), V = wr.iterAt k s p' → V.heap[k]? = some (.stringIter s p') ∧ V.heap[b5]? = some (.cells #[.bool (sg ten), .string (mg ten)] 23 (0, 0)) ∧ V.heap[b4]? = some (.cells #[.bool (sg ((pv s p : Nat) : Int)), .string (mg ((pv s p : Nat) : Int))] 23 (0, 0)) ∧ V.heap[b2]? = some (.cells #[.bool false, .string ⟨#[]⟩] 23 (0, 0)) ∧ Below w.heap.size w V := by
    rintro V p' rfl
    exact ⟨Lib.iterAt_heap _ _ _ _ _ qk, by rw [Lib.iterAt_other _ _ _ _ _ n5]; exact r5, by rw [Lib.iterAt_other _ _ _ _ _ n4]; exact r4, by rw [Lib.iterAt_other _ _ _ _ _ n2]; exact r2', Lib.below_iterAt hbel yk _ _⟩
   by_cases hd : 48 ≤ c ∧ c ≤ 57
   ·
    have hnx : ∀ ty, (Instr.next (.pointer (some ⟨k, 0, none⟩)) true ty).run Tryz.prog wr = _ := fun ty => Lib.run_next_ascii_at wr k s p ty qk hlt (by omega)
    rw [← hc] at hnx
    obtain ⟨V, hV⟩ : ∃ V, V = wr.iterAt k s (p + 1) := ⟨_, rfl⟩
    rw [← hV] at hnx
    obtain ⟨qk', q5, q4, q2, hbw⟩ := step V _ hV
    have QK := Lib.hid qk'
    have HV := Lib.hid hV
    have hsz := hbel.size
    clear step hV qk qk' r5 r4 r2' hbel hc
    have c40 := (cell_at (i := 0) q4).trans rfl
    have c41 := (cell_at (i := 1) q4).trans rfl
    have c50 := (cell_at (i := 0) q5).trans rfl
    have c51 := (cell_at (i := 1) q5).trans rfl
    have z4 := (Array.getElem?_eq_some_iff.1 q4).1
    have d1 : decide ((c : Int) < 48) = false := decide_eq_false (by omega)
    have d2 : decide ((57 : Int) < (c : Int)) = false := decide_eq_false (by omega)
    go_upto_region 8 with fail
    obtain ⟨X, hX⟩ : ∃ z : Nat, z = pv s p := ⟨_, rfl⟩
    rw [← hX] at c40 c41 q4
    have sX : (mg ((X : Nat) : Int)).size ≤ s.size := by
     rw [hX, mg_nat]
     refine size_mag_le _ _ (Nat.lt_of_lt_of_le (pv_lt s p (fun i hi => ?_)) (Nat.le_trans (Nat.pow_le_pow_left (by decide : 10 ≤ 256) p) (Nat.pow_le_pow_right (by decide) (by omega))))
     have h1 := HP.out i (by omega) hi
     have h2 := dgt_le s i (by omega) (by unfold isD; simp; omega)
     exact h2.1
    obtain ⟨M, hM⟩ : ∃ z : Int, z = (X : Int) * 10 := ⟨_, rfl⟩
    obtain ⟨Y, hY⟩ : ∃ z : Nat, z = pv s (p + 1) := ⟨_, rfl⟩
    have sM : (mg M).size ≤ s.size + 2 := by
     have h1 := lt_of_size_mag X s.size (by rw [← mg_nat]; exact sX)
     rw [hM]
     refine size_mag_le _ _ ?_
     rw [Nat.pow_add]
     omega
    have h1 : Hid (∀ w, Calls Tryz.prog 107 #[.agg #[.bool (sg (X : Int)), .string (mg (X : Int))], .agg #[.bool (sg ten), .string (mg ten)]] w fun z w' => z = .returned (.agg #[.bool (sg M), .string (mg M)]) ∧ Below w.heap.size w w') := Lib.hid fun w => by rw [HTEN.out, hM]; exact Mul_c (X : Int) 10 w (by omega) (by decide)
    have h2 : Hid (∀ w, Calls Tryz.prog 110 #[.int .i64 ((c : Int) - 48)] w fun z w' => z = .returned (.agg #[.bool (sg ((c : Int) - 48)), .string (mg ((c : Int) - 48))]) ∧ Below w.heap.size w w') := Lib.hid fun w => FromInt_c ((c : Int) - 48) w (by omega) (by omega)
    have h3 : Hid (∀ w, Calls Tryz.prog 109 #[.agg #[.bool (sg M), .string (mg M)], .agg #[.bool (sg ((c : Int) - 48)), .string (mg ((c : Int) - 48))]] w fun z w' => z = .returned (.agg #[.bool (sg (Y : Int)), .string (mg (Y : Int))]) ∧ Below w.heap.size w w') := Lib.hid fun w => by
     have e : (Y : Int) = M + ((c : Int) - 48) := by
      have h1 := dgt_le s p hlt (by unfold isD; have h9 := HC.out; simp; omega)
      have h2 := HC.out
      rw [hY, pv_succ, hM, hX, h2]
      omega
     rw [e]
     exact Add_c M ((c : Int) - 48) w (by omega) (by have := size_i64 ((c : Int) - 48) (by omega) (by omega); omega)
    have HX := Lib.hid hX
    have HY := Lib.hid hY
    have HM2 := Lib.hid hd
    clear hX hM hY sX sM
    (go_wp2_with fail; refine (h1.out _).mono ?_; rintro e w' ⟨rfl, hb⟩; (first | (with_reducible (have hb2 := World.plus_of_below ((World.below_plus _ _).trans (hb.mono (World.size_plus _ _)))); obtain ⟨u, rfl⟩ := hb2) | (obtain ⟨u, rfl⟩ := World.plus_of_below hb)); clear hb)
    go_wp2_with fail
    (go_wp2_with fail; refine (h2.out _).mono ?_; rintro e w' ⟨rfl, hb⟩; (first | (with_reducible (have hb2 := World.plus_of_below ((World.below_plus _ _).trans (hb.mono (World.size_plus _ _)))); obtain ⟨u, rfl⟩ := hb2) | (obtain ⟨u, rfl⟩ := World.plus_of_below hb)); clear hb)
    go_wp2_with fail
    (go_wp2_with fail; refine (h3.out _).mono ?_; rintro e w' ⟨rfl, hb⟩; (first | (with_reducible (have hb2 := World.plus_of_below ((World.below_plus _ _).trans (hb.mono (World.size_plus _ _)))); obtain ⟨u, rfl⟩ := hb2) | (obtain ⟨u, rfl⟩ := World.plus_of_below hb)); clear hb)
    have eW := World.row_self V _ _ _ q4
    rw [← eW]
    clear eW
    go_wp2_with fail
    refine ⟨⟨p + 1, by omega, Lib.hid (fun i h hi => ?_), row_plus_other QK.out n4.symm, row_plus_other q5 n54, ?_, row_plus_other q2 n24, ?_⟩, ?_⟩
    ·by_cases e : i = p
     ·subst e
      have := HC.out
      omega
     ·exact HP.out i h (by omega)
    ·rw [← HY.out]; exact row_plus_same z4
    ·exact Below.plus (hbw.row y4 _ _) (hbw.row y4 _ _).size u
    ·rw [HPK.out, iterPos_of (row_plus_other QK.out n4.symm)]
     omega
   ·
    have hND : ¬ DigS s := fun h => hd (by have := h p hlt; omega)
    obtain ⟨hr1, hr2⟩ : r1 = 0 ∧ r2 = false := by
     rcases HOK.out with h | h
     ·exact absurd h.1 hND
     ·exact h.2
    subst hr1 hr2
    obtain ⟨R, hR⟩ : ∃ R : Nat, R = (Utf8.decode s p).1 := ⟨_, rfl⟩
    have hR2 : R < 48 ∨ ¬ R < 48 ∧ 57 < R := by
     by_cases h128 : c < 128
     ·have h1 := decode_ascii s p hlt (by omega)
      rw [h1] at hR
      simp only at hR
      omega
     ·have h1 := (decode_high s p hlt (by omega)).1
      omega
    have hnx : ∀ ty, (Instr.next (.pointer (some ⟨k, 0, none⟩)) true ty).run Tryz.prog wr = _ := fun ty => Lib.run_next_any_at wr k s p ty qk hlt
    rw [← hR] at hnx
    obtain ⟨V, hV⟩ : ∃ V, V = wr.iterAt k s (p + (Utf8.decode s p).2) := ⟨_, rfl⟩
    rw [← hV] at hnx
    obtain ⟨_, _, _, q2, hbw⟩ := step V _ hV
    clear step hV qk r5 r4 r2' hbel hc HOK hd hND hR
    have z2 := (Array.getElem?_eq_some_iff.1 q2).1
    rcases hR2 with h48 | ⟨h48, h57⟩
    ·have d1 : decide ((R : Int) < 48) = true := decide_eq_true (by omega)
     go_upto_region 7 with fail
     have eW := World.row_self V _ _ _ q2
     rw [← eW]
     clear eW
     go_wp2_with fail
     refine bodyPost_ret (by simp [results, Tryz.results128, go_sem, z2]; rfl) rfl ?_
     exact ⟨rfl, by (repeat' (first | (with_reducible first | exact Below.refl _ _ | assumption | refine Below.plus0 ?_ _ | refine Below.row ?_ ?_ _ _ | refine Below.alloc0 ?_ _ | refine Below.plus ?_ ?_ _ | refine Below.alloc ?_ ?_ _ | refine Below.drew ?_ | refine Below.drewN ?_ _) | (simp [go_sem]; done) | (simp [go_sem]; omega)))⟩
    ·have d1 : decide ((R : Int) < 48) = false := decide_eq_false (by omega)
     have d2 : decide ((57 : Int) < (R : Int)) = true := decide_eq_true (by omega)
     go_upto_region 7 with fail
     have eW := World.row_self V _ _ _ q2
     rw [← eW]
     clear eW
     go_wp2_with fail
     refine bodyPost_ret (by simp [results, Tryz.results128, go_sem, z2]; rfl) rfl ?_
     exact ⟨rfl, by (repeat' (first | (with_reducible first | exact Below.refl _ _ | assumption | refine Below.plus0 ?_ _ | refine Below.row ?_ ?_ _ _ | refine Below.alloc0 ?_ _ | refine Below.plus ?_ ?_ _ | refine Below.alloc ?_ ?_ _ | refine Below.drew ?_ | refine Below.drewN ?_ _) | (simp [go_sem]; done) | (simp [go_sem]; omega)))⟩
  ·have ep : p = s.size := by omega
   have hDS : DigS s := fun i h => HP.out i h (by omega)
   obtain ⟨hr1, hr2⟩ : r1 = (pv s s.size : Nat) ∧ r2 = decide (0 < s.size) := by
    rcases HOK.out with h | h
    ·exact h.2
    ·exact absurd hDS h.1
   have hr3 : r2 = !s.toList.isEmpty := by rw [hr2, isEmpty_size]; by_cases h : s.size = 0 <;> simp [h] <;> omega
   have hnx : ∀ ty, (Instr.next (.pointer (some ⟨k, 0, none⟩)) true ty).run Tryz.prog wr = _ := fun ty => Lib.run_next_end_at wr k s p ty qk hlt
   obtain ⟨X, hX⟩ : ∃ z : Nat, z = pv s p := ⟨_, rfl⟩
   rw [← hX] at r4
   have HR1 : Hid (r1 = (X : Int)) := Lib.hid (by rw [hr1, hX, ep])
   have HR3 := Lib.hid hr3
   have c40 := (cell_at (i := 0) r4).trans rfl
   have c41 := (cell_at (i := 1) r4).trans rfl
   have z2 := (Array.getElem?_eq_some_iff.1 r2').1
   have z4 := (Array.getElem?_eq_some_iff.1 r4).1
   clear hr1 hr2 hr3 HOK hX ep hDS r5 qk
   cases hbe : s.toList.isEmpty
   ·have HBE := Lib.hid hbe
    go_upto_region 9 with fail
    have eW := World.row_self wr _ _ _ r2'
    rw [← eW]
    clear eW
    go_wp2_with fail
    refine bodyPost_ret (by simp [results, Tryz.results128, go_sem, z2]; rfl) rfl ?_
    exact ⟨by rw [HR1.out, HR3.out, HBE.out]; rfl, by (repeat' (first | (with_reducible first | exact Below.refl _ _ | assumption | refine Below.plus0 ?_ _ | refine Below.row ?_ ?_ _ _ | refine Below.alloc0 ?_ _ | refine Below.plus ?_ ?_ _ | refine Below.alloc ?_ ?_ _ | refine Below.drew ?_ | refine Below.drewN ?_ _) | (simp [go_sem]; done) | (simp [go_sem]; omega)))⟩
   ·have HBE := Lib.hid hbe
    go_upto_region 9 with fail
    have eW := World.row_self wr _ _ _ r2'
    rw [← eW]
    clear eW
    go_wp2_with fail
    refine bodyPost_ret (by simp [results, Tryz.results128, go_sem, z2]; rfl) rfl ?_
    exact ⟨by rw [HR1.out, HR3.out, HBE.out]; rfl, by (repeat' (first | (with_reducible first | exact Below.refl _ _ | assumption | refine Below.plus0 ?_ _ | refine Below.row ?_ ?_ _ _ | refine Below.alloc0 ?_ _ | refine Below.plus ?_ ?_ _ | refine Below.alloc ?_ ?_ _ | refine Below.drew ?_ | refine Below.drewN ?_ _) | (simp [go_sem]; done) | (simp [go_sem]; omega)))⟩
theorem cut1_no (s : ByteArray) (h : Lib.indexByte s.data.toList 47 = -1) (w : World) : Calls Tryz.prog 127 #[.string s, .string ⟨#[47]⟩] w fun e w' => e = .returned (.tuple #[.string s, .string ⟨#[]⟩, .bool false]) ∧ Below w.heap.size w w' := by
 have h1 : Hid (∀ w, Calls Tryz.prog 169 #[.string s, .string ⟨#[47]⟩] w fun e w' => e = .returned (.tuple #[.string s, .string ⟨#[]⟩, .bool false]) ∧ Below w.heap.size w w') := Lib.hid fun w => by
  have h2 : Hid (∀ w, Calls Tryz.prog 188 #[.string s, .string ⟨#[47]⟩] w fun e w' => e = .returned (.int .i64 (-1)) ∧ w = w') := Lib.hid fun w => (Tryz.stringslite_Index_one s 47 w).mono fun e w' hh => ⟨by rw [hh.1, h], hh.2.symm⟩
  clear h
  go_enter Tryz.func169, Tryz.ntmps169
  go_wp2_with fail
  go_at_call 188; refine (h2.out _).mono ?_
  rintro e w' ⟨rfl, rfl⟩
  go_wp2_with fail
  go_ret3
  exact ⟨rfl, by (repeat' (first | (with_reducible first | exact Below.refl _ _ | assumption | refine Below.plus0 ?_ _ | refine Below.alloc0 ?_ _ | refine Below.plus ?_ ?_ _ | refine Below.alloc ?_ ?_ _ | refine Below.drew ?_ | refine Below.drewN ?_ _) | (simp [go_sem]; done) | (simp [go_sem]; omega)))⟩
 clear h
 go_enter Tryz.func127, Tryz.ntmps127
 go_wp2_with fail
 (go_wp2_with fail; refine (h1.out _).mono ?_; rintro e w' ⟨rfl, hb⟩; (first | (with_reducible (have hb2 := World.plus_of_below ((World.below_plus _ _).trans (hb.mono (World.size_plus _ _)))); obtain ⟨u, rfl⟩ := hb2) | (obtain ⟨u, rfl⟩ := World.plus_of_below hb)); clear hb)
 go_wp2_with fail
 go_ret3
 exact ⟨rfl, by (repeat' (first | (with_reducible first | exact Below.refl _ _ | assumption | refine Below.plus0 ?_ _ | refine Below.alloc0 ?_ _ | refine Below.plus ?_ ?_ _ | refine Below.alloc ?_ ?_ _ | refine Below.drew ?_ | refine Below.drewN ?_ _) | (simp [go_sem]; done) | (simp [go_sem]; omega)))⟩
theorem cut1_yes (s : ByteArray) (i : Nat) (h : Lib.indexByte s.data.toList 47 = (i : Int)) (hi : i < s.size) (hs : s.size ≤ 4294967296) (w : World) : Calls Tryz.prog 127 #[.string s, .string ⟨#[47]⟩] w fun e w' => e = .returned (.tuple #[.string (s.extract 0 i), .string (s.extract (i + 1) s.size), .bool true]) ∧ Below w.heap.size w w' := by
 have h1 : Hid (∀ w, Calls Tryz.prog 169 #[.string s, .string ⟨#[47]⟩] w fun e w' => e = .returned (.tuple #[.string (s.extract 0 i), .string (s.extract (i + 1) s.size), .bool true]) ∧ Below w.heap.size w w') := Lib.hid fun w => by
  have h2 : Hid (∀ w, Calls Tryz.prog 188 #[.string s, .string ⟨#[47]⟩] w fun e w' => e = .returned (.int .i64 (i : Int)) ∧ w = w') := Lib.hid fun w => (Tryz.stringslite_Index_one s 47 w).mono fun e w' hh => ⟨by rw [hh.1, h], hh.2.symm⟩
  have hw : wrap64 ((i : Int) + 1) = ((i + 1 : Nat) : Int) := by unfold wrap64; omega
  have hle : i + 1 ≤ s.size := by omega
  have hle2 : i ≤ s.size := by omega
  have hd : decide ((0 : Int) ≤ (i : Int)) = true := decide_eq_true (by omega)
  have HW := Lib.hid hw
  clear h hw
  go_enter Tryz.func169, Tryz.ntmps169
  go_wp2_with fail
  go_at_call 188; refine (h2.out _).mono ?_
  rintro e w' ⟨rfl, rfl⟩
  go_upto_region 3 with fail
  (refine wp_region_exact (by kernel_rfl) (by kernel_rfl) ?_; repeat go_big_quiet_step (fail)); (refine wpQuiet_nil ?_; rintro _ rfl)
  go_wp2_with fail
  go_ret3
  exact ⟨rfl, by (repeat' (first | (with_reducible first | exact Below.refl _ _ | assumption | refine Below.plus0 ?_ _ | refine Below.alloc0 ?_ _ | refine Below.plus ?_ ?_ _ | refine Below.alloc ?_ ?_ _ | refine Below.drew ?_ | refine Below.drewN ?_ _) | (simp [go_sem]; done) | (simp [go_sem]; omega)))⟩
 clear h
 go_enter Tryz.func127, Tryz.ntmps127
 go_wp2_with fail
 (go_wp2_with fail; refine (h1.out _).mono ?_; rintro e w' ⟨rfl, hb⟩; (first | (with_reducible (have hb2 := World.plus_of_below ((World.below_plus _ _).trans (hb.mono (World.size_plus _ _)))); obtain ⟨u, rfl⟩ := hb2) | (obtain ⟨u, rfl⟩ := World.plus_of_below hb)); clear hb)
 go_wp2_with fail
 go_ret3
 exact ⟨rfl, by (repeat' (first | (with_reducible first | exact Below.refl _ _ | assumption | refine Below.plus0 ?_ _ | refine Below.alloc0 ?_ _ | refine Below.plus ?_ ?_ _ | refine Below.alloc ?_ ?_ _ | refine Below.drew ?_ | refine Below.drewN ?_ _) | (simp [go_sem]; done) | (simp [go_sem]; omega)))⟩
end Go.Proofs.YthdaimoankaciaaGreatDoor

end
section
/- What chapter 2's laws share: valid, den, short; Print. -/
set_option linter.unusedSimpArgs false
set_option linter.unusedVariables false
namespace Go.Proofs.YthdaimoankaciaaGreatDoor
open Go Go.RowKit Go.Sy
open Vi
theorem printS_size (x : Int) (h : (mg x).size ≤ 1048576) : (printS x).size ≤ 4194304 := by
 have h1 : (decS x.natAbs).length ≤ 3 * 1048576 := decS_len _ _ h
 unfold printS
 split
 ·decide
 ·split
  ·show (45 :: decS x.natAbs).length ≤ _
   rw [List.length_cons]; omega
  ·show (decS x.natAbs).length ≤ _
   omega
theorem iPrint (x : Int) (h : (mg x).size ≤ 1048576) : Sp Tryz.prog 125 [] [iV x] (.string (printS x)) [] := Sp.of (fun xs w => Tryz.call125 xs w) (by kernel_rfl) (by kernel_rfl) (fun w => Print_c x w h)
def printQ (p : Rat) : ByteArray := if dn p = 0 then printS p.num else printS p.num ++ ⟨#[47]⟩ ++ printS (dn p)
theorem pPrint (p : Rat) (hp : Fits p) : Sp Tryz.prog 75 [] [rV p] (.string (printQ p)) [] := by
 have s1 := hp.mn
 have s2 := hp.md
 have h1 := iPrint p.num (by omega)
 have h2 := iPrint (dn p) (by omega)
 have z1 := printS_size p.num (by omega)
 have z2 := printS_size (dn p) (by omega)
 unfold printQ
 by_cases h : dn p = 0
 ·rw [if_pos h]
  exact walk (code := Tryz.f75.body.getD .skip) [x2 (binI0 (dn p) (b := true) (by rw [h]; rfl)), c h1] fol Tryz.func75 (by kernel_rfl) (fun xs w => Tryz.call75 xs w) (by kernel_rfl)
 ·rw [if_neg h]
  exact walk (code := Tryz.f75.body.getD .skip) [x2 (binI0 (dn p) (b := false) (by simpa using h)), c h1, x2 (bin_cat (printS p.num) ⟨#[47]⟩ (by show (printS p.num).size + 1 ≤ _; omega)), c h2, x2 (bin_cat (printS p.num ++ ⟨#[47]⟩) (printS (dn p)) (by rw [ByteArray.size_append]; show (printS p.num).size + 1 + _ ≤ _; omega))] fol Tryz.func75 (by kernel_rfl) (fun xs w => Tryz.call75 xs w) (by kernel_rfl)
end Go.Proofs.YthdaimoankaciaaGreatDoor
set_option linter.unusedSimpArgs false
set_option linter.unusedVariables false
namespace Go.Proofs.YthdaimoankaciaaGreatDoor
open Go Go.RowKit Go.Sy
open Vi
def qneg (s : ByteArray) : Bool := Lib.hasPrefix s.data.toList [45]
def qrest (s : ByteArray) : ByteArray := ⟨(Lib.trimPrefix s.data.toList [45]).toArray⟩
def cutI (T : ByteArray) : Int := Lib.indexByte T.data.toList 47
def cutA (T : ByteArray) : ByteArray := if cutI T = -1 then T else T.extract 0 (cutI T).toNat
def cutB (T : ByteArray) : ByteArray := if cutI T = -1 then ⟨#[]⟩ else T.extract ((cutI T).toNat + 1) T.size
def cutH (T : ByteArray) : Bool := decide (cutI T ≠ -1)
def okD (s : ByteArray) : Bool := s.data.toList.all isD && decide (0 < s.size)
def parseQ (s : ByteArray) : Rat × Int :=
 if 4096 < s.size then (0, 28) else
 if !(okD (cutA (qrest s))) || (cutH (qrest s) && !(okD (cutB (qrest s)))) then (0, 15) else
 if (if cutH (qrest s) then pv (cutB (qrest s)) (cutB (qrest s)).size else 1) = 0 then (0, 6) else
 (Rat.divInt (if qneg s then -((pv (cutA (qrest s)) (cutA (qrest s)).size : Nat) : Int) else (pv (cutA (qrest s)) (cutA (qrest s)).size : Nat)) ((if cutH (qrest s) then pv (cutB (qrest s)) (cutB (qrest s)).size else 1 : Nat) : Int), 0)
theorem digS_iff (s : ByteArray) : DigS s ↔ s.data.toList.all isD = true := by
 rw [List.all_eq_true]
 unfold DigS
 constructor
 ·intro h b hb
  obtain ⟨i, hi, rfl⟩ := List.getElem_of_mem hb
  have hi2 : i < s.size := by simpa using hi
  have := h i hi2
  unfold isD
  simp only [Bool.and_eq_true, decide_eq_true_eq]
  exact this
 ·intro h i hi
  have h1 := h (s[i]'hi) (by
   have : s.data.toList[i]'(by simpa using hi) = s[i]'hi := rfl
   rw [← this]; exact List.getElem_mem _)
  unfold isD at h1
  simpa using h1
theorem trim_len (l p : List UInt8) : (Lib.trimPrefix l p).length ≤ l.length := by
 unfold Lib.trimPrefix
 split <;> simp
theorem qrest_size (s : ByteArray) : (qrest s).size ≤ s.size := by
 have h := trim_len s.data.toList [45]
 show (Lib.trimPrefix s.data.toList [45]).toArray.size ≤ s.data.size
 simpa using h
theorem cutI_lt (T : ByteArray) : cutI T ≠ -1 → ∃ i : Nat, cutI T = (i : Int) ∧ i < T.size := by
 intro h
 have h1 := Lib.indexByte_ge T.data.toList 47
 have e : cutI T = Lib.indexByte T.data.toList 47 := rfl
 refine ⟨(cutI T).toNat, by omega, ?_⟩
 have h2 := Lib.indexByte_some (l := T.data.toList) (c := 47) (o := (cutI T).toNat) (by rw [← e]; omega)
 have h3 := (List.getElem?_eq_some_iff.1 h2.1).1
 simpa using h3
theorem cutA_size (T : ByteArray) : (cutA T).size ≤ T.size := by
 unfold cutA
 split
 ·exact Nat.le_refl _
 ·rw [ByteArray.size_extract]; omega
theorem cutB_size (T : ByteArray) : (cutB T).size ≤ T.size := by
 unfold cutB
 split
 ·exact Nat.zero_le _
 ·rw [ByteArray.size_extract]; omega
theorem Cut_c (T : ByteArray) (hT : T.size ≤ 4294967296) (w : World) : Calls Tryz.prog 127 #[.string T, .string ⟨#[47]⟩] w fun e w' => e = .returned (.tuple #[.string (cutA T), .string (cutB T), .bool (cutH T)]) ∧ Below w.heap.size w w' := by
 unfold cutA cutB cutH
 by_cases h : cutI T = -1
 ·rw [if_pos h, if_pos h, decide_eq_false (by simpa using h)]
  exact cut1_no T h w
 ·rw [if_neg h, if_neg h, decide_eq_true h]
  obtain ⟨i, h1, h2⟩ := cutI_lt T h
  have e : (cutI T).toNat = i := by omega
  rw [e]
  exact cut1_yes T i h1 h2 hT w
def dvl (s : ByteArray) : Int := if s.data.toList.all isD then ((pv s s.size : Nat) : Int) else 0
theorem qDigits_c2 (s : ByteArray) (hs : s.size ≤ 4096) (w : World) : Calls Tryz.prog 128 #[.string s] w fun z w' => z = .returned (.tuple #[.agg #[.bool (sg (dvl s)), .string (mg (dvl s))], .bool (okD s)]) ∧ Below w.heap.size w w' := by
 refine qDigits_c s hs (dvl s) (okD s) ?_ w
 unfold dvl okD
 by_cases h : s.data.toList.all isD = true
 ·exact .inl ⟨(digS_iff s).2 h, by rw [if_pos h], by rw [h]; simp⟩
 ·exact .inr ⟨fun h2 => h ((digS_iff s).1 h2), by rw [if_neg h], by simp [h]⟩
theorem dvl_ok (s : ByteArray) (h : okD s = true) : dvl s = ((pv s s.size : Nat) : Int) := by
 unfold okD at h
 simp only [Bool.and_eq_true] at h
 unfold dvl
 rw [if_pos h.1]
theorem pv_size (s : ByteArray) (h : okD s = true) (hs : s.size ≤ 4096) : (mg ((pv s s.size : Nat) : Int)).size ≤ 4096 := by
 unfold okD at h
 simp only [Bool.and_eq_true] at h
 have hd := (digS_iff s).2 h.1
 rw [mg_nat]
 refine Nat.le_trans (size_mag_le _ s.size (Nat.lt_of_lt_of_le (pv_lt s s.size (fun i hi => ?_)) (Nat.pow_le_pow_left (by decide : 10 ≤ 256) s.size))) hs
 have h1 := hd i hi
 exact (dgt_le s i hi (by unfold isD; simp; omega)).1
theorem pDigits (s : ByteArray) (hs : s.size ≤ 4096) : Sp Tryz.prog 128 [] [.string s] (.tuple #[iV (dvl s), .bool (okD s)]) [] := Sp.of (fun xs w => Tryz.call128 xs w) (by kernel_rfl) (by kernel_rfl) (fun w => qDigits_c2 s hs w)
theorem lCut (T : ByteArray) (hT : T.size ≤ 4294967296) : Sp Tryz.prog 127 [] [.string T, .string ⟨#[47]⟩] (.tuple #[.string (cutA T), .string (cutB T), .bool (cutH T)]) [] := Sp.of (fun xs w => Tryz.call127 xs w) (by kernel_rfl) (by kernel_rfl) (fun w => Cut_c T hT w)
theorem lCutPrefix (s : ByteArray) : Sp Tryz.prog 126 [] [.string s, .string ⟨#[45]⟩] (.tuple #[.string (qrest s), .bool (qneg s)]) [] := Sp.of (fun xs w => Tryz.call126 xs w) (by kernel_rfl) (by kernel_rfl) (fun w => (Tryz.strings_CutPrefix s ⟨#[45]⟩ w).mono fun e w' h => ⟨h.1, by rw [h.2]; exact Below.refl _ _⟩)
theorem pMakeN (n : Int) (d : Nat) (hn : (mg n).size ≤ 5000) (hd : (mg (d : Int)).size ≤ 5000) : Sp Tryz.prog 118 [] [iV n, iV d] (.tuple #[rV (if d = 0 then (0, 6) else (Rat.divInt n d, 0) : Rat × Int).1, nV (if d = 0 then (0, 6) else (Rat.divInt n d, 0) : Rat × Int).2]) [] := by
 by_cases h : d = 0
 ·subst h
  simp only [if_true]
  rw [rV0]
  exact pMake0 n
 ·rw [if_neg h]
  exact pMake n d (by omega) (by omega) (by omega)
theorem neg_size (n : Nat) : (mg (-(n : Int))).size = (mg (n : Int)).size := by rw [mg_nd, mg_nd, Int.natAbs_neg]
theorem pParse (s : ByteArray) : Sp Tryz.prog 76 [] [.string s] (.tuple #[rV (parseQ s).1, nV (parseQ s).2]) [] := by
 unfold parseQ
 by_cases hl : 4096 < s.size
 ·rw [if_pos hl, rV0]
  have l2 : decide ((s.size : Int) > 4096) = true := decide_eq_true (by omega)
  exact walk (code := Tryz.f76.body.getD .skip) [L, eb l2] fol Tryz.func76 (by kernel_rfl) (fun xs w => Tryz.call76 xs w) (by kernel_rfl)
 ·rw [if_neg hl]
  have l2 : decide ((s.size : Int) > 4096) = false := decide_eq_false (by omega)
  have hT := qrest_size s
  have H1 := lCutPrefix s
  obtain ⟨T, eT⟩ : ∃ T, T = qrest s := ⟨_, rfl⟩
  rw [← eT] at hT H1 ⊢
  have hA := cutA_size T
  have hB := cutB_size T
  have H2 := lCut T (by omega)
  have H3 := pDigits (cutA T) (by omega)
  have H4 := pOne
  have H5 := pDigits (cutB T) (by omega)
  have one5 : (mg ((1 : Nat) : Int)).size ≤ 5000 := by rw [mg_nd, show ((1 : Nat) : Int).natAbs = 1 from rfl, nd_small 1 (by omega) (by omega)]; omega
  cases e1 : okD (cutA T) <;> rw [e1] at H3
  ·simp only [Bool.not_false, Bool.true_or, if_true]
   rw [rV0]
   cases e2 : cutH T <;> rw [e2] at H2
   ·exact walk (code := Tryz.f76.body.getD .skip) [L, eb l2, c H1, c H2, c H3, c H4] fol Tryz.func76 (by kernel_rfl) (fun xs w => Tryz.call76 xs w) (by kernel_rfl)
   ·cases e4 : okD (cutB T) <;> rw [e4] at H5 <;> exact walk (code := Tryz.f76.body.getD .skip) [L, eb l2, c H1, c H2, c H3, c H4, c H5] fol Tryz.func76 (by kernel_rfl) (fun xs w => Tryz.call76 xs w) (by kernel_rfl)
  ·have v1 := dvl_ok _ e1
   have z1 := pv_size _ e1 (by omega)
   rw [v1] at H3
   obtain ⟨N, hN⟩ : ∃ D, D = pv (cutA T) (cutA T).size := ⟨_, rfl⟩
   rw [← hN] at H3 z1 ⊢
   have z1' : (mg (-(N : Int))).size ≤ 5000 := by rw [neg_size]; omega
   cases e2 : cutH T <;> rw [e2] at H2
   ·simp only [Bool.not_true, Bool.false_or, Bool.false_and, Bool.false_eq_true, if_false]
    cases e3 : qneg s <;> rw [e3] at H1
    ·exact walk (code := Tryz.f76.body.getD .skip) [L, eb l2, c H1, c H2, c H3, c H4, c (pMakeN N 1 (by omega) one5)] fol Tryz.func76 (by kernel_rfl) (fun xs w => Tryz.call76 xs w) (by kernel_rfl)
    ·exact walk (code := Tryz.f76.body.getD .skip) [L, eb l2, c H1, c H2, c H3, c H4, c (iNegate N), c (pMakeN (-(N : Int)) 1 z1' one5)] fol Tryz.func76 (by kernel_rfl) (fun xs w => Tryz.call76 xs w) (by kernel_rfl)
   ·cases e4 : okD (cutB T) <;> rw [e4] at H5
    ·simp only [Bool.not_true, Bool.false_or, Bool.not_false, Bool.and_true, if_true]
     rw [rV0]
     exact walk (code := Tryz.f76.body.getD .skip) [L, eb l2, c H1, c H2, c H3, c H4, c H5] fol Tryz.func76 (by kernel_rfl) (fun xs w => Tryz.call76 xs w) (by kernel_rfl)
    ·have v2 := dvl_ok _ e4
     have z2 := pv_size _ e4 (by omega)
     rw [v2] at H5
     simp only [Bool.not_true, Bool.false_or, Bool.and_false, if_true, Bool.false_eq_true, if_false]
     obtain ⟨D, hD⟩ : ∃ D, D = pv (cutB T) (cutB T).size := ⟨_, rfl⟩
     rw [← hD] at H5 z2 ⊢
     cases e3 : qneg s <;> rw [e3] at H1
     ·exact walk (code := Tryz.f76.body.getD .skip) [L, eb l2, c H1, c H2, c H3, c H4, c H5, c (pMakeN N D (by omega) (by omega))] fol Tryz.func76 (by kernel_rfl) (fun xs w => Tryz.call76 xs w) (by kernel_rfl)
     ·exact walk (code := Tryz.f76.body.getD .skip) [L, eb l2, c H1, c H2, c H3, c H4, c H5, c (iNegate N), c (pMakeN (-(N : Int)) D z1' (by omega))] fol Tryz.func76 (by kernel_rfl) (fun xs w => Tryz.call76 xs w) (by kernel_rfl)
end Go.Proofs.YthdaimoankaciaaGreatDoor
set_option linter.unusedSimpArgs false
set_option linter.unusedVariables false
namespace Go.Proofs.YthdaimoankaciaaGreatDoor
open Go Go.RowKit Go.Sy
open Vi
end Go.Proofs.YthdaimoankaciaaGreatDoor

end
section
/- No program in sight: what is printed of a fraction is read as this fraction. -/
set_option linter.unusedSimpArgs false
set_option linter.unusedVariables false
namespace Go.Proofs.YthdaimoankaciaaGreatDoor
open Go Go.RowKit Go.Sy
open Vi
theorem cv_congr2 {s t : ByteArray} {k : Nat} : ∀ n, (∀ i, i < n → dgt s (k + i) = dgt t (k + i)) → cv s k n = cv t k n
 | 0, _ => rfl
 | n + 1, h => by rw [cv, cv, cv_congr2 n fun i hi => h i (by omega), h n (by omega)]
theorem pv_snoc2 (l : List UInt8) (b : UInt8) : pv ⟨(l ++ [b]).toArray⟩ (l.length + 1) = pv ⟨l.toArray⟩ l.length * 10 + (b.toNat - 48) := by
 rw [pv_succ]
 have h1 : pv ⟨(l ++ [b]).toArray⟩ l.length = pv ⟨l.toArray⟩ l.length := cv_congr2 l.length fun i hi => by
  unfold dgt
  show ((l ++ [b]).getD (0 + i) 0).toNat - 48 = (l.getD (0 + i) 0).toNat - 48
  rw [List.getD_eq_getElem?_getD, List.getD_eq_getElem?_getD, List.getElem?_append_left (by omega)]
 have h2 : dgt ⟨(l ++ [b]).toArray⟩ l.length = b.toNat - 48 := by
  unfold dgt
  show ((l ++ [b]).getD l.length 0).toNat - 48 = _
  rw [List.getD_eq_getElem?_getD, List.getElem?_append_right (Nat.le_refl _), Nat.sub_self]
  rfl
 rw [h1, h2]
theorem dig_byte2 (d : Nat) (h : d < 10) : (UInt8.ofNat (48 + d)).toNat = 48 + d := by
 rw [UInt8.toNat_ofNat']; omega
theorem pv_decS2 (n : Nat) : pv ⟨(decS n).toArray⟩ (decS n).length = n := by
 induction n using Nat.strongRecOn with
 | _ n ih =>
  by_cases h : n = 0
  ·subst h; rfl
  ·rw [decS_pos n (by omega), List.length_append, List.length_singleton, pv_snoc2, ih (n / 10) (by omega), dig_byte2 _ (by omega)]
   omega
theorem all_decS (n : Nat) : (decS n).all isD = true := by
 rw [List.all_eq_true]
 intro b hb
 unfold decS at hb
 rw [List.mem_reverse, List.mem_map] at hb
 obtain ⟨d, hd, rfl⟩ := hb
 have h10 := dig_lt 10 (by omega) n d hd
 unfold isD
 rw [dig_byte2 d h10]
 simp; omega
def dqL (X : Nat) : List UInt8 := if X = 0 then [48] else decS X
theorem dqL_all (X : Nat) : (dqL X).all isD = true := by
 unfold dqL; split
 ·decide
 ·exact all_decS X
theorem dqL_ne (X : Nat) : 0 < (dqL X).length := by
 unfold dqL; split
 ·decide
 ·rw [decS_pos X (by omega), List.length_append]; show 0 < _ + 1; omega
theorem dqL_pv (X : Nat) : pv ⟨(dqL X).toArray⟩ (dqL X).length = X := by
 unfold dqL; split
 ·rename_i h; rw [h]; decide
 ·exact pv_decS2 X
theorem isD_ne {b : UInt8} (h : isD b = true) (c : UInt8) (hc : c.toNat < 48) : b ≠ c := by
 rintro rfl
 unfold isD at h
 simp at h
 omega
def prL (p : Rat) : List UInt8 := (if p.num < 0 then [45] else []) ++ dqL p.num.natAbs ++ (if dn p = 0 then [] else 47 :: dqL (dn p).natAbs)
theorem printS_list (z : Int) : printS z = ⟨((if z < 0 then [45] else []) ++ dqL z.natAbs).toArray⟩ := by
 unfold printS dqL
 by_cases h0 : z = 0
 ·subst h0; rfl
 ·have ha : ¬ z.natAbs = 0 := by omega
  rw [if_neg h0, if_neg ha]
  by_cases hn : z < 0
  ·rw [if_pos hn, if_pos hn]; rfl
  ·rw [if_neg hn, if_neg hn]; rfl
theorem app_mk (a b : List UInt8) : (⟨a.toArray⟩ : ByteArray) ++ ⟨b.toArray⟩ = ⟨(a ++ b).toArray⟩ := by
 apply ByteArray.ext
 rw [ByteArray.data_append]
 simp
theorem printQ_list (p : Rat) : printQ p = ⟨(prL p).toArray⟩ := by
 unfold printQ prL
 by_cases h : dn p = 0
 ·rw [if_pos h, if_pos h, printS_list, List.append_nil]
 ·have := dn_nonneg p
  rw [if_neg h, if_neg h, printS_list, printS_list, if_neg (show ¬ dn p < 0 by omega)]
  rw [show (⟨#[47]⟩ : ByteArray) = ⟨([47] : List UInt8).toArray⟩ from rfl, app_mk, app_mk]
  simp
theorem indexByte_no {l : List UInt8} {c : UInt8} (h : ∀ b ∈ l, b ≠ c) : Lib.indexByte l c = -1 := by
 induction l with
 | nil => rfl
 | cons a l ih =>
  unfold Lib.indexByte
  rw [ih fun b hb => h b (List.mem_cons_of_mem _ hb)]
  have : (a == c) = false := by simpa using h a List.mem_cons_self
  rw [this]; rfl
theorem indexByte_app {l : List UInt8} {c : UInt8} (h : ∀ b ∈ l, b ≠ c) (r : List UInt8) : Lib.indexByte (l ++ c :: r) c = l.length := by
 induction l with
 | nil => show Lib.indexByte (c :: r) c = 0; unfold Lib.indexByte; simp
 | cons a l ih =>
  show Lib.indexByte (a :: (l ++ c :: r)) c = _
  unfold Lib.indexByte
  rw [ih fun b hb => h b (List.mem_cons_of_mem _ hb)]
  have : (a == c) = false := by simpa using h a List.mem_cons_self
  rw [this]
  have e : ((l.length : Int) == -1) = false := by rw [beq_eq_false_iff_ne]; omega
  simp [e]
theorem okD_list {l : List UInt8} (h : l.all isD = true) (h0 : 0 < l.length) : okD ⟨l.toArray⟩ = true := by
 unfold okD
 show (l.all isD && decide (0 < l.length)) = true
 rw [h, decide_eq_true h0]; rfl
theorem qneg_yes (l : List UInt8) : qneg ⟨(45 :: l).toArray⟩ = true ∧ qrest ⟨(45 :: l).toArray⟩ = ⟨l.toArray⟩ := by
 have h : Lib.hasPrefix (45 :: l) [45] = true := by simp [Lib.hasPrefix]
 refine ⟨h, ?_⟩
 unfold qrest Lib.trimPrefix
 show (⟨(if Lib.hasPrefix (45 :: l) [45] then (45 :: l).drop 1 else 45 :: l).toArray⟩ : ByteArray) = _
 rw [h]; rfl
theorem qneg_no {l : List UInt8} (h0 : l.head? ≠ some 45) : qneg ⟨l.toArray⟩ = false ∧ qrest ⟨l.toArray⟩ = ⟨l.toArray⟩ := by
 have h : Lib.hasPrefix l [45] = false := by
  cases l with
  | nil => rfl
  | cons a l =>
   have : a ≠ 45 := fun e => h0 (by rw [e]; rfl)
   show ((45 : UInt8) == a && ([] : List UInt8).isPrefixOf l) = false
   rw [show ((45 : UInt8) == a) = false by simpa using this.symm]; rfl
 refine ⟨h, ?_⟩
 unfold qrest Lib.trimPrefix
 show (⟨(if Lib.hasPrefix l [45] then l.drop 1 else l).toArray⟩ : ByteArray) = _
 rw [h]; rfl
theorem cut_no {a : List UInt8} (ha : a.all isD = true) : cutH ⟨a.toArray⟩ = false ∧ cutA ⟨a.toArray⟩ = ⟨a.toArray⟩ := by
 have h : cutI ⟨a.toArray⟩ = -1 := indexByte_no fun b hb => isD_ne (List.all_eq_true.1 ha b hb) 47 (by decide)
 unfold cutH cutA
 rw [h]
 exact ⟨by decide, if_pos rfl⟩
theorem cut_yes {a : List UInt8} (ha : a.all isD = true) (b : List UInt8) : cutH ⟨(a ++ 47 :: b).toArray⟩ = true ∧ cutA ⟨(a ++ 47 :: b).toArray⟩ = ⟨a.toArray⟩ ∧ cutB ⟨(a ++ 47 :: b).toArray⟩ = ⟨b.toArray⟩ := by
 have h : cutI ⟨(a ++ 47 :: b).toArray⟩ = a.length := indexByte_app (fun b hb => isD_ne (List.all_eq_true.1 ha b hb) 47 (by decide)) b
 have hne : ¬ (a.length : Int) = -1 := by omega
 unfold cutH cutA cutB
 rw [h, if_neg hne, if_neg hne]
 refine ⟨by simp, ?_, ?_⟩
 ·rw [Lib.extract_mk]
  simp
 ·rw [Lib.extract_mk]
  have e : (⟨(a ++ 47 :: b).toArray⟩ : ByteArray).size = a.length + 1 + b.length := by
   show (a ++ 47 :: b).length = _
   rw [List.length_append, List.length_cons]; omega
  rw [e]
  simp only [Int.toNat_natCast]
  congr 2
  rw [List.take_of_length_le (by rw [List.length_drop, List.length_append, List.length_cons]; omega), List.drop_append]
  simp
theorem parse_print (p : Rat) (hl : (printQ p).size ≤ 4096) : parseQ (printQ p) = (p, 0) := by
 have ha := dqL_all p.num.natAbs
 have hn := dqL_ne p.num.natAbs
 have hv := dqL_pv p.num.natAbs
 have hb := dqL_all (dn p).natAbs
 have hm := dqL_ne (dn p).natAbs
 have hw := dqL_pv (dn p).natAbs
 have hd := dn_nonneg p
 obtain ⟨t, ht⟩ : ∃ t, t = dqL p.num.natAbs ++ (if dn p = 0 then [] else 47 :: dqL (dn p).natAbs) := ⟨_, rfl⟩
 have hq : qneg (printQ p) = decide (p.num < 0) ∧ qrest (printQ p) = ⟨t.toArray⟩ := by
  rw [printQ_list]
  unfold prL
  rw [List.append_assoc, ← ht]
  by_cases h : p.num < 0
  ·rw [if_pos h, decide_eq_true h]; exact qneg_yes t
  ·rw [if_neg h, decide_eq_false h]
   refine qneg_no ?_
   show t.head? ≠ some 45
   rw [ht]
   generalize dqL p.num.natAbs = a at *
   cases a with
   | nil => simp at hn
   | cons x a =>
    have := isD_ne (List.all_eq_true.1 ha x List.mem_cons_self) 45 (by decide)
    simpa using this
 obtain ⟨q1, q2⟩ := hq
 have hc : okD (cutA ⟨t.toArray⟩) = true ∧ (cutA ⟨t.toArray⟩) = ⟨(dqL p.num.natAbs).toArray⟩ ∧ (cutH ⟨t.toArray⟩ = !decide (dn p = 0)) ∧ (dn p ≠ 0 → cutB ⟨t.toArray⟩ = ⟨(dqL (dn p).natAbs).toArray⟩) := by
  rw [ht]
  by_cases h : dn p = 0
  ·rw [if_pos h, List.append_nil, decide_eq_true h]
   obtain ⟨c1, c2⟩ := cut_no ha
   exact ⟨by rw [c2]; exact okD_list ha hn, c2, c1, fun h2 => absurd h h2⟩
  ·rw [if_neg h, decide_eq_false h]
   obtain ⟨c1, c2, c3⟩ := cut_yes ha (dqL (dn p).natAbs)
   exact ⟨by rw [c2]; exact okD_list ha hn, c2, c1, fun _ => c3⟩
 obtain ⟨c1, c2, c3, c4⟩ := hc
 unfold parseQ
 rw [if_neg (by omega), q1, q2, c1, c3]
 have nv : pv (cutA ⟨t.toArray⟩) (cutA ⟨t.toArray⟩).size = p.num.natAbs := by rw [c2]; exact hv
 rw [nv]
 have num : (if decide (p.num < 0) then -((p.num.natAbs : Nat) : Int) else ((p.num.natAbs : Nat) : Int)) = p.num := by
  by_cases h : p.num < 0
  ·rw [decide_eq_true h, if_pos rfl]; omega
  ·rw [decide_eq_false h, if_neg (by simp)]; omega
 rw [num]
 by_cases h : dn p = 0
 ·have h1 : p.den = 1 := by
    unfold dn at h
    split at h
    ·assumption
    ·have := p.den_nz; omega
  rw [decide_eq_true h]
  simp only [Bool.not_true, Bool.false_or, Bool.false_and, Bool.false_eq_true, if_false]
  rw [if_neg (by decide)]
  have := Rat.num_divInt_den p
  rw [h1] at this
  exact Prod.ext this rfl
 ·rw [decide_eq_false h, c4 h]
  have h1 : dn p = (p.den : Int) := by
   unfold dn
   split
   ·rename_i e; exact absurd (by unfold dn; rw [if_pos e]) h
   ·rfl
  have dv : pv ⟨(dqL (dn p).natAbs).toArray⟩ (⟨(dqL (dn p).natAbs).toArray⟩ : ByteArray).size = p.den := by
   have : pv ⟨(dqL (dn p).natAbs).toArray⟩ (⟨(dqL (dn p).natAbs).toArray⟩ : ByteArray).size = (dn p).natAbs := hw
   rw [this, h1]; rfl
  rw [okD_list hb hm, dv]
  simp only [Bool.not_true, Bool.not_false, Bool.false_or, Bool.and_false, Bool.false_eq_true, if_false, if_true]
  rw [if_neg p.den_nz]
  exact Prod.ext (Rat.num_divInt_den p) rfl
end Go.Proofs.YthdaimoankaciaaGreatDoor

end
section
/- No program in sight: the real numbers as far as they are wanted: Cauchy sequences of fractions, their order, square roots of fractions, and a checker of ring identities. -/
set_option linter.unusedSimpArgs false
set_option linter.unusedVariables false
namespace Vi
def Cau (f : Nat → Rat) : Prop := ∀ e : Rat, 0 < e → ∃ N, ∀ m, N ≤ m → ∀ n, N ≤ n → f m - f n < e
def Nul (f : Nat → Rat) : Prop := ∀ e : Rat, 0 < e → ∃ N, ∀ n, N ≤ n → f n < e ∧ -e < f n
def Pst (f : Nat → Rat) : Prop := ∃ d : Rat, 0 < d ∧ ∃ N, ∀ n, N ≤ n → d ≤ f n
def Bdd (f : Nat → Rat) : Prop := ∃ B : Rat, 0 < B ∧ ∃ N, ∀ n, N ≤ n → f n < B ∧ -B < f n
theorem half_pos {e : Rat} (h : 0 < e) : 0 < e / 2 := by grind
theorem Cau.bdd {f : Nat → Rat} (h : Cau f) : Bdd f := by
 obtain ⟨N, hN⟩ := h 1 (by decide)
 by_cases h0 : f N < 0
 ·refine ⟨1 - f N, by grind, N, fun n hn => ?_⟩
  have h1 := hN n hn N (Nat.le_refl _)
  have h2 := hN N (Nat.le_refl _) n hn
  constructor <;> grind
 ·refine ⟨1 + f N, by grind, N, fun n hn => ?_⟩
  have h1 := hN n hn N (Nat.le_refl _)
  have h2 := hN N (Nat.le_refl _) n hn
  constructor <;> grind
theorem mul_in {x y a b : Rat} (h1 : x < a) (h2 : -a < x) (h3 : y < b) (h4 : -b < y) : x * y < a * b ∧ -(a * b) < x * y := by
 have p1 : 0 < (a - x) * (b + y) := Rat.mul_pos (by grind) (by grind)
 have p2 : 0 < (a + x) * (b - y) := Rat.mul_pos (by grind) (by grind)
 have p3 : 0 < (a - x) * (b - y) := Rat.mul_pos (by grind) (by grind)
 have p4 : 0 < (a + x) * (b + y) := Rat.mul_pos (by grind) (by grind)
 constructor <;> grind
theorem Cau.const (q : Rat) : Cau fun _ => q := fun e he => ⟨0, fun _ _ _ _ => by grind⟩
theorem Cau.add {f g : Nat → Rat} (hf : Cau f) (hg : Cau g) : Cau fun n => f n + g n := fun e he => by
 obtain ⟨N, hN⟩ := hf (e / 2) (half_pos he)
 obtain ⟨M, hM⟩ := hg (e / 2) (half_pos he)
 refine ⟨N + M, fun m hm n hn => ?_⟩
 have h1 := hN m (by omega) n (by omega)
 have h2 := hM m (by omega) n (by omega)
 grind
theorem Cau.neg {f : Nat → Rat} (hf : Cau f) : Cau fun n => -f n := fun e he => by
 obtain ⟨N, hN⟩ := hf e he
 refine ⟨N, fun m hm n hn => ?_⟩
 have h1 := hN n hn m hm
 grind
theorem div_small {e B : Rat} (he : 0 < e) (hB : 0 < B) : 0 < e / B := by
 rw [Rat.div_def]; exact Rat.mul_pos he (Rat.inv_pos.2 hB)
theorem div_mul {e B : Rat} (hB : 0 < B) : e / B * B = e := by
 rw [Rat.div_def, Rat.mul_assoc, Rat.inv_mul_cancel _ (by grind), Rat.mul_one]
theorem Nul.mul {f g : Nat → Rat} (hf : Nul f) (hg : Bdd g) : Nul fun n => f n * g n := fun e he => by
 obtain ⟨B, hB, M, hM⟩ := hg
 obtain ⟨N, hN⟩ := hf (e / B) (div_small he hB)
 refine ⟨N + M, fun n hn => ?_⟩
 have h1 := hN n (by omega)
 have h2 := hM n (by omega)
 have h3 := mul_in h1.1 h1.2 h2.1 h2.2
 rw [div_mul hB] at h3
 exact h3
theorem Nul.add {f g : Nat → Rat} (hf : Nul f) (hg : Nul g) : Nul fun n => f n + g n := fun e he => by
 obtain ⟨N, hN⟩ := hf (e / 2) (half_pos he)
 obtain ⟨M, hM⟩ := hg (e / 2) (half_pos he)
 refine ⟨N + M, fun n hn => ?_⟩
 have h1 := hN n (by omega)
 have h2 := hM n (by omega)
 constructor <;> grind
theorem Nul.neg {f : Nat → Rat} (hf : Nul f) : Nul fun n => -f n := fun e he => by
 obtain ⟨N, hN⟩ := hf e he
 refine ⟨N, fun n hn => ?_⟩
 have h1 := hN n hn
 constructor <;> grind
theorem Nul.zero : Nul fun _ => 0 := fun e he => ⟨0, fun _ _ => by constructor <;> grind⟩
theorem Cau.mul {f g : Nat → Rat} (hf : Cau f) (hg : Cau g) : Cau fun n => f n * g n := fun e he => by
 obtain ⟨A, hA, M1, hM1⟩ := hf.bdd
 obtain ⟨B, hB, M2, hM2⟩ := hg.bdd
 obtain ⟨N1, h1⟩ := hf (e / 2 / B) (div_small (half_pos he) hB)
 obtain ⟨N2, h2⟩ := hg (e / 2 / A) (div_small (half_pos he) hA)
 refine ⟨M1 + M2 + N1 + N2, fun m hm n hn => ?_⟩
 have a1 := h1 m (by omega) n (by omega)
 have a2 := h1 n (by omega) m (by omega)
 have a3 := h2 m (by omega) n (by omega)
 have a4 := h2 n (by omega) m (by omega)
 have b1 := hM1 n (by omega)
 have b2 := hM2 m (by omega)
 have c1 := mul_in (x := f m - f n) a1 (by grind) b2.1 b2.2
 have c2 := mul_in (x := g m - g n) a3 (by grind) b1.1 b1.2
 rw [div_mul hB] at c1
 rw [div_mul hA] at c2
 grind
theorem Cau.tri {f : Nat → Rat} (h : Cau f) : Nul f ∨ Pst f ∨ Pst fun n => -f n := by
 apply Classical.byContradiction
 intro hc
 have hn : ¬ Nul f := fun h => hc (.inl h)
 unfold Nul at hn
 obtain ⟨e, he⟩ := Classical.not_forall.1 hn
 obtain ⟨h0, he⟩ := Classical.not_imp.1 he
 obtain ⟨N, hN⟩ := h (e / 2) (half_pos h0)
 have h1 : ∃ n, N ≤ n ∧ ¬ (f n < e ∧ -e < f n) := by
  apply Classical.byContradiction
  intro h2
  exact he ⟨N, fun n hn => Classical.byContradiction fun h3 => h2 ⟨n, hn, h3⟩⟩
 obtain ⟨n, hn, h2⟩ := h1
 by_cases h3 : f n < e
 ·refine hc (.inr (.inr ⟨e / 2, half_pos h0, N, fun m hm => ?_⟩))
  have := hN m hm n hn
  grind
 ·refine hc (.inr (.inl ⟨e / 2, half_pos h0, N, fun m hm => ?_⟩))
  have := hN n hn m hm
  grind
theorem Pst.add {f g : Nat → Rat} (hf : Pst f) (hg : Pst g) : Pst fun n => f n + g n := by
 obtain ⟨d, h0, N, h1⟩ := hf
 obtain ⟨e, h2, M, h3⟩ := hg
 refine ⟨d, h0, N + M, fun n hn => ?_⟩
 have a := h1 n (by omega)
 have b := h3 n (by omega)
 grind
theorem Pst.mul {f g : Nat → Rat} (hf : Pst f) (hg : Pst g) : Pst fun n => f n * g n := by
 obtain ⟨d, h0, N, h1⟩ := hf
 obtain ⟨e, h2, M, h3⟩ := hg
 refine ⟨d * e, Rat.mul_pos h0 h2, N + M, fun n hn => ?_⟩
 have a := h1 n (by omega)
 have b := h3 n (by omega)
 have p1 : 0 ≤ (f n - d) * g n := Rat.mul_nonneg (by grind) (by grind)
 have p2 : 0 ≤ d * (g n - e) := Rat.mul_nonneg (by grind) (by grind)
 grind
theorem Pst.addNul {f g : Nat → Rat} (hf : Pst f) (hg : Nul g) : Pst fun n => f n + g n := by
 obtain ⟨d, h0, N, h1⟩ := hf
 obtain ⟨M, h3⟩ := hg (d / 2) (half_pos h0)
 refine ⟨d / 2, half_pos h0, N + M, fun n hn => ?_⟩
 have a := h1 n (by omega)
 have b := h3 n (by omega)
 grind
theorem Pst.notNul {f : Nat → Rat} (hf : Pst f) (hg : Nul f) : False := by
 obtain ⟨d, h0, N, h1⟩ := hf
 obtain ⟨M, h3⟩ := hg d h0
 have a := h1 (N + M) (by omega)
 have b := h3 (N + M) (by omega)
 grind
structure CSeq where
 f : Nat → Rat
 c : Cau f
instance CSeq.setoid : Setoid CSeq where
 r a b := Nul fun n => a.f n - b.f n
 iseqv := {
  refl := fun a => by simpa [Rat.sub_self] using Nul.zero
  symm := fun {a b} h => by
   have := h.neg
   have e : (fun n => -(a.f n - b.f n)) = fun n => b.f n - a.f n := funext fun n => by grind
   rwa [e] at this
  trans := fun {a b c} h1 h2 => by
   have := h1.add h2
   have e : (fun n => a.f n - b.f n + (b.f n - c.f n)) = fun n => a.f n - c.f n := funext fun n => by grind
   rwa [e] at this }
def RR : Type := Quotient CSeq.setoid
namespace RR
def mk (a : CSeq) : RR := Quotient.mk CSeq.setoid a
theorem sound {a b : CSeq} (h : Nul fun n => a.f n - b.f n) : mk a = mk b := Quotient.sound h
def ofRat (q : Rat) : RR := mk ⟨fun _ => q, Cau.const q⟩
def addS (a b : CSeq) : CSeq := ⟨_, a.c.add b.c⟩
def mulS (a b : CSeq) : CSeq := ⟨_, a.c.mul b.c⟩
def negS (a : CSeq) : CSeq := ⟨_, a.c.neg⟩
def add (x y : RR) : RR := Quotient.liftOn₂ x y (fun a b => mk (addS a b)) fun a b a' b' h1 h2 => sound (by
 have := Nul.add h1 h2
 have e : (fun n => a.f n - a'.f n + (b.f n - b'.f n)) = fun n => (a.f n + b.f n) - (a'.f n + b'.f n) := funext fun n => by grind
 rwa [e] at this)
def mul (x y : RR) : RR := Quotient.liftOn₂ x y (fun a b => mk (mulS a b)) fun a b a' b' h1 h2 => sound (by
 have := Nul.add (Nul.mul h1 b.c.bdd) (Nul.mul h2 a'.c.bdd)
 have e : (fun n => (a.f n - a'.f n) * b.f n + (b.f n - b'.f n) * a'.f n) = fun n => (a.f n * b.f n) - (a'.f n * b'.f n) := funext fun n => by grind
 rwa [e] at this)
def neg (x : RR) : RR := Quotient.liftOn x (fun a => mk (negS a)) fun a a' h1 => sound (by
 have := Nul.neg h1
 have e : (fun n => -(a.f n - a'.f n)) = fun n => (-a.f n) - (-a'.f n) := funext fun n => by grind
 rwa [e] at this)
instance : Add RR := ⟨add⟩
instance : Mul RR := ⟨mul⟩
instance : Neg RR := ⟨neg⟩
instance : Sub RR := ⟨fun x y => x + -y⟩
instance : Coe Rat RR := ⟨ofRat⟩
instance (n : Nat) : OfNat RR n := ⟨ofRat ((n : Nat) : Rat)⟩
theorem sub_eq (x y : RR) : x - y = x + -y := rfl
theorem ind {p : RR → Prop} (h : ∀ a, p (mk a)) (x : RR) : p x := Quotient.ind h x
theorem same {a b : CSeq} (h : ∀ n, a.f n = b.f n) : mk a = mk b := by
 cases a; cases b
 congr 2
 exact funext h
theorem add_comm (x y : RR) : x + y = y + x := by
 induction x using ind with | h a => induction y using ind with | h b => exact same fun n => by simp only [addS]; grind
theorem add_assoc (x y z : RR) : x + y + z = x + (y + z) := by
 induction x using ind with | h a => induction y using ind with | h b => induction z using ind with | h c => exact same fun n => by simp only [addS]; grind
theorem mul_comm (x y : RR) : x * y = y * x := by
 induction x using ind with | h a => induction y using ind with | h b => exact same fun n => by simp only [mulS]; grind
theorem mul_assoc (x y z : RR) : x * y * z = x * (y * z) := by
 induction x using ind with | h a => induction y using ind with | h b => induction z using ind with | h c => exact same fun n => by simp only [mulS]; grind
theorem mul_add (x y z : RR) : x * (y + z) = x * y + x * z := by
 induction x using ind with | h a => induction y using ind with | h b => induction z using ind with | h c => exact same fun n => by simp only [mulS, addS]; grind
theorem rat_add (p q : Rat) : ofRat (p + q) = ofRat p + ofRat q := rfl
theorem rat_mul (p q : Rat) : ofRat (p * q) = ofRat p * ofRat q := rfl
theorem rat_neg (p : Rat) : ofRat (-p) = -ofRat p := rfl
theorem rat_sub (p q : Rat) : ofRat (p - q) = ofRat p - ofRat q := by rw [sub_eq, ← rat_neg, ← rat_add, Rat.sub_eq_add_neg]
theorem zero_add (x : RR) : ofRat 0 + x = x := by
 induction x using ind with | h a => exact same fun n => by simp only [addS]; grind
theorem one_mul (x : RR) : ofRat 1 * x = x := by
 induction x using ind with | h a => exact same fun n => by simp only [mulS]; grind
theorem zero_mul (x : RR) : ofRat 0 * x = ofRat 0 := by
 induction x using ind with | h a => exact same fun n => by simp only [mulS]; grind
theorem add_neg (x : RR) : x + -x = ofRat 0 := by
 induction x using ind with | h a => exact same fun n => by simp only [addS, negS]; grind
theorem neg_mul (x y : RR) : -x * y = -(x * y) := by
 induction x using ind with | h a => induction y using ind with | h b => exact same fun n => by simp only [mulS, negS]; grind
theorem neg_neg (x : RR) : - -x = x := by
 induction x using ind with | h a => exact same fun n => by simp only [negS]; grind
end RR
end Vi
namespace Vi
inductive PE where
 | v (n : Nat)
 | z (k : Int)
 | a (x y : PE)
 | m (x y : PE)
 | n (x : PE)
namespace PE
def at' (ρ : List RR) (i : Nat) : RR := match ρ, i with
 | [], _ => RR.ofRat 0
 | x :: _, 0 => x
 | _ :: l, i + 1 => at' l i
def ofInt (k : Int) : RR := RR.ofRat (k : Rat)
def ev (ρ : List RR) : PE → RR
 | .v i => at' ρ i
 | .z k => ofInt k
 | .a x y => x.ev ρ + y.ev ρ
 | .m x y => x.ev ρ * y.ev ρ
 | .n x => -x.ev ρ
def evM (ρ : List RR) : List Nat → RR
 | [] => ofInt 1
 | i :: l => at' ρ i * evM ρ l
def evP (ρ : List RR) : List (Int × List Nat) → RR
 | [] => ofInt 0
 | (k, l) :: p => ofInt k * evM ρ l + evP ρ p
def insM (i : Nat) : List Nat → List Nat
 | [] => [i]
 | j :: l => match Nat.ble i j with
  | true => i :: j :: l
  | false => j :: insM i l
def mulM : List Nat → List Nat → List Nat
 | [], q => q
 | i :: l, q => insM i (mulM l q)
def eqM : List Nat → List Nat → Bool
 | [], [] => true
 | i :: l, j :: q => match Nat.beq i j with
  | true => eqM l q
  | false => false
 | _, _ => false
def addT (k : Int) (l : List Nat) : List (Int × List Nat) → List (Int × List Nat)
 | [] => [(k, l)]
 | (k', l') :: p => match eqM l l' with
  | true => (k + k', l') :: p
  | false => (k', l') :: addT k l p
def addP : List (Int × List Nat) → List (Int × List Nat) → List (Int × List Nat)
 | [], q => q
 | (k, l) :: p, q => addT k l (addP p q)
def mulT (k : Int) (l : List Nat) : List (Int × List Nat) → List (Int × List Nat)
 | [] => []
 | (k', l') :: p => addT (k * k') (mulM l l') (mulT k l p)
def mulP : List (Int × List Nat) → List (Int × List Nat) → List (Int × List Nat)
 | [], _ => []
 | (k, l) :: p, q => addP (mulT k l q) (mulP p q)
def norm : PE → List (Int × List Nat)
 | .v i => [(1, [i])]
 | .z k => [(k, [])]
 | .a x y => addP x.norm y.norm
 | .m x y => mulP x.norm y.norm
 | .n x => mulT (-1) [] x.norm
def isZ : List (Int × List Nat) → Bool
 | [] => true
 | (k, _) :: p => match decide (k = 0) with
  | true => isZ p
  | false => false
open RR
theorem i0 (x : RR) : ofInt 0 + x = x := RR.zero_add x
theorem i1 (x : RR) : ofInt 1 * x = x := RR.one_mul x
theorem iadd (j k : Int) : ofInt (j + k) = ofInt j + ofInt k := by unfold ofInt; rw [← rat_add, Rat.intCast_add]
theorem imul (j k : Int) : ofInt (j * k) = ofInt j * ofInt k := by unfold ofInt; rw [← rat_mul, Rat.intCast_mul]
theorem ineg (j : Int) : ofInt (-j) = -ofInt j := by unfold ofInt; rw [← rat_neg, Rat.intCast_neg]
theorem add_left (x y z : RR) : x + (y + z) = y + (x + z) := by rw [← RR.add_assoc, RR.add_comm x y, RR.add_assoc]
theorem mul_left (x y z : RR) : x * (y * z) = y * (x * z) := by rw [← RR.mul_assoc, RR.mul_comm x y, RR.mul_assoc]
theorem add_mul (x y z : RR) : (x + y) * z = x * z + y * z := by rw [RR.mul_comm, RR.mul_add, RR.mul_comm z x, RR.mul_comm z y]
theorem mul0 (x : RR) : x * ofInt 0 = ofInt 0 := by rw [RR.mul_comm]; exact RR.zero_mul x
theorem ev_insM (ρ : List RR) (i : Nat) : ∀ l, evM ρ (insM i l) = at' ρ i * evM ρ l
 | [] => rfl
 | j :: l => by
  unfold insM
  split
  ·rfl
  ·show at' ρ j * evM ρ (insM i l) = at' ρ i * (at' ρ j * evM ρ l)
   rw [ev_insM ρ i l, mul_left]
theorem ev_mulM (ρ : List RR) : ∀ l q, evM ρ (mulM l q) = evM ρ l * evM ρ q
 | [], q => (i1 _).symm
 | i :: l, q => by
  show evM ρ (insM i (mulM l q)) = at' ρ i * evM ρ l * evM ρ q
  rw [ev_insM, ev_mulM ρ l q, RR.mul_assoc]
theorem eqM_eq : ∀ l q, eqM l q = true → l = q
 | [], [], _ => rfl
 | i :: l, j :: q, h => by
  unfold eqM at h
  split at h
  ·rename_i h1
   rw [Nat.eq_of_beq_eq_true h1, eqM_eq l q h]
  ·cases h
 | [], _ :: _, h => by simp [eqM] at h
 | _ :: _, [], h => by simp [eqM] at h
theorem ev_addT (ρ : List RR) (k : Int) (l : List Nat) : ∀ p, evP ρ (addT k l p) = ofInt k * evM ρ l + evP ρ p
 | [] => rfl
 | (k', l') :: p => by
  unfold addT
  split
  ·rename_i h
   rw [eqM_eq l l' h]
   show ofInt (k + k') * evM ρ l' + evP ρ p = ofInt k * evM ρ l' + (ofInt k' * evM ρ l' + evP ρ p)
   rw [iadd, add_mul, RR.add_assoc]
  ·show ofInt k' * evM ρ l' + evP ρ (addT k l p) = ofInt k * evM ρ l + (ofInt k' * evM ρ l' + evP ρ p)
   rw [ev_addT ρ k l p, add_left]
theorem ev_addP (ρ : List RR) : ∀ p q, evP ρ (addP p q) = evP ρ p + evP ρ q
 | [], q => (i0 _).symm
 | (k, l) :: p, q => by
  show evP ρ (addT k l (addP p q)) = ofInt k * evM ρ l + evP ρ p + evP ρ q
  rw [ev_addT, ev_addP ρ p q, RR.add_assoc]
theorem ev_mulT (ρ : List RR) (k : Int) (l : List Nat) : ∀ p, evP ρ (mulT k l p) = ofInt k * evM ρ l * evP ρ p
 | [] => (mul0 _).symm
 | (k', l') :: p => by
  show evP ρ (addT (k * k') (mulM l l') (mulT k l p)) = ofInt k * evM ρ l * (ofInt k' * evM ρ l' + evP ρ p)
  rw [ev_addT, ev_mulT ρ k l p, ev_mulM, imul, RR.mul_add]
  congr 1
  rw [RR.mul_assoc, RR.mul_assoc, mul_left (ofInt k')]
theorem ev_mulP (ρ : List RR) : ∀ p q, evP ρ (mulP p q) = evP ρ p * evP ρ q
 | [], q => (RR.zero_mul _).symm
 | (k, l) :: p, q => by
  show evP ρ (addP (mulT k l q) (mulP p q)) = (ofInt k * evM ρ l + evP ρ p) * evP ρ q
  rw [ev_addP, ev_mulT, ev_mulP ρ p q, add_mul]
theorem ev_norm (ρ : List RR) : ∀ e : PE, evP ρ e.norm = e.ev ρ
 | .v i => by
  show ofInt 1 * (at' ρ i * ofInt 1) + ofInt 0 = at' ρ i
  rw [RR.add_comm, i0, i1, RR.mul_comm, i1]
 | .z k => by
  show ofInt k * ofInt 1 + ofInt 0 = ofInt k
  rw [RR.add_comm, i0, RR.mul_comm, i1]
 | .a x y => by
  show evP ρ (addP x.norm y.norm) = x.ev ρ + y.ev ρ
  rw [ev_addP, ev_norm ρ x, ev_norm ρ y]
 | .m x y => by
  show evP ρ (mulP x.norm y.norm) = x.ev ρ * y.ev ρ
  rw [ev_mulP, ev_norm ρ x, ev_norm ρ y]
 | .n x => by
  show evP ρ (mulT (-1) [] x.norm) = -x.ev ρ
  rw [ev_mulT, ev_norm ρ x]
  show ofInt (-1) * ofInt 1 * x.ev ρ = -x.ev ρ
  rw [ineg, RR.mul_assoc, i1, RR.neg_mul, i1]
theorem ev_isZ (ρ : List RR) : ∀ p, isZ p = true → evP ρ p = ofInt 0
 | [], _ => rfl
 | (k, l) :: p, h => by
  unfold isZ at h
  split at h
  ·rename_i h1
   obtain rfl := of_decide_eq_true h1
   show ofInt 0 * evM ρ l + evP ρ p = ofInt 0
   rw [ev_isZ ρ p h, RR.add_comm, i0]
   exact RR.zero_mul _
  ·cases h
end PE
class AtR (ρ : List RR) (x : RR) (i : outParam Nat) : Prop where
 eq : PE.at' ρ i = x
instance (x : RR) (l : List RR) : AtR (x :: l) x 0 := ⟨rfl⟩
instance (priority := low) (x y : RR) (l : List RR) (i : Nat) [h : AtR l x i] : AtR (y :: l) x (i + 1) := ⟨h.eq⟩
class QtR (ρ : List RR) (x : RR) (e : outParam PE) : Prop where
 eq : e.ev ρ = x
instance (priority := low) (ρ : List RR) (x : RR) (i : Nat) [h : AtR ρ x i] : QtR ρ x (.v i) := ⟨h.eq⟩
instance (ρ : List RR) (x y : RR) (e f : PE) [h : QtR ρ x e] [g : QtR ρ y f] : QtR ρ (x + y) (.a e f) := ⟨by show e.ev ρ + f.ev ρ = _; rw [h.eq, g.eq]⟩
instance (ρ : List RR) (x y : RR) (e f : PE) [h : QtR ρ x e] [g : QtR ρ y f] : QtR ρ (x * y) (.m e f) := ⟨by show e.ev ρ * f.ev ρ = _; rw [h.eq, g.eq]⟩
instance (ρ : List RR) (x y : RR) (e f : PE) [h : QtR ρ x e] [g : QtR ρ y f] : QtR ρ (x - y) (.a e (.n f)) := ⟨by show e.ev ρ + -f.ev ρ = _; rw [h.eq, g.eq]; rfl⟩
instance (ρ : List RR) (x : RR) (e : PE) [h : QtR ρ x e] : QtR ρ (-x) (.n e) := ⟨by show -e.ev ρ = _; rw [h.eq]⟩
instance (ρ : List RR) (n : Nat) : QtR ρ (no_index (OfNat.ofNat n : RR)) (.z n) := ⟨rfl⟩
instance (ρ : List RR) (p q : Rat) (e f : PE) [h : QtR ρ (RR.ofRat p) e] [g : QtR ρ (RR.ofRat q) f] : QtR ρ (RR.ofRat (p + q)) (.a e f) := ⟨by show e.ev ρ + f.ev ρ = _; rw [h.eq, g.eq]; rfl⟩
instance (ρ : List RR) (p q : Rat) (e f : PE) [h : QtR ρ (RR.ofRat p) e] [g : QtR ρ (RR.ofRat q) f] : QtR ρ (RR.ofRat (p * q)) (.m e f) := ⟨by show e.ev ρ * f.ev ρ = _; rw [h.eq, g.eq]; rfl⟩
instance (ρ : List RR) (p q : Rat) (e f : PE) [h : QtR ρ (RR.ofRat p) e] [g : QtR ρ (RR.ofRat q) f] : QtR ρ (RR.ofRat (p - q)) (.a e (.n f)) := ⟨by show e.ev ρ + -f.ev ρ = _; rw [h.eq, g.eq, RR.rat_sub]; rfl⟩
instance (ρ : List RR) (p : Rat) (e : PE) [h : QtR ρ (RR.ofRat p) e] : QtR ρ (RR.ofRat (-p)) (.n e) := ⟨by show -e.ev ρ = _; rw [h.eq]; rfl⟩
instance (ρ : List RR) (n : Nat) : QtR ρ (RR.ofRat (no_index (OfNat.ofNat n))) (.z n) := ⟨rfl⟩
namespace RR
theorem sub_zero' {x y : RR} (h : x + -y = ofRat 0) : x = y := by
 have : x + -y + y = ofRat 0 + y := by rw [h]
 rwa [add_assoc, add_comm (-y) y, add_neg, zero_add, add_comm, zero_add] at this
theorem ring (ρ : List RR) {x y : RR} {e f : PE} [h1 : QtR ρ x e] [h2 : QtR ρ y f] (h : PE.isZ (PE.norm (.a e (.n f))) = true) : x = y := by
 have := PE.ev_isZ ρ _ h
 rw [PE.ev_norm] at this
 have h3 : x + -y = ofRat 0 := by
  rw [← h1.eq, ← h2.eq]; exact this
 exact sub_zero' h3
theorem ring1 (ρ : List RR) {l r : RR} (hl : l = r) (k : RR) {x y : RR} {e f g u v : PE} [h1 : QtR ρ x e] [h2 : QtR ρ y f] [h3 : QtR ρ l u] [h4 : QtR ρ r v] [h5 : QtR ρ k g] (h : PE.isZ (PE.norm (.a (.a e (.n f)) (.n (.m g (.a u (.n v)))))) = true) : x = y := by
 have := PE.ev_isZ ρ _ h
 rw [PE.ev_norm] at this
 have h6 : (x + -y) + -(k * (l + -r)) = ofRat 0 := by
  rw [← h1.eq, ← h2.eq, ← h3.eq, ← h4.eq, ← h5.eq]; exact this
 rw [hl, add_neg, mul_comm, zero_mul] at h6
 have h7 : -(ofRat 0) = ofRat 0 := by have := add_neg (ofRat 0); rwa [zero_add] at this
 rw [h7, add_comm, zero_add] at h6
 exact sub_zero' h6
theorem ring2 (ρ : List RR) {l r : RR} (hl : l = r) (k : RR) {l' r' : RR} (hl' : l' = r') (k' : RR) {x y : RR} {e f g u v g' u' v' : PE} [h1 : QtR ρ x e] [h2 : QtR ρ y f] [h3 : QtR ρ l u] [h4 : QtR ρ r v] [h5 : QtR ρ k g] [h3' : QtR ρ l' u'] [h4' : QtR ρ r' v'] [h5' : QtR ρ k' g'] (h : PE.isZ (PE.norm (.a (.a (.a e (.n f)) (.n (.m g (.a u (.n v))))) (.n (.m g' (.a u' (.n v')))))) = true) : x = y := by
 have := PE.ev_isZ ρ _ h
 rw [PE.ev_norm] at this
 have h6 : ((x + -y) + -(k * (l + -r))) + -(k' * (l' + -r')) = ofRat 0 := by
  rw [← h1.eq, ← h2.eq, ← h3.eq, ← h4.eq, ← h5.eq, ← h3'.eq, ← h4'.eq, ← h5'.eq]; exact this
 have h7 : -(ofRat 0) = ofRat 0 := by have := add_neg (ofRat 0); rwa [zero_add] at this
 rw [hl, hl', add_neg, add_neg, mul_comm, zero_mul, mul_comm, zero_mul, h7, add_comm, zero_add, add_comm, zero_add] at h6
 exact sub_zero' h6
example (x y : RR) (p : Rat) : (x + y) * (x - ofRat (p + 2)) = x * x + y * x - (2 * x + p * x) - p * y - 2 * y := ring [x, y, p] (by decide +kernel)
end RR
end Vi
namespace Vi
namespace RR
def pos (x : RR) : Prop := Quotient.liftOn x (fun a => Pst a.f) fun a b h => propext ⟨fun p => by
    have := p.addNul (Nul.neg h)
    have e : (fun n => a.f n + -(a.f n - b.f n)) = b.f := funext fun n => by grind
    rwa [e] at this, fun p => by
    have := p.addNul h
    have e : (fun n => b.f n + (a.f n - b.f n)) = a.f := funext fun n => by grind
    rwa [e] at this⟩
instance : LT RR := ⟨fun x y => pos (y - x)⟩
instance : LE RR := ⟨fun x y => ¬ y < x⟩
theorem lt_iff {x y : RR} : x < y ↔ pos (y - x) := Iff.rfl
theorem pos_add {x y : RR} : pos x → pos y → pos (x + y) := by
 induction x using ind with | h a => induction y using ind with | h b => exact fun h1 h2 => Pst.add h1 h2
theorem pos_mul {x y : RR} : pos x → pos y → pos (x * y) := by
 induction x using ind with | h a => induction y using ind with | h b => exact fun h1 h2 => Pst.mul h1 h2
theorem pos_zero : ¬ pos (ofRat 0) := fun h => Pst.notNul (f := fun _ => 0) h Nul.zero
theorem pos_tri (x : RR) : x = 0 ∨ pos x ∨ pos (-x) := by
 induction x using ind with | h a =>
 rcases a.c.tri with h | h | h
 ·left
  exact sound (by
   have e : (fun n => a.f n - 0) = a.f := funext fun n => by grind
   have : Nul fun n => a.f n - 0 := by rw [e]; exact h
   exact this)
 ·exact .inr (.inl h)
 ·exact .inr (.inr h)
theorem pos_rat (q : Rat) : pos (ofRat q) ↔ 0 < q := by
 constructor
 ·intro h
  obtain ⟨d, h0, N, h1⟩ := (h : Pst fun _ => q)
  have := h1 N (Nat.le_refl _)
  grind
 ·intro h
  exact (⟨q, h, 0, fun _ _ => Rat.le_refl⟩ : Pst fun _ => q)
theorem zero_lt {x : RR} : 0 < x ↔ pos x := by
 rw [lt_iff, ring (x := x - 0) (y := x) [x] (by decide +kernel)]
theorem lt_of_pos {x y : RR} (t : RR) (h : 0 < t) (e : y - x = t) : x < y := by
 rw [lt_iff, e]; exact zero_lt.1 h
theorem lt_zero {x : RR} : x < 0 ↔ 0 < -x := by
 rw [zero_lt, lt_iff, ring (x := 0 - x) (y := -x) [x] (by decide +kernel)]
theorem sub_pos {x y : RR} : 0 < y - x ↔ x < y := by rw [zero_lt]; rfl
theorem lt_irrefl (x : RR) : ¬ x < x := fun h => by
 rw [lt_iff, ring (x := x - x) (y := ofRat 0) [x] (by decide +kernel)] at h
 exact pos_zero h
theorem lt_trans {x y z : RR} (h1 : x < y) (h2 : y < z) : x < z := by
 have := pos_add h1 h2
 rwa [ring (x := y - x + (z - y)) (y := z - x) [x, y, z] (by decide +kernel)] at this
theorem tri (x y : RR) : x < y ∨ x = y ∨ y < x := by
 rcases pos_tri (y - x) with h | h | h
 ·exact .inr (.inl (ring1 [x, y] h (-1) (by decide +kernel)))
 ·exact .inl h
 ·refine .inr (.inr ?_)
  rwa [ring (x := -(y - x)) (y := x - y) [x, y] (by decide +kernel)] at h
theorem le_refl (x : RR) : x ≤ x := lt_irrefl x
theorem le_of_lt {x y : RR} (h : x < y) : x ≤ y := fun h2 => lt_irrefl _ (lt_trans h h2)
theorem le_of_eq {x y : RR} (h : x = y) : x ≤ y := h ▸ le_refl x
theorem lt_or_eq {x y : RR} (h : x ≤ y) : x < y ∨ x = y := by
 rcases tri x y with h1 | h1 | h1
 ·exact .inl h1
 ·exact .inr h1
 ·exact absurd h1 h
theorem le_trans {x y z : RR} (h1 : x ≤ y) (h2 : y ≤ z) : x ≤ z := by
 rcases lt_or_eq h1 with h1 | rfl
 ·rcases lt_or_eq h2 with h2 | rfl
  ·exact le_of_lt (lt_trans h1 h2)
  ·exact le_of_lt h1
 ·exact h2
theorem lt_of_lt_of_le {x y z : RR} (h1 : x < y) (h2 : y ≤ z) : x < z := by
 rcases lt_or_eq h2 with h2 | rfl
 ·exact lt_trans h1 h2
 ·exact h1
theorem lt_of_le_of_lt {x y z : RR} (h1 : x ≤ y) (h2 : y < z) : x < z := by
 rcases lt_or_eq h1 with h1 | rfl
 ·exact lt_trans h1 h2
 ·exact h2
theorem le_antisymm {x y : RR} (h1 : x ≤ y) (h2 : y ≤ x) : x = y := by
 rcases lt_or_eq h1 with h1 | h1
 ·exact absurd h1 h2
 ·exact h1
theorem not_lt {x y : RR} : ¬ x < y ↔ y ≤ x := Iff.rfl
theorem not_le {x y : RR} : ¬ x ≤ y ↔ y < x := Classical.not_not
theorem le_total (x y : RR) : x ≤ y ∨ y ≤ x := by
 rcases tri x y with h | h | h
 ·exact .inl (le_of_lt h)
 ·exact .inl (le_of_eq h)
 ·exact .inr (le_of_lt h)
theorem ne_of_lt {x y : RR} (h : x < y) : x ≠ y := fun e => lt_irrefl x (by rw [← e] at h; exact h)
theorem add_pos {x y : RR} (h1 : 0 < x) (h2 : 0 < y) : 0 < x + y := zero_lt.2 (pos_add (zero_lt.1 h1) (zero_lt.1 h2))
theorem mul_pos {x y : RR} (h1 : 0 < x) (h2 : 0 < y) : 0 < x * y := zero_lt.2 (pos_mul (zero_lt.1 h1) (zero_lt.1 h2))
theorem mul_neg {x y : RR} (h1 : 0 < x) (h2 : y < 0) : x * y < 0 := by
 rw [lt_zero] at *
 have := mul_pos h1 h2
 rwa [ring (x := x * -y) (y := -(x * y)) [x, y] (by decide +kernel)] at this
theorem mul_neg_neg {x y : RR} (h1 : x < 0) (h2 : y < 0) : 0 < x * y := by
 rw [lt_zero] at *
 have := mul_pos h1 h2
 rwa [ring (x := -x * -y) (y := x * y) [x, y] (by decide +kernel)] at this
theorem add_nonneg {x y : RR} (h1 : 0 ≤ x) (h2 : 0 ≤ y) : 0 ≤ x + y := by
 rcases lt_or_eq h1 with h1 | rfl
 ·rcases lt_or_eq h2 with h2 | rfl
  ·exact le_of_lt (add_pos h1 h2)
  ·rw [ring (x := x + 0) (y := x) [x] (by decide +kernel)]; exact le_of_lt h1
 ·rw [ring (x := 0 + y) (y := y) [y] (by decide +kernel)]; exact h2
theorem add_pos_of_nonneg {x y : RR} (h1 : 0 < x) (h2 : 0 ≤ y) : 0 < x + y := by
 rcases lt_or_eq h2 with h2 | rfl
 ·exact add_pos h1 h2
 ·rw [ring (x := x + 0) (y := x) [x] (by decide +kernel)]; exact h1
theorem mul_nonneg {x y : RR} (h1 : 0 ≤ x) (h2 : 0 ≤ y) : 0 ≤ x * y := by
 rcases lt_or_eq h1 with h1 | rfl
 ·rcases lt_or_eq h2 with h2 | rfl
  ·exact le_of_lt (mul_pos h1 h2)
  ·rw [ring (x := x * 0) (y := 0) [x] (by decide +kernel)]; exact le_refl _
 ·rw [ring (x := 0 * y) (y := 0) [y] (by decide +kernel)]; exact le_refl _
theorem sub_nonneg {x y : RR} : 0 ≤ y - x ↔ x ≤ y := by
 rw [← not_lt, ← not_lt, lt_zero, ring (x := -(y - x)) (y := x - y) [x, y] (by decide +kernel), sub_pos]
theorem le_of_nonneg {x y : RR} (t : RR) (h : 0 ≤ t) (e : y - x = t) : x ≤ y := by
 rw [← sub_nonneg, e]; exact h
theorem mul_ne {x y : RR} (hx : x ≠ 0) (hy : y ≠ 0) : x * y ≠ 0 := by
 rcases tri x 0 with h | h | h
 ·rcases tri y 0 with g | g | g
  ·exact (ne_of_lt (mul_neg_neg h g)).symm
  ·exact absurd g hy
  ·rw [mul_comm]; exact ne_of_lt (mul_neg g h)
 ·exact absurd h hx
 ·rcases tri y 0 with g | g | g
  ·exact ne_of_lt (mul_neg h g)
  ·exact absurd g hy
  ·exact (ne_of_lt (mul_pos h g)).symm
theorem rat_lt {p q : Rat} : ofRat p < ofRat q ↔ p < q := by
 rw [lt_iff, ← rat_sub, pos_rat]
 constructor <;> intro h <;> grind
theorem rat_le {p q : Rat} : ofRat p ≤ ofRat q ↔ p ≤ q := by
 rw [← not_lt, rat_lt, Rat.not_lt]
theorem rat_inj {p q : Rat} (h : ofRat p = ofRat q) : p = q := by
 have h1 : ¬ p < q := fun g => ne_of_lt (rat_lt.2 g) h
 have h2 : ¬ q < p := fun g => ne_of_lt (rat_lt.2 g) h.symm
 exact Rat.le_antisymm (Rat.not_lt.1 h2) (Rat.not_lt.1 h1)
end RR
noncomputable def sgR (x : RR) : Int := open Classical in if 0 < x then 1 else if x < 0 then -1 else 0
namespace RR
theorem sg_pos {x : RR} (h : 0 < x) : sgR x = 1 := if_pos h
theorem sg_neg {x : RR} (h : x < 0) : sgR x = -1 := by unfold sgR; rw [if_neg (le_of_lt h), if_pos h]
theorem sg_zero {x : RR} (h : x = 0) : sgR x = 0 := by subst h; unfold sgR; rw [if_neg (lt_irrefl 0), if_neg (lt_irrefl 0)]
theorem sg_cases (x : RR) : (sgR x = -1 ∧ x < 0) ∨ (sgR x = 0 ∧ x = 0) ∨ (sgR x = 1 ∧ 0 < x) := by
 rcases tri x 0 with h | h | h
 ·exact .inl ⟨sg_neg h, h⟩
 ·exact .inr (.inl ⟨sg_zero h, h⟩)
 ·exact .inr (.inr ⟨sg_pos h, h⟩)
theorem sg_mul (x y : RR) : sgR (x * y) = sgR x * sgR y := by
 rcases sg_cases x with ⟨h1, h⟩ | ⟨h1, rfl⟩ | ⟨h1, h⟩ <;> rcases sg_cases y with ⟨g1, g⟩ | ⟨g1, rfl⟩ | ⟨g1, g⟩ <;> simp only [h1, g1]
 ·exact sg_pos (mul_neg_neg h g)
 ·exact sg_zero (ring [x] (by decide +kernel))
 ·rw [mul_comm]; exact sg_neg (mul_neg g h)
 ·exact sg_zero (ring [y] (by decide +kernel))
 ·exact sg_zero (ring [] (by decide +kernel))
 ·exact sg_zero (ring [y] (by decide +kernel))
 ·exact sg_neg (mul_neg h g)
 ·exact sg_zero (ring [x] (by decide +kernel))
 ·exact sg_pos (mul_pos h g)
theorem sg_opp (x : RR) : sgR (-x) = -sgR x := by
 rw [ring (x := -x) (y := ofRat (-1) * x) [x] (by decide +kernel), sg_mul, sg_neg (x := ofRat (-1)) (rat_lt.2 (by decide))]
 omega
theorem sg_iff0 {x : RR} : sgR x = 0 ↔ x = 0 := by
 rcases sg_cases x with ⟨h1, h⟩ | ⟨h1, h⟩ | ⟨h1, h⟩ <;> rw [h1]
 ·exact ⟨fun e => by omega, fun e => absurd e (ne_of_lt h)⟩
 ·exact ⟨fun _ => h, fun _ => rfl⟩
 ·exact ⟨fun e => by omega, fun e => absurd e.symm (ne_of_lt h)⟩
theorem sg_iff1 {x : RR} : sgR x = 1 ↔ 0 < x := by
 rcases sg_cases x with ⟨h1, h⟩ | ⟨h1, rfl⟩ | ⟨h1, h⟩ <;> rw [h1]
 ·exact ⟨fun e => by omega, fun e => absurd e (le_of_lt h)⟩
 ·exact ⟨fun e => by omega, fun e => absurd e (lt_irrefl _)⟩
 ·exact ⟨fun _ => h, fun _ => rfl⟩
theorem sg_iff2 {x : RR} : sgR x = -1 ↔ x < 0 := by
 rcases sg_cases x with ⟨h1, h⟩ | ⟨h1, rfl⟩ | ⟨h1, h⟩ <;> rw [h1]
 ·exact ⟨fun _ => h, fun _ => rfl⟩
 ·exact ⟨fun e => by omega, fun e => absurd e (lt_irrefl _)⟩
 ·exact ⟨fun e => by omega, fun e => absurd e (le_of_lt h)⟩
theorem sg_add_same {x y : RR} (h : sgR x = sgR y ∨ sgR y = 0) : sgR (x + y) = sgR x := by
 rcases h with h | h
 ·rcases sg_cases y with ⟨g1, g⟩ | ⟨g1, g⟩ | ⟨g1, g⟩ <;> rw [g1] at h
  ·have h2 := sg_iff2.1 h
   rw [h]
   refine sg_iff2.2 ?_
   rw [lt_zero] at *
   have := add_pos h2 g
   rwa [ring (x := -x + -y) (y := -(x + y)) [x, y] (by decide +kernel)] at this
  ·obtain rfl := sg_iff0.1 h
   subst g
   rw [ring (x := (0 : RR) + 0) (y := 0) [] (by decide +kernel)]
  ·rw [h]
   exact sg_iff1.2 (add_pos (sg_iff1.1 h) g)
 ·obtain rfl := sg_iff0.1 h
  rw [ring (x := x + 0) (y := x) [x] (by decide +kernel)]
theorem sg_add_diff {x y : RR} (h : sgR x = -sgR y) (h0 : sgR x ≠ 0) : sgR (x + y) = sgR x * sgR (x * x - y * y) := by
 have e : x * x - y * y = (x + y) * (x - y) := ring [x, y] (by decide +kernel)
 have h1 : sgR (x - y) = sgR x := by
  rw [sub_eq]
  refine sg_add_same (.inl ?_)
  rw [sg_opp]; exact h
 rw [e, sg_mul, h1]
 rcases sg_cases x with ⟨g1, _⟩ | ⟨g1, _⟩ | ⟨g1, _⟩ <;> rw [g1] at h0 ⊢ <;> omega
end RR
end Vi
namespace Vi
theorem rsq_ex (r : Rat) (hr : 0 ≤ r) (n : Nat) : ∃ u : Rat, 0 ≤ u ∧ u * u ≤ r ∧ r < (u + 1 / ((n + 1 : Nat) : Rat)) * (u + 1 / ((n + 1 : Nat) : Rat)) := by
 obtain ⟨d, hd⟩ : ∃ d : Rat, d = ((n + 1 : Nat) : Rat) := ⟨_, rfl⟩
 have d0 : 0 < d := by rw [hd]; exact_mod_cast Nat.succ_pos n
 rw [← hd]
 obtain ⟨X, hX⟩ : ∃ X : Rat, X = r * (d * d) := ⟨_, rfl⟩
 have x0 : 0 ≤ X := by rw [hX]; exact Rat.mul_nonneg hr (Rat.le_of_lt (Rat.mul_pos d0 d0))
 have f0 : 0 ≤ X.floor := Rat.le_floor_iff.2 x0
 have root : ∀ N : Nat, ∃ s : Nat, s * s ≤ N ∧ N < (s + 1) * (s + 1) := by
  intro N
  induction N with
  | zero => exact ⟨0, by omega⟩
  | succ N ih =>
   obtain ⟨s, h1, h2⟩ := ih
   by_cases h : N + 1 < (s + 1) * (s + 1)
   ·exact ⟨s, by omega, h⟩
   ·refine ⟨s + 1, by omega, ?_⟩
    have e : (s + 1 + 1) * (s + 1 + 1) = (s + 1) * (s + 1) + 2 * s + 3 := by grind
    omega
 obtain ⟨s, h1, h2⟩ := root X.floor.toNat
 obtain ⟨S, hS⟩ : ∃ S : Rat, S = (s : Rat) := ⟨_, rfl⟩
 have S0 : 0 ≤ S := by rw [hS]; exact_mod_cast Nat.zero_le s
 have a1 : S * S ≤ X := by
  have h3 : ((s * s : Nat) : Int) ≤ X.floor := by omega
  have h4 := Rat.le_floor_iff.1 h3
  rw [hS]
  have h5 : (((s * s : Nat) : Int) : Rat) = (s : Rat) * (s : Rat) := by push_cast; rfl
  rwa [h5] at h4
 have a2 : X < (S + 1) * (S + 1) := by
  have h3 : X.floor < (((s + 1) * (s + 1) : Nat) : Int) := by omega
  have h4 := Rat.floor_lt_iff.1 h3
  have h5 : ((((s + 1) * (s + 1) : Nat) : Int) : Rat) = ((s : Rat) + 1) * ((s : Rat) + 1) := by push_cast; rfl
  rw [h5] at h4
  rw [hS]; exact h4
 have di : d * d⁻¹ = 1 := Rat.mul_inv_cancel _ (by grind)
 have i0 : 0 < d⁻¹ := Rat.inv_pos.2 d0
 have hr2 : r = X * (d⁻¹ * d⁻¹) := by rw [hX]; grind
 refine ⟨S * d⁻¹, Rat.mul_nonneg S0 (Rat.le_of_lt i0), ?_, ?_⟩
 ·have := Rat.mul_nonneg (show 0 ≤ X - S * S by grind) (Rat.le_of_lt (Rat.mul_pos i0 i0))
  grind
 ·have := Rat.mul_pos (show 0 < (S + 1) * (S + 1) - X by grind) (Rat.mul_pos i0 i0)
  have e : (1 : Rat) / d = d⁻¹ := by rw [Rat.div_def, Rat.one_mul]
  rw [e]
  grind
theorem small_inv (e : Rat) (he : 0 < e) : ∃ N : Nat, ∀ n : Nat, N ≤ n → 1 / ((n + 1 : Nat) : Rat) < e := by
 refine ⟨e⁻¹.floor.toNat, fun n hn => ?_⟩
 obtain ⟨d, hd⟩ : ∃ d : Rat, d = ((n + 1 : Nat) : Rat) := ⟨_, rfl⟩
 have d0 : 0 < d := by rw [hd]; exact_mod_cast Nat.succ_pos n
 have h1 : e⁻¹ < d := by
  have : e⁻¹.floor < ((n + 1 : Nat) : Int) := by omega
  have := Rat.floor_lt_iff.1 this
  rw [hd]; exact_mod_cast this
 rw [← hd, Rat.div_def, Rat.one_mul]
 have i0 : 0 < d⁻¹ := Rat.inv_pos.2 d0
 have e0 : 0 < e⁻¹ := Rat.inv_pos.2 he
 have := Rat.mul_pos (show 0 < d - e⁻¹ by grind) (Rat.mul_pos i0 he)
 have x1 : d * d⁻¹ = 1 := Rat.mul_inv_cancel _ (by grind)
 have x2 : e * e⁻¹ = 1 := Rat.mul_inv_cancel _ (by grind)
 generalize e⁻¹ = e' at *
 generalize d⁻¹ = d' at *
 clear hd hn h1
 rw [show (d - e') * (d' * e) = (d * d') * e - (e * e') * d' by grind, x1, x2] at this
 grind
theorem lt_of_sq {a b : Rat} (hb : 0 ≤ b) (h : a * a < b * b) : a < b := by
 apply Rat.not_le.1
 intro hc
 have := Rat.mul_nonneg (show 0 ≤ a - b by grind) (show 0 ≤ a + b by grind)
 grind
noncomputable def sqSeq (r : Rat) (hr : 0 ≤ r) (n : Nat) : Rat := Classical.choose (rsq_ex r hr n)
theorem sqSeq_spec (r : Rat) (hr : 0 ≤ r) (n : Nat) : 0 ≤ sqSeq r hr n ∧ sqSeq r hr n * sqSeq r hr n ≤ r ∧ r < (sqSeq r hr n + 1 / ((n + 1 : Nat) : Rat)) * (sqSeq r hr n + 1 / ((n + 1 : Nat) : Rat)) := Classical.choose_spec (rsq_ex r hr n)
theorem one_div_pos (n : Nat) : 0 < 1 / ((n + 1 : Nat) : Rat) := by
 have d0 : (0 : Rat) < ((n + 1 : Nat) : Rat) := by exact_mod_cast Nat.succ_pos n
 rw [Rat.div_def, Rat.one_mul]; exact Rat.inv_pos.2 d0
theorem sq_cau (r : Rat) (hr : 0 ≤ r) : Cau (sqSeq r hr) := fun e he => by
 obtain ⟨N, hN⟩ := small_inv e he
 refine ⟨N, fun m hm n hn => ?_⟩
 obtain ⟨a0, a1, a2⟩ := sqSeq_spec r hr m
 obtain ⟨b0, b1, b2⟩ := sqSeq_spec r hr n
 have c1 := hN n hn
 have p := one_div_pos n
 have := lt_of_sq (a := sqSeq r hr m) (b := sqSeq r hr n + 1 / ((n + 1 : Nat) : Rat)) (by grind) (by grind)
 grind
namespace RR
open Classical in
noncomputable def sqrt (r : Rat) : RR := if hr : 0 ≤ r then mk ⟨sqSeq r hr, sq_cau r hr⟩ else 0
theorem sqrt_nonneg (r : Rat) : 0 ≤ sqrt r := by
 unfold sqrt
 split
 ·rename_i hr
  rw [← not_lt, lt_zero, zero_lt]
  intro h
  obtain ⟨d, d0, N, hN⟩ := (h : Pst fun n => -(sqSeq r hr n))
  have h1 : d ≤ -(sqSeq r hr N) := hN N (Nat.le_refl _)
  have h2 := (sqSeq_spec r hr N).1
  grind
 ·exact le_refl _
theorem sqrt_sq (r : Rat) (hr : 0 ≤ r) : sqrt r * sqrt r = r := by
 unfold sqrt
 rw [dif_pos hr]
 refine sound (b := ⟨fun _ => r, Cau.const r⟩) ?_
 have goal : Nul fun n => sqSeq r hr n * sqSeq r hr n - r := by
  intro e he
  obtain ⟨B, hB, M, hM⟩ := (sq_cau r hr).bdd
  have hC : 0 < 2 * B + 1 := by grind
  obtain ⟨N, hN⟩ := small_inv (e / (2 * B + 1)) (div_small he hC)
  obtain ⟨N1, hN1⟩ := small_inv 1 (by decide)
  refine ⟨M + N + N1, fun n hn => ?_⟩
  obtain ⟨b0, b1, b2⟩ := sqSeq_spec r hr n
  have c1 := hM n (by omega)
  have c2 := hN n (by omega)
  have c3 := hN1 n (by omega)
  have c4 := one_div_pos n
  have c5 := div_mul (e := e) hC
  show sqSeq r hr n * sqSeq r hr n - r < e ∧ -e < sqSeq r hr n * sqSeq r hr n - r
  generalize sqSeq r hr n = u at *
  generalize 1 / ((n + 1 : Nat) : Rat) = t at *
  generalize e / (2 * B + 1) = q at *
  have d1 := Rat.mul_pos (show 0 < q - t by grind) hC
  have d2 := Rat.mul_pos c4 (show 0 < B - u by grind)
  have d3 := Rat.mul_pos c4 (show 0 < 1 - t by grind)
  constructor <;> grind
 exact goal
theorem sqrt_pos {r : Rat} (h : 0 < r) : 0 < sqrt r := by
 rcases lt_or_eq (sqrt_nonneg r) with h1 | h1
 ·exact h1
 ·exfalso
  have h2 := sqrt_sq r (Rat.le_of_lt h)
  rw [← h1, ring (x := (0 : RR) * 0) (y := ofRat 0) [] (by decide +kernel)] at h2
  have := rat_inj h2
  rw [← this] at h
  exact Rat.lt_irrefl h
theorem sqrt_zero : sqrt 0 = 0 := by
 have h2 := sqrt_sq 0 (by decide)
 rcases tri (sqrt 0) 0 with h | h | h
 ·exact absurd h (sqrt_nonneg 0)
 ·exact h
 ·exact absurd (mul_pos h h) (by rw [h2]; exact lt_irrefl _)
theorem sg_sqrt {r : Rat} (h : 0 ≤ r) : sgR (sqrt r) = sgR (ofRat r) := by
 rcases tri (ofRat r) 0 with g | g | g
 ·exact absurd (rat_lt.1 g) (Rat.not_lt.2 h)
 ·have : r = 0 := rat_inj g
  subst this
  rw [sqrt_zero]; rfl
 ·rw [sg_pos g, sg_pos (sqrt_pos (rat_lt.1 g))]
end RR
end Vi

end
section
/- No program in sight: the numbers p + sqrt r and p - sqrt r: signs, comparison, the canonical form. -/
set_option linter.unusedSimpArgs false
set_option linter.unusedVariables false
namespace Vi
open RR
def sgQ (a : Rat) : Int := if a < 0 then -1 else if a = 0 then 0 else 1
theorem sgQ_cases (a : Rat) : (sgQ a = -1 ∧ a < 0) ∨ (sgQ a = 0 ∧ a = 0) ∨ (sgQ a = 1 ∧ 0 < a) := by
 unfold sgQ
 by_cases h : a < 0
 ·exact .inl ⟨if_pos h, h⟩
 ·rw [if_neg h]
  by_cases h2 : a = 0
  ·exact .inr (.inl ⟨if_pos h2, h2⟩)
  ·exact .inr (.inr ⟨if_neg h2, by grind⟩)
theorem sg_rat (a : Rat) : sgR (ofRat a) = sgQ a := by
 rcases sgQ_cases a with ⟨h1, h⟩ | ⟨h1, rfl⟩ | ⟨h1, h⟩ <;> rw [h1]
 ·exact RR.sg_neg (rat_lt.2 h)
 ·exact RR.sg_zero rfl
 ·exact sg_pos (rat_lt.2 h)
def signF (a b r : Rat) : Int :=
 if sgQ b * sgQ r = 0 ∨ sgQ a = sgQ b * sgQ r then sgQ a else if sgQ a = 0 then sgQ b * sgQ r else sgQ a * sgQ (a * a - b * b * r)
theorem signF_eq (a b r : Rat) (hr : 0 ≤ r) : signF a b r = sgR (ofRat a + ofRat b * sqrt r) := by
 have hn : sgR (ofRat b * sqrt r) = sgQ b * sgQ r := by rw [sg_mul, sg_sqrt hr, sg_rat, sg_rat]
 have hm := sg_rat a
 unfold signF
 rw [← hn, ← hm, ← sg_rat (a * a - b * b * r)]
 split
 ·rename_i h
  rcases h with h | h
  ·exact (sg_add_same (.inr h)).symm
  ·exact (sg_add_same (.inl h)).symm
 ·rename_i h
  split
  ·rename_i h0
   have := sg_iff0.1 h0
   rw [this, ring (x := 0 + ofRat b * sqrt r) (y := ofRat b * sqrt r) [b, sqrt r] (by decide +kernel)]
  ·rename_i h0
   rw [sg_add_diff ?_ h0]
   ·have e : ofRat a * ofRat a - ofRat b * sqrt r * (ofRat b * sqrt r) = ofRat (a * a - b * b * r) :=
      ring1 [a, b, r, sqrt r] (sqrt_sq r hr) (-(b * b)) (by decide +kernel)
    rw [e]
   ·rcases sg_cases (ofRat a) with ⟨g1, _⟩ | ⟨g1, _⟩ | ⟨g1, _⟩ <;> rcases sg_cases (ofRat b * sqrt r) with ⟨g2, _⟩ | ⟨g2, _⟩ | ⟨g2, _⟩ <;> rw [g1, g2] at h ⊢ <;> simp_all
theorem RR.sqrt_unique {r : Rat} (hr : 0 ≤ r) {u : RR} (h0 : 0 ≤ u) (h : u * u = ofRat r) : sqrt r = u := by
 have h2 := sqrt_sq r hr
 have e : (sqrt r - u) * (sqrt r + u) = 0 := by
  have : (sqrt r - u) * (sqrt r + u) = sqrt r * sqrt r - u * u := ring [sqrt r, u] (by decide +kernel)
  rw [this, h2, h]; exact ring [r] (by decide +kernel)
 by_cases h3 : sqrt r - u = 0
 ·exact ring1 [sqrt r, u] h3 1 (by decide +kernel)
 ·by_cases h4 : sqrt r + u = 0
  ·
   rcases lt_or_eq h0 with g | g
   ·have := add_pos_of_nonneg g (sqrt_nonneg r)
    rw [RR.add_comm, h4] at this
    exact absurd this (lt_irrefl 0)
   ·rw [← g] at h4 ⊢
    exact ring1 [sqrt r] h4 1 (by decide +kernel)
  ·exact absurd e (mul_ne h3 h4)
theorem RR.sqrt_mul {p q : Rat} (hp : 0 ≤ p) (hq : 0 ≤ q) : sqrt (p * q) = sqrt p * sqrt q := by
 refine RR.sqrt_unique (Rat.mul_nonneg hp hq) (RR.mul_nonneg (sqrt_nonneg p) (sqrt_nonneg q)) ?_
 exact ring2 [sqrt p, sqrt q, p, q] (sqrt_sq p hp) (sqrt q * sqrt q) (sqrt_sq q hq) p (by decide +kernel)
theorem RR.sqrt_sqr {q : Rat} (hq : 0 ≤ q) : sqrt (q * q) = ofRat q := RR.sqrt_unique (Rat.mul_nonneg hq hq) (rat_le.2 hq) rfl
structure Rl where
 p : Rat
 r : Rat
 neg : Bool
namespace Rl
def s (x : Rl) : Rat := if x.neg then -1 else 1
def Ok (x : Rl) : Prop := (x.r = 0 ∧ x.neg = false) ∨ (0 < x.r ∧ ∀ q : Rat, q * q ≠ x.r)
theorem Ok.nonneg {x : Rl} (h : x.Ok) : 0 ≤ x.r := by
 rcases h with ⟨h, _⟩ | ⟨h, _⟩
 ·rw [h]; exact Rat.le_refl
 ·exact Rat.le_of_lt h
theorem s_sq (x : Rl) : x.s * x.s = 1 := by unfold s; split <;> decide +kernel
theorem s_cases (x : Rl) : (x.neg = true ∧ x.s = -1) ∨ (x.neg = false ∧ x.s = 1) := by
 unfold s; cases x.neg <;> simp
noncomputable def val (x : Rl) : RR := ofRat x.p + ofRat x.s * sqrt x.r
noncomputable def cmp (x y : Rl) : Int := sgR (x.val - y.val)
def rat (q : Rat) : Rl := ⟨q, 0, false⟩
theorem rat_ok (q : Rat) : (rat q).Ok := .inl ⟨rfl, rfl⟩
theorem rat_val (q : Rat) : (rat q).val = ofRat q := by
 unfold val
 show ofRat q + ofRat (rat q).s * sqrt 0 = ofRat q
 rw [sqrt_zero]; exact ring [ofRat q, ofRat (rat q).s] (by decide +kernel)
def cmpF (x y : Rl) : Int :=
 if sgQ (-y.s) * sgQ y.r = 0 ∨ signF (x.p - y.p) x.s x.r = sgQ (-y.s) * sgQ y.r then signF (x.p - y.p) x.s x.r
 else if signF (x.p - y.p) x.s x.r = 0 then sgQ (-y.s) * sgQ y.r
 else signF (x.p - y.p) x.s x.r * signF ((x.p - y.p) * (x.p - y.p) + x.r - y.r) (2 * ((x.p - y.p) * x.s)) x.r
theorem opp_of {x y : RR} (h : ¬ (sgR y = 0 ∨ sgR x = sgR y)) (h0 : ¬ sgR x = 0) : sgR x = -sgR y := by
 rcases sg_cases x with ⟨g1, _⟩ | ⟨g1, _⟩ | ⟨g1, _⟩ <;> rcases sg_cases y with ⟨g2, _⟩ | ⟨g2, _⟩ | ⟨g2, _⟩ <;> rw [g1, g2] at h ⊢ <;> simp_all
theorem cmpF_eq (x y : Rl) (hx : 0 ≤ x.r) (hy : 0 ≤ y.r) : cmpF x y = cmp x y := by
 have hn : sgR (ofRat (-y.s) * sqrt y.r) = sgQ (-y.s) * sgQ y.r := by rw [sg_mul, sg_sqrt hy, sg_rat, sg_rat]
 have hm := signF_eq (x.p - y.p) x.s x.r hx
 unfold cmpF cmp
 have e : x.val - y.val = (ofRat (x.p - y.p) + ofRat x.s * sqrt x.r) + ofRat (-y.s) * sqrt y.r := by
  unfold val
  exact ring [x.p, y.p, x.s, y.s, sqrt x.r, sqrt y.r] (by decide +kernel)
 rw [e, ← hn, hm]
 split
 ·rename_i h
  rcases h with h | h
  ·exact (sg_add_same (.inr h)).symm
  ·exact (sg_add_same (.inl h)).symm
 ·rename_i h
  split
  ·rename_i h0
   have := sg_iff0.1 h0
   rw [this, ring (x := 0 + ofRat (-y.s) * sqrt y.r) (y := ofRat (-y.s) * sqrt y.r) [y.s, sqrt y.r] (by decide +kernel)]
  ·rename_i h0
   rw [sg_add_diff (opp_of h h0) h0, signF_eq _ _ _ hx]
   congr 2
   have s1 : ofRat x.s * ofRat x.s = 1 := by rw [← rat_mul, s_sq]; rfl
   have s2 : ofRat y.s * ofRat y.s = 1 := by rw [← rat_mul, s_sq]; rfl
   have r1 := sqrt_sq x.r hx
   have r2 := sqrt_sq y.r hy
   have t1 : ofRat x.s * sqrt x.r * (ofRat x.s * sqrt x.r) = x.r := ring2 [x.s, sqrt x.r, x.r] s1 (sqrt x.r * sqrt x.r) r1 1 (by decide +kernel)
   have t2 : ofRat y.s * sqrt y.r * (ofRat y.s * sqrt y.r) = y.r := ring2 [y.s, sqrt y.r, y.r] s2 (sqrt y.r * sqrt y.r) r2 1 (by decide +kernel)
   exact ring2 [x.p, y.p, x.s, sqrt x.r, y.s, sqrt y.r, x.r, y.r] t1 (-1) t2 1 (by decide +kernel)
theorem sr_sq (x : Rl) (hx : 0 ≤ x.r) : ofRat x.s * sqrt x.r * (ofRat x.s * sqrt x.r) = x.r := by
 have s1 : ofRat x.s * ofRat x.s = 1 := by rw [← rat_mul, s_sq]; rfl
 exact ring2 [x.s, sqrt x.r, x.r] s1 (sqrt x.r * sqrt x.r) (sqrt_sq x.r hx) 1 (by decide +kernel)
theorem inj {x y : Rl} (hx : x.Ok) (hy : y.Ok) (h : x.val = y.val) : x = y := by
 have x0 := hx.nonneg
 have y0 := hy.nonneg
 obtain ⟨d, hd⟩ : ∃ d, d = x.p - y.p := ⟨_, rfl⟩
 have e : ofRat d + ofRat x.s * sqrt x.r = ofRat y.s * sqrt y.r := by
  unfold val at h
  rw [hd]
  exact ring1 [x.p, y.p, x.s, y.s, sqrt x.r, sqrt y.r] h 1 (by decide +kernel)
 have e2 : ofRat d + ofRat x.s * sqrt x.r - ofRat y.s * sqrt y.r = 0 := by rw [e]; exact ring [y.s, sqrt y.r] (by decide +kernel)
 have sq : ofRat (2 * d * x.s) * sqrt x.r = ofRat (y.r - x.r - d * d) := by
  have q1 := sr_sq x x0
  have q2 := sr_sq y y0
  have : (ofRat d + ofRat x.s * sqrt x.r) * (ofRat d + ofRat x.s * sqrt x.r) = y.r := by rw [e, q2]
  exact ring2 [d, x.s, sqrt x.r, x.r, y.r] this 1 q1 (-1) (by decide +kernel)
 by_cases hd0 : d = 0
 ·subst hd0
  have hp : x.p = y.p := by grind
  have hr : x.r = y.r := by
   have q1 := sr_sq x x0
   have q2 := sr_sq y y0
   rw [← e, ring (x := (ofRat 0 + ofRat x.s * sqrt x.r) * (ofRat 0 + ofRat x.s * sqrt x.r)) (y := ofRat x.s * sqrt x.r * (ofRat x.s * sqrt x.r)) [x.s, sqrt x.r] (by decide +kernel), q1] at q2
   exact rat_inj q2
  have hn : x.neg = y.neg := by
   rcases hx with ⟨a, b⟩ | ⟨a, b⟩
   ·rcases hy with ⟨c, d⟩ | ⟨c, d⟩
    ·rw [b, d]
    ·rw [← hr, a] at c; exact absurd c Rat.lt_irrefl
   ·have hs := sqrt_pos a
    rw [← hr] at e
    have : (ofRat x.s - ofRat y.s) * sqrt x.r = 0 := ring1 [x.s, y.s, sqrt x.r] e 1 (by decide +kernel)
    have hxy : ofRat x.s - ofRat y.s = 0 := by
     apply Classical.byContradiction
     intro hc
     exact mul_ne hc (ne_of_lt hs).symm this
    rw [← rat_sub] at hxy
    have hxy := rat_inj (q := 0) hxy
    rcases s_cases x with ⟨a1, a2⟩ | ⟨a1, a2⟩ <;> rcases s_cases y with ⟨b1, b2⟩ | ⟨b1, b2⟩ <;> rw [a2, b2] at hxy <;> rw [a1, b1]
    ·exact absurd hxy (by decide +kernel)
    ·exact absurd hxy (by decide +kernel)
  cases x; cases y
  simp_all
 ·
  exfalso
  have hc : 2 * d * x.s ≠ 0 := by
   have := s_sq x
   intro h0
   have : 2 * d * (x.s * x.s) = 0 := by grind
   grind
  obtain ⟨w, hw⟩ : ∃ w : Rat, w = (y.r - x.r - d * d) / (2 * d * x.s) := ⟨_, rfl⟩
  have hw2 : 2 * d * x.s * w = y.r - x.r - d * d := by
   rw [hw, Rat.div_def, Rat.mul_comm, Rat.mul_assoc, Rat.inv_mul_cancel _ hc, Rat.mul_one]
  have hs : sqrt x.r = ofRat w := by
   have h1 : ofRat (2 * d * x.s) * (sqrt x.r - ofRat w) = 0 := by
    rw [← hw2] at sq
    exact ring1 [d, x.s, w, sqrt x.r] sq 1 (by decide +kernel)
   apply Classical.byContradiction
   intro hne
   refine mul_ne (fun h => hc (rat_inj h)) (fun h => hne ?_) h1
   exact ring1 [sqrt x.r, w] h 1 (by decide +kernel)
  have hww : w * w = x.r := by
   have := sqrt_sq x.r x0
   rw [hs] at this
   exact rat_inj this
  rcases hx with ⟨a, b⟩ | ⟨a, b⟩
  ·
   rw [a] at hww
   have w0 : w = 0 := by rcases Rat.mul_eq_zero.1 hww with h | h <;> exact h
   have hyr : y.r = d * d := by rw [w0, a] at hw2; grind
   rcases hy with ⟨c, _⟩ | ⟨c, f⟩
   ·have : d * d = 0 := by rw [← hyr, c]
    rcases Rat.mul_eq_zero.1 this with h | h <;> exact hd0 h
   ·exact f d hyr.symm
  ·exact b w hww
end Rl
end Vi

end
section
/- No program in sight: whole parts of numbers with a root. -/
set_option linter.unusedSimpArgs false
set_option linter.unusedVariables false
namespace Vi
open RR
namespace RR
theorem sq_lt {u v : RR} (hu : 0 ≤ u) (hv : 0 ≤ v) (h : u * u < v * v) : u < v := by
 have hu := hu
 rw [← not_le]
 intro hc
 refine absurd h (not_lt.2 (le_of_nonneg ((u - v) * (u + v)) (mul_nonneg (sub_nonneg.2 hc) (add_nonneg hu hv)) (ring [u, v] (by decide +kernel))))
theorem sq_le {u v : RR} (hu : 0 ≤ u) (hv : 0 ≤ v) (h : u * u ≤ v * v) : u ≤ v := by
 rw [← not_lt]
 intro hc
 have h1 := sub_pos.2 hc
 have h2 : 0 < u + v := lt_of_lt_of_le (lt_of_le_of_lt hv hc) (le_of_nonneg v hv (ring [u, v] (by decide +kernel)))
 exact absurd h (not_le.2 (lt_of_pos ((u - v) * (u + v)) (mul_pos h1 h2) (ring [u, v] (by decide +kernel))))
theorem mul_lt_iff {d u v : RR} (hd : 0 < d) : d * u < d * v ↔ u < v := by
 rw [← sub_pos, ← sub_pos (x := u), ring (x := d * v - d * u) (y := d * (v - u)) [d, u, v] (by decide +kernel)]
 constructor
 ·intro h
  rcases tri (v - u) 0 with g | g | g
  ·exact absurd h (le_of_lt (mul_neg hd g))
  ·rw [g, ring (x := d * 0) (y := 0) [d] (by decide +kernel)] at h; exact absurd h (lt_irrefl 0)
  ·exact g
 ·exact mul_pos hd
theorem mul_le_iff {d u v : RR} (hd : 0 < d) : d * u ≤ d * v ↔ u ≤ v := by
 rw [← not_lt, ← not_lt, mul_lt_iff hd]
def IsFl (v : RR) (n : Int) : Prop := ofRat n ≤ v ∧ v < ofRat ((n + 1 : Int) : Rat)
theorem IsFl.unique {v : RR} {m n : Int} (h1 : IsFl v m) (h2 : IsFl v n) : m = n := by
 have a := rat_lt.1 (lt_of_le_of_lt h1.1 h2.2)
 have b := rat_lt.1 (lt_of_le_of_lt h2.1 h1.2)
 have a : m < n + 1 := by exact_mod_cast a
 have b : n < m + 1 := by exact_mod_cast b
 omega
end RR
theorem rat_mul_den (p : Rat) : p * (p.den : Rat) = (p.num : Rat) := by
 have h := Rat.num_divInt_den p
 rw [Rat.divInt_eq_div] at h
 have hd : ((p.den : Int) : Rat) ≠ 0 := by have := p.den_nz; exact_mod_cast this
 have e : ((p.den : Int) : Rat) = (p.den : Rat) := rfl
 rw [e] at h hd
 generalize (p.den : Rat) = d at *
 generalize (p.num : Rat) = n at *
 rw [← h, Rat.div_def, Rat.mul_assoc, Rat.inv_mul_cancel _ hd, Rat.mul_one]
theorem isq_real (X r : Nat) (h1 : r * r ≤ X) (h2 : X < (r + 1) * (r + 1)) : ofRat (r : Rat) ≤ RR.sqrt (X : Rat) ∧ RR.sqrt (X : Rat) < ofRat ((r : Rat) + 1) := by
 have hX : (0 : Rat) ≤ (X : Rat) := by exact_mod_cast Nat.zero_le X
 have hr : (0 : Rat) ≤ (r : Rat) := by exact_mod_cast Nat.zero_le r
 constructor
 ·refine sq_le (rat_le.2 hr) (sqrt_nonneg _) ?_
  rw [sqrt_sq _ hX, ← rat_mul, rat_le]
  exact_mod_cast h1
 ·refine sq_lt (sqrt_nonneg _) (rat_le.2 (by grind)) ?_
  rw [sqrt_sq _ hX, ← rat_mul, rat_lt]
  exact_mod_cast h2
namespace Rl
noncomputable def topI (isq : Nat → Nat) (x : Rl) : Int :=
 if x.neg then x.p.num * x.r.den - ((isq ((x.p.den * x.p.den : Int) * (x.r.num * x.r.den)).toNat : Nat) + 1 : Int) else x.p.num * x.r.den + (isq ((x.p.den * x.p.den : Int) * (x.r.num * x.r.den)).toNat : Nat)
noncomputable def flI (isq : Nat → Nat) (x : Rl) : Int := topI isq x / (x.p.den * x.r.den)
theorem flI_ok (isq : Nat → Nat) (hq : ∀ X, isq X * isq X ≤ X ∧ X < (isq X + 1) * (isq X + 1)) (x : Rl) (hx : x.Ok) : IsFl x.val (flI isq x) := by
 have hd : (0 : Int) < x.p.den := by have := x.p.den_nz; omega
 have hb : (0 : Int) < x.r.den := by have := x.r.den_nz; omega
 have hr := hx.nonneg
 have ha : 0 ≤ x.r.num := Rat.num_nonneg.2 hr
 obtain ⟨D, hD⟩ : ∃ D : Int, D = x.p.den * x.r.den := ⟨_, rfl⟩
 have hD0 : 0 < D := by rw [hD]; exact Int.mul_pos hd hb
 obtain ⟨X, hX⟩ : ∃ X : Nat, X = ((x.p.den * x.p.den : Int) * (x.r.num * x.r.den)).toNat := ⟨_, rfl⟩
 have hXi : (X : Int) = (x.p.den * x.p.den : Int) * (x.r.num * x.r.den) := by
  rw [hX]; exact Int.toNat_of_nonneg (Int.mul_nonneg (Int.le_of_lt (Int.mul_pos hd hd)) (Int.mul_nonneg ha (Int.le_of_lt hb)))
 obtain ⟨g1, g2⟩ := hq X
 obtain ⟨r, hrt⟩ : ∃ r, r = isq X := ⟨_, rfl⟩
 rw [← hrt] at g1 g2
 obtain ⟨w1, w2⟩ := isq_real X r g1 g2
 have hpe : x.p * (x.p.den : Rat) = (x.p.num : Rat) := rat_mul_den x.p
 have hre : x.r * (x.r.den : Rat) = (x.r.num : Rat) := rat_mul_den x.r
 have hDr : ((D : Int) : Rat) = (x.p.den : Rat) * (x.r.den : Rat) := by rw [hD]; push_cast; rfl
 have hXr : (X : Rat) = ((x.p.den : Rat) * (x.r.den : Rat)) * ((x.p.den : Rat) * (x.r.den : Rat)) * x.r := by
  have : ((X : Int) : Rat) = ((x.p.den * x.p.den : Int) * (x.r.num * x.r.den) : Int) := by rw [hXi]
  have e2 : ((X : Int) : Rat) = (X : Rat) := rfl
  rw [← e2, this]
  push_cast
  rw [← hre]
  grind
 have hDq : (0 : Rat) < ((D : Int) : Rat) := by exact_mod_cast hD0
 have hW : RR.sqrt (X : Rat) = ofRat ((D : Int) : Rat) * sqrt x.r := by
  rw [hXr, ← hDr, RR.sqrt_mul (Rat.mul_nonneg (Rat.le_of_lt hDq) (Rat.le_of_lt hDq)) hr, RR.sqrt_sqr (Rat.le_of_lt hDq)]
 have hN : ofRat ((D : Int) : Rat) * ofRat x.p = ofRat ((x.p.num * x.r.den : Int) : Rat) := by
  rw [← rat_mul, hDr]
  congr 1
  push_cast
  rw [← hpe]
  grind
 have hDv : ofRat ((D : Int) : Rat) * x.val = ofRat ((x.p.num * x.r.den : Int) : Rat) + ofRat x.s * RR.sqrt (X : Rat) := by
  unfold val
  rw [hW, ← hN]
  exact ring [((D : Int) : Rat), x.p, x.s, sqrt x.r] (by decide +kernel)
 have key : ofRat ((topI isq x : Int) : Rat) ≤ ofRat ((D : Int) : Rat) * x.val ∧ ofRat ((D : Int) : Rat) * x.val < ofRat ((topI isq x + 1 : Int) : Rat) := by
  rw [hDv]
  unfold topI
  rw [← hX, ← hrt]
  rcases s_cases x with ⟨n1, n2⟩ | ⟨n1, n2⟩
  ·rw [n1, n2, if_pos rfl]
   have hstrict : ofRat (r : Rat) < RR.sqrt (X : Rat) := by
    rcases lt_or_eq w1 with h | h
    ·exact h
    ·exfalso
     rcases hx with ⟨_, h2⟩ | ⟨h1, h2⟩
     ·rw [n1] at h2; cases h2
     ·refine h2 ((r : Rat) * ((D : Int) : Rat)⁻¹) ?_
      have h3 := sqrt_sq (X : Rat) (by exact_mod_cast Nat.zero_le X)
      rw [← h, ← rat_mul] at h3
      have h4 := rat_inj h3
      rw [hXr, ← hDr] at h4
      have e1 : ((D : Int) : Rat) * ((D : Int) : Rat)⁻¹ = 1 := Rat.mul_inv_cancel _ (by grind)
      generalize ((D : Int) : Rat)⁻¹ = i at *
      generalize ((D : Int) : Rat) = q at *
      generalize (r : Rat) = z at *
      have : z * i * (z * i) = (z * z) * (i * i) := by grind
      rw [this, h4]
      have : q * q * x.r * (i * i) = (q * i) * (q * i) * x.r := by grind
      rw [this, e1]; grind
   constructor
   ·refine le_of_lt (lt_of_pos (ofRat ((r : Rat) + 1) - RR.sqrt (X : Rat)) (sub_pos.2 w2) ?_)
    have e : ((x.p.num * x.r.den - ((r : Int) + 1) : Int) : Rat) = ((x.p.num * x.r.den : Int) : Rat) - ((r : Rat) + 1) := by push_cast; rfl
    rw [e]
    generalize ((x.p.num * x.r.den : Int) : Rat) = y1
    generalize RR.sqrt (X : Rat) = y2
    generalize (r : Rat) = y3
    exact ring [y1, y3, y2] (by decide +kernel)
   ·refine lt_of_pos (RR.sqrt (X : Rat) - ofRat (r : Rat)) (sub_pos.2 hstrict) ?_
    have e : ((x.p.num * x.r.den - ((r : Int) + 1) + 1 : Int) : Rat) = ((x.p.num * x.r.den : Int) : Rat) - (r : Rat) := by push_cast; grind
    rw [e]
    generalize ((x.p.num * x.r.den : Int) : Rat) = y1
    generalize RR.sqrt (X : Rat) = y2
    generalize (r : Rat) = y3
    exact ring [y1, y3, y2] (by decide +kernel)
  ·rw [n1, n2, if_neg (by simp)]
   constructor
   ·refine le_of_nonneg (RR.sqrt (X : Rat) - ofRat (r : Rat)) (sub_nonneg.2 w1) ?_
    have e : ((x.p.num * x.r.den + (r : Int) : Int) : Rat) = ((x.p.num * x.r.den : Int) : Rat) + (r : Rat) := by push_cast; rfl
    rw [e]
    generalize ((x.p.num * x.r.den : Int) : Rat) = y1
    generalize RR.sqrt (X : Rat) = y2
    generalize (r : Rat) = y3
    exact ring [y1, y3, y2] (by decide +kernel)
   ·refine lt_of_pos (ofRat ((r : Rat) + 1) - RR.sqrt (X : Rat)) (sub_pos.2 w2) ?_
    have e : ((x.p.num * x.r.den + (r : Int) + 1 : Int) : Rat) = ((x.p.num * x.r.den : Int) : Rat) + ((r : Rat) + 1) := by push_cast; grind
    rw [e]
    generalize ((x.p.num * x.r.den : Int) : Rat) = y1
    generalize RR.sqrt (X : Rat) = y2
    generalize (r : Rat) = y3
    exact ring [y1, y3, y2] (by decide +kernel)
 have hDR : 0 < ofRat ((D : Int) : Rat) := rat_lt.2 hDq
 unfold flI
 rw [← hD]
 generalize topI isq x = t at *
 have d1 := Int.mul_ediv_add_emod t D
 have d2 := Int.emod_nonneg t (show D ≠ 0 by omega)
 have d3 := Int.emod_lt_of_pos t hD0
 generalize t / D = q at *
 constructor
 ·refine (mul_le_iff hDR).1 (le_trans ?_ key.1)
  rw [← rat_mul, rat_le]
  have : D * q ≤ t := by omega
  exact_mod_cast this
 ·refine (mul_lt_iff hDR).1 (lt_of_lt_of_le key.2 ?_)
  rw [← rat_mul, rat_le]
  have : t + 1 ≤ D * (q + 1) := by rw [Int.mul_add, Int.mul_one]; omega
  exact_mod_cast this
end Rl
end Vi
namespace Vi
open RR
def Rl.scR (x : Rl) (q : Rat) : Rl := ⟨x.p * q, q * q * x.r, !decide (q * q * x.r = 0) && (x.neg != decide (q < 0))⟩
namespace Rl
end Rl
end Vi
namespace Vi
open RR
end Vi

end
section
/- Sizes of fractions, found by instances; the least and the greatest of fractions; the sign of a fraction. -/
set_option linter.unusedSimpArgs false
set_option linter.unusedVariables false
namespace Vi
class HasSz (q : Rat) (k : outParam Nat) : Prop where
 sz : Sz k q
instance (p q : Rat) (i j : Nat) [h : HasSz p i] [g : HasSz q j] : HasSz (p + q) (i + j + 1) := ⟨h.sz.add g.sz⟩
instance (p q : Rat) (i j : Nat) [h : HasSz p i] [g : HasSz q j] : HasSz (p - q) (i + j + 1) := ⟨h.sz.sub g.sz⟩
instance (p q : Rat) (i j : Nat) [h : HasSz p i] [g : HasSz q j] : HasSz (p * q) (i + j) := ⟨h.sz.mul g.sz⟩
instance (p : Rat) (i : Nat) [h : HasSz p i] : HasSz (-p) i := ⟨h.sz.neg⟩
theorem lt_pow_self (n : Nat) : n < 256 ^ (n + 1) := by
 induction n with
 | zero => decide
 | succ n ih => rw [Nat.pow_succ]; omega
theorem int_hs (z : Int) (k : Nat) (h : z.natAbs < 256 ^ (k + 1)) : HasSz (z : Rat) (k + 1) :=
 ⟨by rw [Rat.num_intCast]; exact h, by rw [Rat.den_intCast, Nat.pow_succ]; have := Nat.pow_pos (a := 256) (n := k) (by omega); omega⟩
instance (n : Nat) : HasSz (no_index (OfNat.ofNat n : Rat)) (n + 1) := by
 have := int_hs (n : Int) n (by simpa using lt_pow_self n)
 exact this
instance : HasSz (0 : Rat) 1 := ⟨by unfold Sz; decide⟩
instance : HasSz (1 : Rat) 1 := ⟨by unfold Sz; decide⟩
instance : HasSz (2 : Rat) 1 := ⟨by unfold Sz; decide⟩
instance : HasSz (4 : Rat) 1 := ⟨by unfold Sz; decide⟩
theorem hs_div (p q : Rat) (i j : Nat) [h : HasSz p i] [g : HasSz q j] (h0 : q ≠ 0) : HasSz (p / q) (i + j) := ⟨h.sz.div g.sz (fun e => h0 (Rat.num_eq_zero.1 e))⟩
theorem hs_mono {p : Rat} {i j : Nat} (h : HasSz p i) (hij : i ≤ j) : HasSz p j := ⟨h.sz.mono hij⟩
def minQ (p q : Rat) : Rat := if p ≤ q then p else q
def maxQ (p q : Rat) : Rat := if q ≤ p then p else q
instance (p q : Rat) (i j : Nat) [h : HasSz p i] [g : HasSz q j] : HasSz (minQ p q) (i + j) := by
 unfold minQ; split
 ·exact hs_mono h (by omega)
 ·exact hs_mono g (by omega)
instance (p q : Rat) (i j : Nat) [h : HasSz p i] [g : HasSz q j] : HasSz (maxQ p q) (i + j) := by
 unfold maxQ; split
 ·exact hs_mono h (by omega)
 ·exact hs_mono g (by omega)
end Vi
namespace Go.Proofs.YthdaimoankaciaaGreatDoor
open Go Go.RowKit Go.Sy
open Vi
theorem fz {q : Rat} {k : Nat} [h : HasSz q k] (hk : k ≤ 131000 := by first | omega | decide) : Fits q := h.sz.fits hk
theorem cmpI_sg (p : Rat) : cmpI p.num 0 = sgQ p := by
 rcases sgn_cases p with ⟨h1, h2⟩ | ⟨h1, h2⟩ | ⟨h1, h2⟩ <;> rcases sgQ_cases p with ⟨g1, g2⟩ | ⟨g1, g2⟩ | ⟨g1, g2⟩ <;> rw [h1, g1] <;> grind
theorem cmpQ_sg (p q : Rat) : cmpQ p q = sgQ (p - q) := by
 rcases cmpQ_cases p q with ⟨h1, h2⟩ | ⟨h1, h2⟩ | ⟨h1, h2⟩ <;> rcases sgQ_cases (p - q) with ⟨g1, g2⟩ | ⟨g1, g2⟩ | ⟨g1, g2⟩ <;> rw [h1, g1] <;> grind
end Go.Proofs.YthdaimoankaciaaGreatDoor

end
section
/- No program in sight: the canonical form of p + q * sqrt r, and what follows for moves, inverses and values of quadratics. -/
set_option linter.unusedSimpArgs false
set_option linter.unusedVariables false
namespace Vi
open RR Rl
noncomputable def mkR (p q r : Rat) : Rl := open Classical in
 if h : ∃ w : Rat, 0 ≤ w ∧ w * w = r then ⟨p + q * Classical.choose h, 0, false⟩ else ⟨p, q * q * r, decide (q < 0)⟩
theorem sq_inj {v w : Rat} (hv : 0 ≤ v) (hw : 0 ≤ w) (h : v * v = w * w) : v = w := by
 have h2 : (v - w) * (v + w) = 0 := by grind
 rcases Rat.mul_eq_zero.1 h2 with h3 | h3 <;> grind
theorem mkR_sq (p q r w : Rat) (h0 : 0 ≤ w) (h : w * w = r) : mkR p q r = ⟨p + q * w, 0, false⟩ := by
 unfold mkR
 have hx : ∃ w : Rat, 0 ≤ w ∧ w * w = r := ⟨w, h0, h⟩
 rw [dif_pos hx]
 obtain ⟨h1, h2⟩ := Classical.choose_spec hx
 rw [sq_inj h1 h0 (h2.trans h.symm)]
theorem mkR_irr (p q r : Rat) (h : ∀ w : Rat, w * w ≠ r) : mkR p q r = ⟨p, q * q * r, decide (q < 0)⟩ := by
 unfold mkR
 exact dif_neg fun ⟨w, _, hw⟩ => h w hw
theorem sz_root {w : Rat} {k : Nat} [h : HasSz (w * w) k] : HasSz w k := by
 have h1 : (w * w).num = w.num * w.num ∧ (w * w).den = w.den * w.den := by
  have hc : Nat.Coprime (w.num * w.num).natAbs (w.den * w.den) := by
   rw [Int.natAbs_mul]
   exact Nat.Coprime.mul_left (Nat.Coprime.mul_right w.reduced w.reduced) (Nat.Coprime.mul_right w.reduced w.reduced)
  have e : w * w = ⟨w.num * w.num, w.den * w.den, Nat.mul_ne_zero w.den_nz w.den_nz, hc⟩ := by
   rw [Rat.mul_def, ← Rat.mk_eq_normalize]
  rw [e]; exact ⟨rfl, rfl⟩
 have h2 := h.sz
 unfold Sz at h2
 rw [h1.1, h1.2, Int.natAbs_mul] at h2
 refine ⟨?_⟩
 unfold Sz
 have a1 := Nat.le_mul_self w.num.natAbs
 have a2 := Nat.le_mul_self w.den
 omega
theorem hz0 : HasSz (0 : Rat) 1 := inferInstance
instance (p q r : Rat) (i j k : Nat) [hp : HasSz p i] [hq : HasSz q j] [hr : HasSz r k] : HasSz (mkR p q r).p (i + (j + k) + 1) := by
 by_cases h : ∃ w : Rat, 0 ≤ w ∧ w * w = r
 ·obtain ⟨w, h0, hw⟩ := h
  rw [mkR_sq p q r w h0 hw]
  subst hw
  haveI : HasSz w k := sz_root
  exact (inferInstance : HasSz (p + q * w) _)
 ·unfold mkR
  rw [dif_neg h]
  exact hs_mono hp (by omega)
instance (p q r : Rat) (i j k : Nat) [hp : HasSz p i] [hq : HasSz q j] [hr : HasSz r k] : HasSz (mkR p q r).r (j + j + k + 1) := by
 by_cases h : ∃ w : Rat, 0 ≤ w ∧ w * w = r
 ·obtain ⟨w, h0, hw⟩ := h
  rw [mkR_sq p q r w h0 hw]
  exact hs_mono hz0 (by omega)
 ·unfold mkR
  rw [dif_neg h]
  exact hs_mono (inferInstance : HasSz (q * q * r) _) (by omega)
def Rl.cj (x : Rl) : Rl := ⟨x.p, x.r, !x.neg⟩
def Rl.nm (x : Rl) : Rat := x.p * x.p - x.r
theorem nm_ne {x : Rl} (hx : x.Ok) (h0 : x.r ≠ 0) : x.nm ≠ 0 := by
 rcases hx with ⟨h, _⟩ | ⟨_, h⟩
 ·exact absurd h h0
 ·intro e; exact h x.p (by unfold Rl.nm at e; grind)
noncomputable def Rl.inv (x : Rl) : Rl := if x.r = 0 then Rl.rat (1 / x.p) else x.cj.scR (1 / x.nm)
theorem hs_div0 (p q : Rat) (i j : Nat) [h : HasSz p i] [g : HasSz q j] : HasSz (p / q) (i + j + 1) := by
 by_cases h0 : q = 0
 ·rw [h0, show p / 0 = 0 by rw [Rat.div_def]; simp]
  exact hs_mono hz0 (by omega)
 ·exact hs_mono (hs_div p q i j h0) (by omega)
instance (x : Rl) (i j : Nat) [h : HasSz x.p i] [g : HasSz x.r j] : HasSz x.nm (i + i + j + 1) := (inferInstance : HasSz (x.p * x.p - x.r) _)
instance (x : Rl) (i j : Nat) [h : HasSz x.p i] [g : HasSz x.r j] : HasSz x.inv.p (i + (1 + (i + i + j + 1) + 1)) := by
 haveI := hs_div0 1 x.nm 1 (i + i + j + 1)
 haveI := hs_div0 1 x.p 1 i
 unfold Rl.inv
 split
 ·exact hs_mono (inferInstance : HasSz (1 / x.p) _) (by omega)
 ·exact (inferInstance : HasSz (x.p * (1 / x.nm)) _)
instance (x : Rl) (i j : Nat) [h : HasSz x.p i] [g : HasSz x.r j] : HasSz x.inv.r (1 + (i + i + j + 1) + 1 + (1 + (i + i + j + 1) + 1) + j) := by
 haveI := hs_div0 1 x.nm 1 (i + i + j + 1)
 unfold Rl.inv
 split
 ·exact hs_mono hz0 (by omega)
 ·exact (inferInstance : HasSz (1 / x.nm * (1 / x.nm) * x.r) _)
theorem val_rat0 {x : Rl} (h : x.r = 0) : x.val = ofRat x.p := by
 unfold Rl.val
 rw [h, sqrt_zero]
 exact ring [x.p, x.s] (by decide +kernel)
theorem val_ne0 {x : Rl} (hx : x.Ok) (h0 : x ≠ Rl.rat 0) : x.val ≠ 0 := by
 intro e
 exact h0 (inj hx (rat_ok 0) (e.trans (rat_val 0).symm))
end Vi
set_option linter.unusedSimpArgs false
set_option linter.unusedVariables false
namespace Vi
open RR Rl
theorem irr_nat (n k : Nat) (h1 : k * k < n) (h2 : n < (k + 1) * (k + 1)) (w : Rat) : w * w ≠ ((n : Nat) : Rat) := by
 intro e
 have hc : Nat.Coprime (w.num * w.num).natAbs (w.den * w.den) := by
  rw [Int.natAbs_mul]
  exact Nat.Coprime.mul_left (Nat.Coprime.mul_right w.reduced w.reduced) (Nat.Coprime.mul_right w.reduced w.reduced)
 have e2 : w * w = ⟨w.num * w.num, w.den * w.den, Nat.mul_ne_zero w.den_nz w.den_nz, hc⟩ := by
  rw [Rat.mul_def, ← Rat.mk_eq_normalize]
 have e3 : (w * w).num = w.num * w.num := by rw [e2]
 have e4 : (((n : Nat) : Rat)).num = (n : Int) := by rfl
 rw [e, e4] at e3
 have e5 : n = w.num.natAbs * w.num.natAbs := by rw [← Int.natAbs_mul, ← e3]; rfl
 generalize w.num.natAbs = m at e5
 rcases Nat.lt_or_ge m (k + 1) with h | h
 ·have := Nat.mul_le_mul (show m ≤ k by omega) (show m ≤ k by omega); omega
 ·have := Nat.mul_le_mul h h; omega
theorem ok_nat (p : Rat) (n k : Nat) (b : Bool) (h0 : 0 < n) (h1 : k * k < n) (h2 : n < (k + 1) * (k + 1)) : (⟨p, ((n : Nat) : Rat), b⟩ : Rl).Ok :=
 .inr ⟨by have : ((0 : Nat) : Rat) < ((n : Nat) : Rat) := Rat.natCast_lt_natCast.2 h0
          exact this, irr_nat n k h1 h2⟩
end Vi

end
section
/- No program in sight: numbers with a root as strings. -/
set_option linter.unusedSimpArgs false
set_option linter.unusedVariables false
namespace Go.Proofs.YthdaimoankaciaaGreatDoor
open Go Go.RowKit Go.Sy
open Vi
theorem dqL_ln (X k : Nat) (h : nd 256 X ≤ k) (hk : 1 ≤ k) : (dqL X).length ≤ 3 * k := by
 unfold dqL; split
 ·show 1 ≤ _; omega
 ·exact decS_len X k (by rw [size_mag]; exact h)
theorem printQ_ln (p : Rat) (k : Nat) (hp : Sz k p) (hk : 1 ≤ k) : (printQ p).size ≤ 6 * k + 2 := by
 have h1 := dqL_ln p.num.natAbs k (by rw [← mg_nd]; exact hp.num) hk
 have h2 := dqL_ln (dn p).natAbs k (by rw [← mg_nd]; exact hp.dn) hk
 rw [printQ_list]
 show (prL p).length ≤ _
 unfold prL
 rw [List.length_append, List.length_append]
 split <;> split <;> simp only [List.length_cons, List.length_nil] <;> omega
def sqL : List UInt8 := [115, 113, 114, 116, 40]
def sgnB (b : Bool) : UInt8 := if b then 45 else 43
def prLL (x : Rl) : List UInt8 := prL x.p ++ (if x.r = 0 then [] else sgnB x.neg :: (sqL ++ (prL x.r ++ [41])))
def printL (x : Rl) : ByteArray := ⟨(prLL x).toArray⟩
theorem dqL_lt (X : Nat) : ∀ b ∈ dqL X, b.toNat < 58 := fun b hb => by
 have h := List.all_eq_true.1 (dqL_all X) b hb
 unfold isD at h
 simp at h
 omega
theorem prL_lt (p : Rat) : ∀ b ∈ prL p, b.toNat < 58 := fun b hb => by
 unfold prL at hb
 rw [List.mem_append, List.mem_append] at hb
 rcases hb with (hb | hb) | hb
 ·split at hb
  ·rw [List.mem_singleton] at hb; subst hb; decide
  ·cases hb
 ·exact dqL_lt _ b hb
 ·split at hb
  ·cases hb
  ·rcases List.mem_cons.1 hb with rfl | hb
   ·decide
   ·exact dqL_lt _ b hb
theorem prL_ne (p : Rat) : 0 < (prL p).length := by
 unfold prL
 rw [List.length_append, List.length_append]
 have := dqL_ne p.num.natAbs
 omega
theorem sgnB_lt (b : Bool) : (sgnB b).toNat < 58 := by cases b <;> decide
theorem occ_no {l : List UInt8} {j : Nat} (h : ∀ b, l[j]? = some b → b ≠ 115) : Lib.occAt l sqL j = false := by
 unfold Lib.occAt
 cases hd : l.drop j with
 | nil => rfl
 | cons a t =>
  have : a ≠ 115 := h a (by rw [← List.head?_drop, hd]; rfl)
  show ((115 : UInt8) == a && _) = false
  rw [show ((115 : UInt8) == a) = false by simpa using this.symm]; rfl
theorem ne115 {b : UInt8} (h : b.toNat < 58) : b ≠ 115 := by rintro rfl; exact absurd h (by decide)
theorem cut_rat (p : Rat) : Lib.cut (prL p) sqL = (prL p, [], false) := by
 have h : Lib.index (prL p) sqL = -1 := Lib.index_none fun j _ => occ_no fun b hb => ne115 (prL_lt p b (List.mem_of_getElem? hb))
 unfold Lib.cut
 rw [h]; rfl
theorem cut_root (p : Rat) (n : Bool) (t : List UInt8) : Lib.cut (prL p ++ sgnB n :: (sqL ++ t)) sqL = (prL p ++ [sgnB n], t, true) := by
 have h : Lib.index (prL p ++ sgnB n :: (sqL ++ t)) sqL = ((prL p).length + 1 : Nat) := by
  refine Lib.index_first ?_ ?_ fun j hj => occ_no fun b hb => ?_
  ·rw [List.length_append, List.length_cons]; omega
  ·unfold Lib.occAt
   rw [List.drop_append, List.drop_of_length_le (by omega), show (prL p).length + 1 - (prL p).length = 1 by omega]
   show sqL.isPrefixOf (sqL ++ t) = true
   rw [List.isPrefixOf_iff_prefix]
   exact ⟨t, rfl⟩
  ·rcases (by omega : j < (prL p).length ∨ j = (prL p).length) with h | h
   ·rw [List.getElem?_append_left h] at hb
    exact ne115 (prL_lt p b (List.mem_of_getElem? hb))
   ·rw [h, List.getElem?_append_right (Nat.le_refl _), Nat.sub_self] at hb
    obtain rfl : sgnB n = b := Option.some.inj hb
    exact ne115 (sgnB_lt n)
 unfold Lib.cut
 rw [h, if_pos (by omega)]
 simp only [Int.toNat_natCast]
 have e1 : (prL p ++ sgnB n :: (sqL ++ t)).take ((prL p).length + 1) = prL p ++ [sgnB n] := by
  rw [List.take_append, List.take_of_length_le (by omega), show (prL p).length + 1 - (prL p).length = 1 by omega]; rfl
 have e2 : (prL p ++ sgnB n :: (sqL ++ t)).drop ((prL p).length + 1 + sqL.length) = t := by
  rw [List.drop_append, List.drop_of_length_le (by omega), show (prL p).length + 1 + sqL.length - (prL p).length = 6 by show _ + 1 + 5 - _ = 6; omega]; rfl
 rw [e1, e2]
theorem trim_par (l : List UInt8) : Lib.trimSuffix (l ++ [41]) [41] = l ∧ Lib.hasSuffix (l ++ [41]) [41] = true := by
 have h : Lib.hasSuffix (l ++ [41]) [41] = true := by
  unfold Lib.hasSuffix
  rw [List.isSuffixOf_iff_suffix]
  exact ⟨l, rfl⟩
 refine ⟨?_, h⟩
 unfold Lib.trimSuffix
 rw [h, if_pos rfl]
 simp
theorem pow10_le (k : Nat) : 10 ^ k ≤ 256 ^ k := Nat.pow_le_pow_left (by decide) k
theorem pv_bound (s : ByteArray) (h : okD s = true) : pv s s.size < 256 ^ s.size := by
 unfold okD at h
 simp only [Bool.and_eq_true] at h
 have hd := (digS_iff s).2 h.1
 exact Nat.lt_of_lt_of_le (pv_lt s s.size fun i hi => (dgt_le s i hi (by have := hd i hi; unfold isD; simp; omega)).1) (pow10_le _)
theorem parseQ_sz (s : ByteArray) (k : Nat) (hk : s.size ≤ k) (h1 : 1 ≤ k) : HasSz (parseQ s).1 k := by
 have z0 : HasSz (0 : Rat) k := hs_mono hz0 h1
 unfold parseQ
 split
 ·exact z0
 ·split
  ·exact z0
  ·rename_i hok
   obtain ⟨D, hD⟩ : ∃ D, D = (if cutH (qrest s) = true then pv (cutB (qrest s)) (cutB (qrest s)).size else 1) := ⟨_, rfl⟩
   rw [← hD]
   by_cases hd : D = 0
   ·rw [if_pos hd]; exact z0
   ·rw [if_neg hd]
    have hT := qrest_size s
    have hA := cutA_size (qrest s)
    have hB := cutB_size (qrest s)
    have hok : okD (cutA (qrest s)) = true ∧ (cutH (qrest s) = true → okD (cutB (qrest s)) = true) := by
     cases e1 : okD (cutA (qrest s)) <;> cases e2 : cutH (qrest s) <;> cases e3 : okD (cutB (qrest s)) <;> simp [e1, e2, e3] at hok ⊢
    have m1 : pv (cutA (qrest s)) (cutA (qrest s)).size < 256 ^ k := Nat.lt_of_lt_of_le (pv_bound _ hok.1) (Nat.pow_le_pow_right (by decide) (by omega))
    have m2 : D < 256 ^ k := by
     rw [hD]
     cases e2 : cutH (qrest s)
     ·have : 256 ^ 1 ≤ 256 ^ k := Nat.pow_le_pow_right (by decide) h1
      rw [if_neg (by simp)]; omega
     ·rw [if_pos rfl]
      exact Nat.lt_of_lt_of_le (pv_bound _ (hok.2 e2)) (Nat.pow_le_pow_right (by decide) (by omega))
    refine ⟨Sz.of _ _ k (by omega) ?_ (by rw [Int.natAbs_natCast]; exact m2)⟩
    split <;> omega
theorem printL_rat {x : Rl} (h : x.r = 0) : printL x = printQ x.p := by
 unfold printL prLL
 rw [if_pos h, List.append_nil, printQ_list]
theorem printL_root {x : Rl} (h : x.r ≠ 0) : printL x = printQ x.p ++ ⟨#[sgnB x.neg, 115, 113, 114, 116, 40]⟩ ++ printQ x.r ++ ⟨#[41]⟩ := by
 unfold printL prLL
 rw [if_neg h, printQ_list, printQ_list, show (⟨#[sgnB x.neg, 115, 113, 114, 116, 40]⟩ : ByteArray) = ⟨(sgnB x.neg :: sqL).toArray⟩ from rfl, show (⟨#[41]⟩ : ByteArray) = ⟨([41] : List UInt8).toArray⟩ from rfl, app_mk, app_mk, app_mk]
 simp
theorem printL_sizes {x : Rl} (k : Nat) (h : (printL x).size ≤ k) (hk : k ≤ 4096) (h1 : 1 ≤ k) (hx : x.Ok) : HasSz x.p k ∧ HasSz x.r k ∧ (printQ x.p).size ≤ k ∧ (x.r ≠ 0 → (printQ x.r).size ≤ k) := by
 by_cases h0 : x.r = 0
 ·rw [printL_rat h0] at h
  have := parseQ_sz (printQ x.p) k h h1
  rw [parse_print x.p (by omega)] at this
  exact ⟨this, by rw [h0]; exact hs_mono hz0 h1, h, fun h2 => absurd h0 h2⟩
 ·rw [printL_root h0, ByteArray.size_append, ByteArray.size_append, ByteArray.size_append] at h
  have a := parseQ_sz (printQ x.p) k (by omega) h1
  rw [parse_print x.p (by omega)] at a
  have b := parseQ_sz (printQ x.r) k (by omega) h1
  rw [parse_print x.r (by omega)] at b
  exact ⟨a, b, by omega, fun _ => by omega⟩
end Go.Proofs.YthdaimoankaciaaGreatDoor

end
section
/- The reference's Print and Parse; chapter 2's law about them. -/
set_option linter.unusedSimpArgs false
set_option linter.unusedVariables false
namespace Go.Proofs.YthdaimoankaciaaGreatDoor
open Go Go.RowKit Go.Sy
open Vi
theorem conv_byte (b : Nat) (hb : b < 256) (x : Value) (w : World) (h : RowW w x 1 [bV b]) : (convert 157 9 x).run Tryz.prog w = .ok (.string ⟨#[UInt8.ofNat b]⟩) w := by
 obtain ⟨_, h⟩ := h
 rcases h with ⟨_, h, _⟩ | ⟨g, c, rfl, hc, hm, hg, h⟩
 ·cases h
 ·rcases h with h | ⟨cs, ty, fz, h1, h2⟩
  ·cases h
  ·have h0 := convG w g 1 c (fun _ => b) (fun i hi => by
     obtain rfl : i = 0 := by omega
     have h3 : cs.toList[0]? = some (bV b) := by
      rw [show cs.toList[0]? = (cs.toList.take 1)[0]? by rw [List.getElem?_take]; simp]
      rw [show (cs.toList.take 1) = [bV b] from h2]; rfl
     simp only [World.cell?, h1]
     simpa [bV] using h3)
   exact h0
def stD (X : Nat) (s : ByteArray) : St := ⟨34, 1, [(0, row 1 (nd 256 X)), (3, .string s)], junk, [(1, rws (rD X).1 (rD X).2)], 2⟩
def stD1 (s : ByteArray) : St := ⟨34, 1, [(3, .string s)], junk, [], 1⟩
theorem dTen (x : Nat) (hx : nd 256 x ≤ 1048576) : Sp Tryz.prog 143 [rD x, (1, [nV 10])] [row 0 (nd 256 x), row 1 1] (.tuple #[row 2 (nd 256 (x / 10)), row 3 (nd 256 (x % 10))]) [rD (x / 10), rD (x % 10)] := by
 have := dDivide x 10 (by omega) hx (by rw [nd_small 10 (by omega) (by omega)]; omega)
 rw [nd_small 10 (by omega) (by omega), rD_small 10 (by omega) (by omega)] at this
 exact this
theorem dec_loop : ∀ (m X : Nat) (l : List UInt8), X ≤ m → nd 256 X ≤ 131000 → l.length + (decS X).length ≤ 4294967296 →
    RoundsOk Tryz.prog (nthLoop 0 (Tryz.f132.body.getD .skip)) (stD X ⟨l.toArray⟩) (.exit 0) (stD1 ⟨(decS X ++ l).toArray⟩)
 | m, X, l, hm, hX, hl => by
  by_cases h0 : X = 0
  ·subst h0
   have e : decide ((nd 256 0 : Int) > 0) = false := by rw [nd_zero]; rfl
   rw [decS_zero, List.nil_append]
   refine .out (by simp) ?_
   unfold stD stD1
   exact piece [] [] fol (by kernel_rfl)
  ·have e : decide ((nd 256 X : Int) > 0) = true := by
     have := nd_pos 256 (by omega) X (by omega)
     simpa using this
   have D := dTen X (by omega)
   have hr : X % 10 < 10 := Nat.mod_lt _ (by omega)
   have hS := dSmall (X % 10) (nd_le 256 (by omega) _ 7 (by have : (256 : Nat) ^ 7 = 72057594037927936 := by decide
                                                            omega))
   have hq : nd 256 (X / 10) ≤ 131000 := Nat.le_trans (nd_mono 256 (by omega) _ X (by omega)) hX
   match m, hm with
   | 0, hm => omega
   | m + 1, hm =>
    have ih := dec_loop m (X / 10) (UInt8.ofNat (48 + X % 10) :: l) (by omega) hq (by
     rw [decS_pos X (by omega), List.length_append, List.length_singleton] at hl
     rw [List.length_cons]; omega)
    have e2 : decS (X / 10) ++ (UInt8.ofNat (48 + X % 10) :: l) = decS X ++ l := by
     rw [decS_pos X (by omega), List.append_assoc]; rfl
    rw [e2] at ih
    have hw : IntKind.i64.wrap ((48 : Int) + (X % 10 : Nat)) = ((48 + X % 10 : Nat) : Int) := by
     rw [w64 (by omega) (by omega)]; omega
    have hw8 : IntKind.u8.wrap ((48 + X % 10 : Nat) : Int) = ((48 + X % 10 : Nat) : Int) := w8 (by omega)
    have hcat := bin_cat ⟨#[UInt8.ofNat (48 + X % 10)]⟩ ⟨l.toArray⟩ (by show 1 + l.length ≤ _; omega)
    rw [catB] at hcat
    have hcv : ∀ (x : Value) (w : World), RowW w x ((1, [bV (48 + X % 10)]) : Nat × List Value).1 ((1, [bV (48 + X % 10)]) : Nat × List Value).2 → (convert 157 9 x).run Tryz.prog w = .ok (.string ⟨#[UInt8.ofNat (48 + X % 10)]⟩) w := fun x w h => conv_byte (48 + X % 10) (by omega) x w h
    generalize UInt8.ofNat (48 + X % 10) = B at *
    generalize 48 + X % 10 = b at *
    generalize X / 10 = q at *
    generalize X % 10 = r at *
    refine .more ?_ ih
    unfold stD
    exact piece [(1, 3)] [eb e, cr D, cr hS, Go.Sy.e (congrArg (Value.int IntKind.i64) hw), Go.Sy.e (congrArg (Value.int IntKind.u8) hw8), cvr hcv, x2 hcat] fol (by kernel_rfl)
def decQ (X : Nat) : ByteArray := if X = 0 then ⟨#[48]⟩ else ⟨(decS X).toArray⟩
theorem dDecimal (X : Nat) (hX : nd 256 X ≤ 131000) : Sp Tryz.prog 132 [rD X] [row 0 (nd 256 X)] (.string (decQ X)) [] := by
 unfold decQ
 by_cases h0 : X = 0
 ·subst h0
  have e : decide ((nd 256 0 : Int) = 0) = true := by rw [nd_zero]; rfl
  rw [if_pos rfl]
  exact walk (code := Tryz.f132.body.getD .skip) [] fol Tryz.func132 (by kernel_rfl) (fun xs w => Tryz.call132 xs w) (by kernel_rfl)
 ·have e : decide ((nd 256 X : Int) = 0) = false := by
    have := nd_pos 256 (by omega) X (by omega)
    simp; omega
  rw [if_neg h0]
  have hlen := decS_len X 131000 (by rw [size_mag]; exact hX)
  have hl := (dec_loop X X [] (Nat.le_refl _) hX (by simp; omega)).loop
  rw [List.append_nil] at hl
  exact walk (code := Tryz.f132.body.getD .skip) [eb e, lp [(1, 0)] hl] fol Tryz.func132 (by kernel_rfl) (fun xs w => Tryz.call132 xs w) (by kernel_rfl)
theorem rPrint (p : Rat) (hp : Fits p) : Sp Tryz.prog 78 [] [rV p] (.string (printQ p)) [] := by
 have p1 := hp.1
 have hd1 := dDig p.num (by have := hp.mn; omega)
 have hd2 := dDig (dn p) (by have := hp.md; omega)
 have D1 := dDecimal p.num.natAbs p1
 have n2 : nd 256 (dn p).natAbs ≤ 131000 := by rw [← mg_nd]; exact hp.md
 have D2 := dDecimal (dn p).natAbs n2
 have z1 := decS_len p.num.natAbs 131000 (by rw [size_mag]; exact p1)
 have z2 := decS_len (dn p).natAbs 131000 (by rw [size_mag]; exact n2)
 have q1 : (decQ p.num.natAbs).size ≤ 400000 := by
  unfold decQ; split
  ·decide
  ·show (decS p.num.natAbs).length ≤ _; omega
 have q2 : (decQ (dn p).natAbs).size ≤ 400000 := by
  unfold decQ; split
  ·decide
  ·show (decS (dn p).natAbs).length ≤ _; omega
 have e1 : printS p.num = if sg p.num = true then (⟨#[45]⟩ : ByteArray) ++ decQ p.num.natAbs else decQ p.num.natAbs := by
  unfold printS decQ sg
  by_cases h0 : p.num = 0
  ·rw [if_pos h0, h0]; rfl
  ·have ha : ¬ p.num.natAbs = 0 := by omega
   rw [if_neg h0, if_neg ha]
   by_cases hn : p.num < 0
   ·rw [if_pos hn, if_pos (by simpa using hn), catB]
   ·rw [if_neg hn, if_neg (by simpa using hn)]
 have e2 : dn p ≠ 0 → printS (dn p) = decQ (dn p).natAbs := fun h => by
  unfold printS decQ
  have := dn_nonneg p
  rw [if_neg h, if_neg (by omega), if_neg (by omega)]
 have em := mg_eq0 (dn p)
 unfold printQ
 rw [e1]
 clear e1
 have s0 : ∀ q : Rat, rV q = .agg #[.bool (sg q.num), .string (mg q.num), .bool (sg (dn q)), .string (mg (dn q))] := fun q => rfl
 have i0 : ∀ z : Int, iV z = .agg #[.bool (sg z), .string (mg z)] := fun z => rfl
 cases hs : sg p.num
 ·by_cases h : dn p = 0
  ·rw [if_pos h, if_neg (by simp)]
   have e3 : (!((mg (dn p)).toList == (⟨#[]⟩ : ByteArray).toList)) = false := by rw [show (⟨#[]⟩ : ByteArray).toList = [] from by kernel_rfl, em, h]; rfl
   rw [i0, hs] at hd1
   rw [s0, hs]
   generalize decQ p.num.natAbs = t1 at *
   clear hs em e2 z1 z2
   rw [i0] at hd2
   clear i0 s0
   exact walk (code := Tryz.f78.body.getD .skip) [cr hd1, cr D1, eb e3] fol Tryz.func78 (by kernel_rfl) (fun xs w => Tryz.call78 xs w) (by kernel_rfl)
  ·rw [if_neg h, e2 h, if_neg (by simp)]
   have e3 : (!((mg (dn p)).toList == (⟨#[]⟩ : ByteArray).toList)) = true := by rw [show (⟨#[]⟩ : ByteArray).toList = [] from by kernel_rfl, em]; simp [h]
   rw [i0, hs] at hd1
   rw [s0, hs]
   have c1 := bin_cat (decQ p.num.natAbs) ⟨#[47]⟩ (by show (decQ p.num.natAbs).size + 1 ≤ _; omega)
   have c2 := bin_cat (decQ p.num.natAbs ++ ⟨#[47]⟩) (decQ (dn p).natAbs) (by rw [ByteArray.size_append]; show (decQ p.num.natAbs).size + 1 + (decQ (dn p).natAbs).size ≤ _; omega)
   generalize decQ p.num.natAbs = t1 at *
   generalize decQ (dn p).natAbs = t2 at *
   clear hs em e2 z1 z2
   rw [i0] at hd2
   clear i0 s0
   exact walk (code := Tryz.f78.body.getD .skip) [cr hd1, cr D1, eb e3, x2 c1, cr hd2, cr D2, x2 c2] fol Tryz.func78 (by kernel_rfl) (fun xs w => Tryz.call78 xs w) (by kernel_rfl)
 ·have c0 := bin_cat ⟨#[45]⟩ (decQ p.num.natAbs) (by show 1 + (decQ p.num.natAbs).size ≤ _; omega)
  by_cases h : dn p = 0
  ·rw [if_pos h, if_pos rfl]
   have e3 : (!((mg (dn p)).toList == (⟨#[]⟩ : ByteArray).toList)) = false := by rw [show (⟨#[]⟩ : ByteArray).toList = [] from by kernel_rfl, em, h]; rfl
   rw [i0, hs] at hd1
   rw [s0, hs]
   generalize decQ p.num.natAbs = t1 at *
   clear hs em e2 z1 z2
   rw [i0] at hd2
   clear i0 s0
   exact walk (code := Tryz.f78.body.getD .skip) [cr hd1, cr D1, x2 c0, eb e3] fol Tryz.func78 (by kernel_rfl) (fun xs w => Tryz.call78 xs w) (by kernel_rfl)
  ·rw [if_neg h, e2 h, if_pos rfl]
   have e3 : (!((mg (dn p)).toList == (⟨#[]⟩ : ByteArray).toList)) = true := by rw [show (⟨#[]⟩ : ByteArray).toList = [] from by kernel_rfl, em]; simp [h]
   rw [i0, hs] at hd1
   rw [s0, hs]
   have c1 := bin_cat (⟨#[45]⟩ ++ decQ p.num.natAbs) ⟨#[47]⟩ (by rw [ByteArray.size_append]; show 1 + (decQ p.num.natAbs).size + 1 ≤ _; omega)
   have c2 := bin_cat (⟨#[45]⟩ ++ decQ p.num.natAbs ++ ⟨#[47]⟩) (decQ (dn p).natAbs) (by rw [ByteArray.size_append, ByteArray.size_append]; show 1 + (decQ p.num.natAbs).size + 1 + (decQ (dn p).natAbs).size ≤ _; omega)
   generalize decQ p.num.natAbs = t1 at *
   generalize decQ (dn p).natAbs = t2 at *
   clear hs em e2 z1 z2
   rw [i0] at hd2
   clear i0 s0
   exact walk (code := Tryz.f78.body.getD .skip) [cr hd1, cr D1, x2 c0, eb e3, x2 c1, cr hd2, cr D2, x2 c2] fol Tryz.func78 (by kernel_rfl) (fun xs w => Tryz.call78 xs w) (by kernel_rfl)
end Go.Proofs.YthdaimoankaciaaGreatDoor

end
section
/- The reference's number and Parse; chapter 2's law about strings (begun). -/
set_option linter.unusedSimpArgs false
set_option linter.unusedVariables false
namespace Go.Sy
open Go Go.RowKit
theorem Sp.nil2 {P : Program} {f : FuncId} {q : Nat × List Value} {n m : Nat} {nr : List (Nat × List Value)} (h : Sp P f [(0, []), q] [row 0 0, row 1 n] (row 2 m) nr) : Sp P f [q] [.slice none 0 0, row 0 n] (row 1 m) nr := by
 refine ⟨h.1, fun r w hw hr => ?_⟩
 have h2 := h.2 (fun i => match i with | 0 => .slice none 0 0 | i + 1 => r i) w hw (fun i x hx => by
  match i, hx with
  | 0, hx =>
   simp only [List.getElem?_cons_zero, Option.some.injEq] at hx
   subst hx
   exact ⟨fun c hc => (by cases hc), .inl ⟨rfl, rfl, rfl⟩⟩
  | i + 1, hx => exact hr i x (by simpa using hx))
 refine h2.mono ?_
 rintro e w' ⟨r', d1, rfl, hb, d2⟩
 refine ⟨fun i => r' (i + 1), fun i hi => ?_, rfl, hb, fun j x hx => ?_⟩
 ·have := d1 (i + 1) (by simp only [List.length_cons, List.length_nil] at hi ⊢; omega)
  exact this
 ·obtain ⟨a1, a2⟩ := d2 j x hx
  have e1 : [(0, []), q].length + j = [q].length + j + 1 := by simp only [List.length_cons, List.length_nil]; omega
  rw [e1] at a1 a2
  refine ⟨a1, fun b hb2 => ?_⟩
  rcases a2 b hb2 with h3 | ⟨i, q', h3, h4⟩
  ·exact .inl h3
  ·match i, h3, h4 with
   | 0, h3, h4 =>
    simp only [List.getElem?_cons_zero, Option.some.injEq] at h3
    subst h3
    exact absurd rfl h4.1
   | i + 1, h3, h4 => exact .inr ⟨i, q', by simpa using h3, h4⟩
end Go.Sy
namespace Go.Proofs.YthdaimoankaciaaGreatDoor
open Go Go.RowKit Go.Sy
open Vi
theorem Dl_of_one {w : World} {v : Value} {d : Nat} (hd : d < 256) (h : RowW w v 1 [nV d]) : Dl w v 1 d := by
 refine ⟨by omega, .inr ?_⟩
 rcases h.2 with ⟨_, h, _⟩ | ⟨g, c, rfl, hc, hm, hg, h⟩
 ·cases h
 ·rcases h with h | ⟨cs, ty, fz, h1, h2⟩
  ·cases h
  ·refine ⟨g, c, rfl, hc, hm, hg, fun i hi => ?_⟩
   obtain rfl : i = 0 := by omega
   have h3 : cs.toList[0]? = some (nV d) := by
    rw [show cs.toList[0]? = (cs.toList.take 1)[0]? by rw [List.getElem?_take]; simp]
    rw [show (cs.toList.take 1) = [nV d] from h2]; rfl
   have h4 : d8 d 0 = d := by unfold d8; simp; omega
   rw [h4]
   simp only [World.cell?, h1]
   simpa [nV] using h3
theorem dTrim1 (d : Nat) (hd : d < 256) : Sp Tryz.prog 144 [(1, [nV d])] [row 0 1] (row 1 (nd 256 d)) [rD d] := by
 refine ⟨(fun xs w => Tryz.call144 xs w), fun r w _ hr => ?_⟩
 have h0 := hr 0 _ rfl
 refine (strimF_c (r 0) 1 d w (Dl_of_one hd h0) (by omega)).mono fun e w' ⟨v', h1, h2, h3, h4⟩ => ⟨fun k => if k < 1 then r k else v', fun i hi => if_pos hi, h1, h4 ▸ Below.refl _ _, fun j q hq => ?_⟩
 cases j with
 | zero =>
  simp only [List.getElem?_cons_zero, Option.some.injEq] at hq
  subst hq
  refine ⟨row_of_DT h2, fun b hb => .inr ⟨0, _, rfl, ?_⟩⟩
  have hv := h3 b (loc_own hb)
  rcases h0.2 with ⟨_, h, _⟩ | ⟨g, c, e, _⟩
  ·cases h
  ·rw [e] at hv ⊢
   have hg : g = b := by simpa [Value.ownBlock] using hv
   exact ⟨by simp, _, _, _, rfl, hg⟩
 | succ j => simp at hq
theorem idxG {s : ByteArray} {i : Nat} {x z : Operand} (hi : i < s.size) : ∀ (o : Oper), o.op = .index 9 x z → ∀ (ρ : Operand → Value) (w : World), (Op.operands (.index 9 x z)).toList.map ρ = [.string s, nV i] → (execOp ρ o).run Tryz.prog w = .ok (.value (.int .u8 (s[i].toNat : Nat))) w := by
 intro o ho ρ w hl
 simp [Op.operands] at hl
 unfold execOp
 rw [ho]
 have h := run_index_string (P := Tryz.prog) (w := w) 9 s .i64 (i : Int) (by kernel_rfl)
 unfold nV at hl
 simp [hl, h, hi, Result.andThen]
end Go.Proofs.YthdaimoankaciaaGreatDoor

end
section
/- The reference's number and Parse. -/
set_option linter.unusedSimpArgs false
set_option linter.unusedVariables false
namespace Go.Proofs.YthdaimoankaciaaGreatDoor
open Go Go.RowKit Go.Sy
open Vi
def stN (X i : Nat) (s : ByteArray) : St := ⟨37, 0, [(0, .string s), (4, row 0 (nd 256 X)), (5, nV i)], junk, [(0, rws (rD X).1 (rD X).2)], 1⟩
def stN0 (s : ByteArray) : St := ⟨37, 0, [(0, .string s), (4, .slice none 0 0), (5, nV 0)], junk, [], 0⟩
def stNr : St := ⟨37, 0, [(2, .slice none 0 0), (3, .bool false)], junk, [], 0⟩
def stNr1 : St := ⟨37, 0, [(2, .slice none 0 0), (3, .bool false)], junk, [], 1⟩
theorem dTimes10 (x : Nat) (hx : nd 256 x ≤ 100000) : Sp Tryz.prog 138 [rD x, (1, [nV 10])] [row 0 (nd 256 x), row 1 1] (row 2 (nd 256 (x * 10))) [rD (x * 10)] := by
 have := dTimes x 10 (by omega) (by rw [nd_small 10 (by omega) (by omega)]; omega)
 rw [nd_small 10 (by omega) (by omega), rD_small 10 (by omega) (by omega)] at this
 exact this
theorem dTimes0 : Sp Tryz.prog 138 [(1, [nV 10])] [.slice none 0 0, row 0 1] (row 1 (nd 256 0)) [rD 0] := by
 have := dTimes10 0 (by rw [nd_zero]; omega)
 exact Sp.nil2 this
theorem pv_nd (s : ByteArray) (k : Nat) (h : ∀ i, i < k → dgt s i ≤ 9) : nd 256 (pv s k) ≤ k :=
 nd_le 256 (by omega) _ k (Nat.lt_of_lt_of_le (pv_lt s k h) (Nat.pow_le_pow_left (by decide : 10 ≤ 256) k))
theorem num_step (s : ByteArray) (i : Nat) (hi : i < s.size) (hs : s.size ≤ 5000) (hd : ∀ j, j < i → dgt s j ≤ 9) (h1 : 48 ≤ (s[i]'hi).toNat) (h2 : (s[i]'hi).toNat ≤ 57) :
    CodeOk Tryz.prog (nthLoop 0 (Tryz.f130.body.getD .skip)) (stN (pv s i) i s) .normal (stN (pv s (i + 1)) (i + 1) s) := by
 have g1 := @idxG s i (.tmp 12) (.tmp 13) hi
 have g2 := @idxG s i (.tmp 17) (.tmp 18) hi
 have g3 := @idxG s i (.tmp 25) (.tmp 26) hi
 have e := (dgt_le s i hi (by unfold isD; simp; omega)).2
 have d9 := (dgt_le s i hi (by unfold isD; simp; omega)).1
 have c1 : decide ((i : Int) < (s.size : Int)) = true := decide_eq_true (by omega)
 have c2 : decide ((((s[i]'hi).toNat : Nat) : Int) < 48) = false := decide_eq_false (by omega)
 have c3 : decide ((((s[i]'hi).toNat : Nat) : Int) > 57) = false := decide_eq_false (by omega)
 have w1 : IntKind.u8.wrap ((((s[i]'hi).toNat : Nat) : Int) - 48) = (dgt s i : Int) := by rw [e]; rw [show ((48 + dgt s i : Nat) : Int) - 48 = (dgt s i : Int) by omega]; exact w8 (by omega)
 have w2 : IntKind.i64.wrap (dgt s i : Int) = (dgt s i : Int) := w64 (by omega) (by omega)
 have w3 : IntKind.i64.wrap ((i : Int) + 1) = ((i + 1 : Nat) : Int) := by rw [w64 (by omega) (by omega)]; omega
 have zX := pv_nd s i hd
 have T := dTimes10 (pv s i) (by omega)
 have M := dTrim1 (dgt s i) (by omega)
 have zY := nd_mul (pv s i) 10
 rw [nd_small 10 (by omega) (by omega)] at zY
 have zd : nd 256 (dgt s i) ≤ 1 := nd_le 256 (by omega) _ 1 (by omega)
 have A := dPlus (pv s i * 10) (dgt s i) (by omega) (by omega)
 rw [← pv_succ] at A
 generalize pv s (i + 1) = X2 at *
 generalize pv s i * 10 = X1 at *
 generalize pv s i = X at *
 clear e d9 h1 h2 hd zX zY zd hs
 generalize dgt s i = d at *
 generalize (((s[i]'hi).toNat : Nat) : Int) = b at *
 unfold stN
 exact piece [(0, 5)] [L, eb c1, gx _ 5 _ _ g1, eb c2, gx _ 5 _ _ g2, eb c3, cr T, gx _ 5 _ _ g3, Go.Sy.e (congrArg (Value.int IntKind.u8) w1), Go.Sy.e (congrArg (Value.int IntKind.i64) w2), cr M, cr A, Go.Sy.e (congrArg (Value.int IntKind.i64) w3)] fol (by kernel_rfl)
theorem num_first (s : ByteArray) (hi : 0 < s.size) (hs : s.size ≤ 5000) (h1 : 48 ≤ (s[0]'hi).toNat) (h2 : (s[0]'hi).toNat ≤ 57) :
    CodeOk Tryz.prog (nthLoop 0 (Tryz.f130.body.getD .skip)) (stN0 s) .normal (stN (pv s 1) 1 s) := by
 have g1 := @idxG s 0 (.tmp 12) (.tmp 13) hi
 have g2 := @idxG s 0 (.tmp 17) (.tmp 18) hi
 have g3 := @idxG s 0 (.tmp 25) (.tmp 26) hi
 have e := (dgt_le s 0 hi (by unfold isD; simp; omega)).2
 have d9 := (dgt_le s 0 hi (by unfold isD; simp; omega)).1
 have c1 : decide ((0 : Int) < (s.size : Int)) = true := decide_eq_true (by omega)
 have c2 : decide ((((s[0]'hi).toNat : Nat) : Int) < 48) = false := decide_eq_false (by omega)
 have c3 : decide ((((s[0]'hi).toNat : Nat) : Int) > 57) = false := decide_eq_false (by omega)
 have w1 : IntKind.u8.wrap ((((s[0]'hi).toNat : Nat) : Int) - 48) = (dgt s 0 : Int) := by rw [e]; rw [show ((48 + dgt s 0 : Nat) : Int) - 48 = (dgt s 0 : Int) by omega]; exact w8 (by omega)
 have w2 : IntKind.i64.wrap (dgt s 0 : Int) = (dgt s 0 : Int) := w64 (by omega) (by omega)
 have T := dTimes0
 have M := dTrim1 (dgt s 0) (by omega)
 have zd : nd 256 (dgt s 0) ≤ 1 := nd_le 256 (by omega) _ 1 (by omega)
 have A := dPlus 0 (dgt s 0) (by rw [nd_zero]; omega) (by omega)
 rw [show 0 + dgt s 0 = pv s 1 by rw [pv_succ]; show _ = 0 * 10 + _; omega] at A
 generalize pv s 1 = X2 at *
 clear e d9 h1 h2 zd hs
 generalize dgt s 0 = d at *
 generalize (((s[0]'hi).toNat : Nat) : Int) = b at *
 unfold stN0 stN
 exact piece [(0, 4)] [L, eb c1, gx _ 5 _ _ g1, eb c2, gx _ 5 _ _ g2, eb c3, cr T, gx _ 5 _ _ g3, Go.Sy.e (congrArg (Value.int IntKind.u8) w1), Go.Sy.e (congrArg (Value.int IntKind.i64) w2), cr M, cr A] fol (by kernel_rfl)
theorem num_bad0 (s : ByteArray) (hi : 0 < s.size) (h : (s[0]'hi).toNat < 48 ∨ 57 < (s[0]'hi).toNat) : CodeOk Tryz.prog (nthLoop 0 (Tryz.f130.body.getD .skip)) (stN0 s) .ret stNr := by
 have g1 := @idxG s 0 (.tmp 12) (.tmp 13) hi
 have g2 := @idxG s 0 (.tmp 17) (.tmp 18) hi
 have c1 : decide ((0 : Int) < (s.size : Int)) = true := decide_eq_true (by omega)
 by_cases h1 : (s[0]'hi).toNat < 48
 ·have c2 : decide ((((s[0]'hi).toNat : Nat) : Int) < 48) = true := decide_eq_true (by omega)
  clear h h1
  generalize (((s[0]'hi).toNat : Nat) : Int) = b at *
  unfold stN0 stNr
  exact piece [] [L, eb c1, gx _ 5 _ _ g1, eb c2] fol (by kernel_rfl)
 ·have c2 : decide ((((s[0]'hi).toNat : Nat) : Int) < 48) = false := decide_eq_false (by omega)
  have c3 : decide ((((s[0]'hi).toNat : Nat) : Int) > 57) = true := decide_eq_true (by omega)
  clear h h1
  generalize (((s[0]'hi).toNat : Nat) : Int) = b at *
  unfold stN0 stNr
  exact piece [] [L, eb c1, gx _ 5 _ _ g1, eb c2, gx _ 5 _ _ g2, eb c3] fol (by kernel_rfl)
theorem num_bad (s : ByteArray) (i : Nat) (hi : i < s.size) (h : (s[i]'hi).toNat < 48 ∨ 57 < (s[i]'hi).toNat) : CodeOk Tryz.prog (nthLoop 0 (Tryz.f130.body.getD .skip)) (stN (pv s i) i s) .ret stNr1 := by
 have g1 := @idxG s i (.tmp 12) (.tmp 13) hi
 have g2 := @idxG s i (.tmp 17) (.tmp 18) hi
 have c1 : decide ((i : Int) < (s.size : Int)) = true := decide_eq_true (by omega)
 generalize pv s i = X at *
 by_cases h1 : (s[i]'hi).toNat < 48
 ·have c2 : decide ((((s[i]'hi).toNat : Nat) : Int) < 48) = true := decide_eq_true (by omega)
  clear h h1
  generalize (((s[i]'hi).toNat : Nat) : Int) = b at *
  unfold stN stNr1
  exact piece [] [L, eb c1, gx _ 5 _ _ g1, eb c2] fol (by kernel_rfl)
 ·have c2 : decide ((((s[i]'hi).toNat : Nat) : Int) < 48) = false := decide_eq_false (by omega)
  have c3 : decide ((((s[i]'hi).toNat : Nat) : Int) > 57) = true := decide_eq_true (by omega)
  clear h h1
  generalize (((s[i]'hi).toNat : Nat) : Int) = b at *
  unfold stN stNr1
  exact piece [] [L, eb c1, gx _ 5 _ _ g1, eb c2, gx _ 5 _ _ g2, eb c3] fol (by kernel_rfl)
theorem num_end (s : ByteArray) (X : Nat) : CodeOk Tryz.prog (nthLoop 0 (Tryz.f130.body.getD .skip)) (stN X s.size s) (.exit 0) (stN X s.size s) := by
 have c1 : decide ((s.size : Int) < (s.size : Int)) = false := decide_eq_false (by omega)
 unfold stN
 exact piece [(0, 0)] [L, eb c1] fol (by kernel_rfl)
theorem num_end0 (s : ByteArray) (h : s.size = 0) : CodeOk Tryz.prog (nthLoop 0 (Tryz.f130.body.getD .skip)) (stN0 s) (.exit 0) (stN0 s) := by
 have c1 : decide ((0 : Int) < (s.size : Int)) = false := decide_eq_false (by omega)
 unfold stN0
 exact piece [] [L, eb c1] fol (by kernel_rfl)
theorem num_loop (s : ByteArray) (hs : s.size ≤ 5000) : ∀ m i, i + m = s.size → (∀ j (h : j < s.size), j < i → 48 ≤ (s[j]'h).toNat ∧ (s[j]'h).toNat ≤ 57) →
    (DigS s ∧ RoundsOk Tryz.prog (nthLoop 0 (Tryz.f130.body.getD .skip)) (stN (pv s i) i s) (.exit 0) (stN (pv s s.size) s.size s)) ∨ (¬ DigS s ∧ RoundsOk Tryz.prog (nthLoop 0 (Tryz.f130.body.getD .skip)) (stN (pv s i) i s) .ret stNr1)
 | 0, i, hi, hd => by
  obtain rfl : i = s.size := by omega
  exact .inl ⟨fun j hj => hd j hj hj, .out (by simp) (num_end s _)⟩
 | m + 1, i, hi, hd => by
  have hlt : i < s.size := by omega
  by_cases hb : 48 ≤ (s[i]'hlt).toNat ∧ (s[i]'hlt).toNat ≤ 57
  ·have st := num_step s i hlt hs (fun j hj => (dgt_le s j (by omega) (by have := hd j (by omega) hj; unfold isD; simp; omega)).1) hb.1 hb.2
   rcases num_loop s hs m (i + 1) (by omega) (fun j hj h => by
    rcases (by omega : j < i ∨ j = i) with h1 | rfl
    ·exact hd j hj h1
    ·exact hb) with ⟨h1, h2⟩ | ⟨h1, h2⟩
   ·exact .inl ⟨h1, .more st h2⟩
   ·exact .inr ⟨h1, .more st h2⟩
  ·exact .inr ⟨fun h => hb (h i hlt), .out (by simp) (num_bad s i hlt (by omega))⟩
theorem rNumber (s : ByteArray) (hs : s.size ≤ 5000) : (okD s = true ∧ Sp Tryz.prog 130 [] [.string s] (.tuple #[row 0 (nd 256 (pv s s.size)), .bool true]) [rD (pv s s.size)]) ∨
    (okD s = false ∧ Sp Tryz.prog 130 [] [.string s] (.tuple #[.slice none 0 0, .bool false]) []) := by
 unfold okD
 by_cases h0 : 0 < s.size
 ·have c0 : decide ((s.size : Int) > 0) = true := decide_eq_true (by omega)
  have key : (DigS s ∧ RoundsOk Tryz.prog (nthLoop 0 (Tryz.f130.body.getD .skip)) (stN0 s) (.exit 0) (stN (pv s s.size) s.size s)) ∨ (¬ DigS s ∧ RoundsOk Tryz.prog (nthLoop 0 (Tryz.f130.body.getD .skip)) (stN0 s) .ret stNr) ∨ (¬ DigS s ∧ RoundsOk Tryz.prog (nthLoop 0 (Tryz.f130.body.getD .skip)) (stN0 s) .ret stNr1) := by
   by_cases hb : 48 ≤ (s[0]'h0).toNat ∧ (s[0]'h0).toNat ≤ 57
   ·have st := num_first s h0 hs hb.1 hb.2
    rcases num_loop s hs (s.size - 1) 1 (by omega) (fun j hj h => by obtain rfl : j = 0 := by omega
                                                                     exact hb) with ⟨h1, h2⟩ | ⟨h1, h2⟩
    ·exact .inl ⟨h1, .more st h2⟩
    ·exact .inr (.inr ⟨h1, .more st h2⟩)
   ·exact .inr (.inl ⟨fun h => hb (h 0 h0), .out (by simp) (num_bad0 s h0 (by omega))⟩)
  rcases key with ⟨h1, h2⟩ | ⟨h1, h2⟩ | ⟨h1, h2⟩
  ·left
   refine ⟨by rw [(digS_iff s).1 h1, decide_eq_true h0]; rfl, ?_⟩
   have hl := h2.loop
   unfold stN0 stN at hl
   clear h1 h2 hs h0
   generalize pv s s.size = X at *
   exact walk (code := Tryz.f130.body.getD .skip) [lp [] hl, L, eb c0] fol Tryz.func130 (by kernel_rfl) (fun xs w => Tryz.call130 xs w) (by kernel_rfl)
  ·right
   refine ⟨by rw [show s.data.toList.all isD = false by cases e : s.data.toList.all isD; rfl; exact absurd ((digS_iff s).2 e) h1]; rfl, ?_⟩
   have hl := h2.loop
   unfold stN0 stNr at hl
   clear h1 h2 hs h0
   exact walk (code := Tryz.f130.body.getD .skip) [lp [] hl] fol Tryz.func130 (by kernel_rfl) (fun xs w => Tryz.call130 xs w) (by kernel_rfl)
  ·right
   refine ⟨by rw [show s.data.toList.all isD = false by cases e : s.data.toList.all isD; rfl; exact absurd ((digS_iff s).2 e) h1]; rfl, ?_⟩
   have hl := h2.loop
   unfold stN0 stNr1 at hl
   clear h1 h2 hs h0
   exact walk (code := Tryz.f130.body.getD .skip) [lp [] hl] fol Tryz.func130 (by kernel_rfl) (fun xs w => Tryz.call130 xs w) (by kernel_rfl)
 ·right
  have c0 : decide ((s.size : Int) > 0) = false := decide_eq_false (by omega)
  refine ⟨by rw [decide_eq_false h0, Bool.and_false], ?_⟩
  have hl := (RoundsOk.out (by simp) (num_end0 s (by omega))).loop
  unfold stN0 at hl
  clear h0 hs
  exact walk (code := Tryz.f130.body.getD .skip) [lp [] hl, L, eb c0] fol Tryz.func130 (by kernel_rfl) (fun xs w => Tryz.call130 xs w) (by kernel_rfl)
end Go.Proofs.YthdaimoankaciaaGreatDoor

end
section
/- The reference's Parse of fractions. -/
set_option linter.unusedSimpArgs false
set_option linter.unusedVariables false
namespace Go.Proofs.YthdaimoankaciaaGreatDoor
open Go Go.RowKit Go.Sy
open Vi
theorem slH2 {s : ByteArray} {k : Int} {x z : Operand} (h0 : 0 ≤ k) (h1 : k ≤ s.size) : ∀ (o : Oper), o.op = .slice 9 x none (some z) none → ∀ (ρ : Operand → Value) (w : World), (Op.operands (.slice 9 x none (some z) none)).toList.map ρ = [.string s, .int .i64 k] → (execOp ρ o).run Tryz.prog w = .ok (.value (.string (s.extract 0 k.toNat))) w := by
 intro o ho ρ w hl
 simp [Op.operands] at hl
 unfold execOp
 rw [ho]
 have h := run_slice_string_h (P := Tryz.prog) w 9 s (by kernel_rfl) .i64 k h0 h1
 have h2 := run_sliceAt_string (P := Tryz.prog) (w := w) 9 (.string s) none (some (.int .i64 k)) none (by kernel_rfl)
 simp [hl, h, h2]
theorem slL2 {s : ByteArray} {k : Int} {x z : Operand} (h0 : 0 ≤ k) (h1 : k ≤ s.size) : ∀ (o : Oper), o.op = .slice 9 x (some z) none none → ∀ (ρ : Operand → Value) (w : World), (Op.operands (.slice 9 x (some z) none none)).toList.map ρ = [.string s, .int .i64 k] → (execOp ρ o).run Tryz.prog w = .ok (.value (.string (s.extract k.toNat s.size))) w := by
 intro o ho ρ w hl
 simp [Op.operands] at hl
 unfold execOp
 rw [ho]
 have h := run_slice_string_l (P := Tryz.prog) w 9 s (by kernel_rfl) .i64 k h0 h1
 have h2 := run_sliceAt_string (P := Tryz.prog) (w := w) 9 (.string s) (some (.int .i64 k)) none none (by kernel_rfl)
 simp [hl, h, h2]
def stCt (T : ByteArray) (neg : Bool) (k : Nat) : St := ⟨73, 0, [(0, .string T), (2, ptr 0 0), (4, .bool neg), (5, nV k)], junk, [(0, blk 25 [.bool false, .string ⟨#[]⟩, .bool false, .string ⟨#[]⟩])], 1⟩
theorem cut_loopT (T : ByteArray) (neg : Bool) (hT : T.size ≤ 5000) (K : Nat) (hK : K = T.size ∨ ∃ h : K < T.size, (T[K]'h).toNat = 47) : ∀ m k, k + m = K → (∀ j (h : j < T.size), j < K → (T[j]'h).toNat ≠ 47) →
    RoundsOk Tryz.prog (nthLoop 0 (Tryz.f77.body.getD .skip)) (stCt T neg k) (.exit 0) (stCt T neg K)
 | 0, k, hk, hn => by
  obtain rfl : k = K := by omega
  refine .out (by simp) ?_
  rcases hK with rfl | ⟨h, hb⟩
  ·have c1 : decide ((T.size : Int) < (T.size : Int)) = false := decide_eq_false (by omega)
   clear hn hk hT
   unfold stCt
   exact piece [(0, 0)] [L, eb c1] fol (by kernel_rfl)
  ·have c1 : decide ((k : Int) < (T.size : Int)) = true := decide_eq_true (by omega)
   have g1 := @idxG T k (.tmp 29) (.tmp 30) h
   rw [hb] at g1
   clear hn hk hT hb
   unfold stCt
   exact piece [(0, 0)] [L, eb c1, gx _ 5 _ _ g1] fol (by kernel_rfl)
 | m + 1, k, hk, hn => by
  have hlt : k < T.size := by rcases hK with h | ⟨h, _⟩ <;> omega
  have c1 : decide ((k : Int) < (T.size : Int)) = true := decide_eq_true (by omega)
  have w1 : IntKind.i64.wrap ((k : Int) + 1) = ((k + 1 : Nat) : Int) := by rw [w64 (by omega) (by omega)]; omega
  have g1 := @idxG T k (.tmp 29) (.tmp 30) hlt
  have hb := hn k hlt (by omega)
  have c2 : ((((T[k]'hlt).toNat : Nat) : Int) != 47) = true := by simp; omega
  have ih := cut_loopT T neg hT K hK m (k + 1) (by omega) hn
  refine .more ?_ ih
  clear ih hn hb hK hk hT
  generalize (((T[k]'hlt).toNat : Nat) : Int) = b at *
  unfold stCt
  exact piece [(0, 0)] [L, eb c1, gx _ 5 _ _ g1, eb c2, Go.Sy.e (congrArg (Value.int IntKind.i64) w1)] fol (by kernel_rfl)
theorem cut_at (T : ByteArray) : ∃ K : Nat, (K = T.size ∨ ∃ h : K < T.size, (T[K]'h).toNat = 47) ∧ (∀ j (h : j < T.size), j < K → (T[j]'h).toNat ≠ 47) ∧ K ≤ T.size ∧ T.extract 0 K = cutA T ∧
    ((cutH T = false ∧ K = T.size) ∨ (cutH T = true ∧ K < T.size ∧ T.extract (K + 1) T.size = cutB T)) := by
 have hget : ∀ j (h : j < T.size), T.data.toList[j]? = some (T[j]'h) := fun j h => by
  rw [List.getElem?_eq_getElem (by simpa using h)]; rfl
 by_cases hc : cutI T = -1
 ·refine ⟨T.size, .inl rfl, fun j h _ e => ?_, Nat.le_refl _, ?_, .inl ⟨by unfold cutH; rw [hc]; decide, rfl⟩⟩
  ·have h1 : (47 : UInt8) ∈ T.data.toList := by
     have e2 : T[j]'h = 47 := UInt8.toNat_inj.1 (by rw [e]; rfl)
     rw [← e2]
     exact List.mem_of_getElem? (hget j h)
   have h2 : ∀ l : List UInt8, (47 : UInt8) ∈ l → Lib.indexByte l 47 ≠ -1 := by
    intro l
    induction l with
    | nil => intro h; cases h
    | cons a l ih =>
     intro h
     unfold Lib.indexByte
     split
     ·decide
     ·rename_i ha
      rcases List.mem_cons.1 h with e3 | h
      ·exact absurd (by rw [← e3]; simp) ha
      ·have := ih h
       have h5 := Lib.indexByte_ge l 47
       split
       ·rename_i h4; exact absurd (by simpa using h4) this
       ·omega
   exact h2 _ h1 hc
  ·unfold cutA
   rw [if_pos hc]
   apply ByteArray.ext
   simp
 ·obtain ⟨i, h1, h2⟩ := cutI_lt T hc
  have h3 := Lib.indexByte_some (l := T.data.toList) (c := 47) (o := i) (by have : Lib.indexByte T.data.toList 47 = cutI T := rfl
                                                                            rw [this, h1])
  have e : (cutI T).toNat = i := by omega
  refine ⟨i, .inr ⟨h2, ?_⟩, fun j h hj e2 => ?_, by omega, by unfold cutA; rw [if_neg hc, e], .inr ⟨by unfold cutH; exact decide_eq_true hc, h2, by unfold cutB; rw [if_neg hc, e]⟩⟩
  ·have := h3.1
   rw [hget i h2] at this
   rw [Option.some.inj this]; rfl
  ·have h4 := h3.2 j hj
   rw [hget j h] at h4
   exact h4 (by rw [show T[j]'h = 47 from UInt8.toNat_inj.1 (by rw [e2]; rfl)])
theorem dCan1 (neg : Bool) (x : Nat) (sx : nd 256 x ≤ 100000) : Sp Tryz.prog 131 [rD x, (1, [nV 1])] [.agg #[.bool neg, row 0 (nd 256 x), row 1 1]] (rV (Rat.divInt (sgd neg x) 1)) [] := by
 have := fCan neg x 1 (by omega) (by omega) (by rw [nd_small 1 (by omega) (by omega)]; omega)
 unfold fV at this
 rw [nd_small 1 (by omega) (by omega), rD_small 1 (by omega) (by omega)] at this
 exact this
theorem pv_nd5 (s : ByteArray) (h : okD s = true) (hs : s.size ≤ 5000) : nd 256 (pv s s.size) ≤ 5000 := by
 unfold okD at h
 simp only [Bool.and_eq_true] at h
 have hd := (digS_iff s).2 h.1
 exact Nat.le_trans (pv_nd s s.size fun i hi => (dgt_le s i hi (by have := hd i hi; unfold isD; simp; omega)).1) hs
theorem rParse (s : ByteArray) : Sp Tryz.prog 77 [] [.string s] (.tuple #[rV (parseQ s).1, nV (parseQ s).2]) [] := by
 unfold parseQ
 by_cases hl : 4096 < s.size
 ·rw [if_pos hl, rV0]
  have l2 : decide ((s.size : Int) > 4096) = true := decide_eq_true (by omega)
  clear hl
  exact walk (code := Tryz.f77.body.getD .skip) [L, eb l2] fol Tryz.func77 (by kernel_rfl) (fun xs w => Tryz.call77 xs w) (by kernel_rfl)
 rw [if_neg hl]
 have l2 : decide ((s.size : Int) > 4096) = false := decide_eq_false (by omega)
 have hT := qrest_size s
 have hneg : (qneg s = false ∧ s.size = 0 ∧ qrest s = s) ∨ (∃ h : 0 < s.size, (qneg s = false ∧ (s[0]'h).toNat ≠ 45 ∧ qrest s = s) ∨ (qneg s = true ∧ (s[0]'h).toNat = 45 ∧ qrest s = s.extract 1 s.size)) := by
  obtain ⟨⟨l⟩⟩ := s
  cases l with
  | nil => exact .inl ⟨rfl, rfl, rfl⟩
  | cons a l =>
   refine .inr ⟨by show 0 < (a :: l).length; simp, ?_⟩
   by_cases ha : a = 45
   ·subst ha
    obtain ⟨h1, h2⟩ := qneg_yes l
    refine .inr ⟨h1, rfl, ?_⟩
    rw [Lib.extract_mk]
    refine h2.trans ?_
    show _ = (⟨(((45 :: l).drop 1).take ((45 :: l).length - 1)).toArray⟩ : ByteArray)
    simp
   ·obtain ⟨h1, h2⟩ := qneg_no (l := a :: l) (by simpa using ha)
    exact .inl ⟨h1, fun e => ha (UInt8.toNat_inj.1 (by show a.toNat = _; rw [show a.toNat = 45 from e]; rfl)), h2⟩
 obtain ⟨T, eT⟩ : ∃ T, T = qrest s := ⟨_, rfl⟩
 obtain ⟨ng, eng⟩ : ∃ ng, ng = qneg s := ⟨_, rfl⟩
 rw [← eT] at hT
 rw [← eT, ← eng] at hneg ⊢
 obtain ⟨K, k1, k2, k3, k4, k5⟩ := cut_at T
 have hlp := (cut_loopT T ng (by omega) K k1 K 0 (by omega) k2).loop
 unfold stCt at hlp
 have g1 := @slH2 T K (.tmp 37) (.tmp 38) (by omega) (by omega)
 rw [Int.toNat_natCast, k4] at g1
 have hA := cutA_size T
 have hB := cutB_size T
 have NA := rNumber (cutA T) (by omega)
 have c0 : ∀ b : Bool, K = T.size → decide ((K : Int) < (T.size : Int)) = false := fun _ h => decide_eq_false (by omega)
 have c1 : ∀ b : Bool, K < T.size → decide ((K : Int) < (T.size : Int)) = true := fun _ h => decide_eq_true (by omega)
 have wK : IntKind.i64.wrap ((K : Int) + 1) = ((K + 1 : Nat) : Int) := by rw [w64 (by omega) (by omega)]; omega
 have cond : (qneg s = qneg s) := rfl
 clear eng eT cond
 rcases NA with ⟨oA, NA⟩ | ⟨oA, NA⟩
 ·have zA := pv_nd5 _ oA (by omega)
  rw [oA]
  rcases k5 with ⟨hH, hK⟩ | ⟨hH, hK, hBx⟩
  ·have cK := c0 true hK
   rw [hH]
   simp only [Bool.not_true, Bool.false_or, Bool.false_and, Bool.false_eq_true, if_false]
   rw [if_neg (by decide)]
   generalize pv (cutA T) (cutA T).size = X at *
   have C := dCan1 ng X (by omega)
   have e1 : (if ng = true then -((X : Nat) : Int) else ((X : Nat) : Int)) = sgd ng X := rfl
   rw [e1]
   show Sp Tryz.prog 77 [] [.string s] (.tuple #[rV (Rat.divInt (sgd ng X) 1), nV 0]) []
   generalize Rat.divInt (sgd ng X) 1 = q at *
   clear e1 zA oA hK hH c0 c1 wK
   rcases hneg with ⟨rfl, h0, rfl⟩ | ⟨h0, ⟨rfl, hb, rfl⟩ | ⟨rfl, hb, hx⟩⟩
   ·have l3 : decide ((T.size : Int) > 0) = false := decide_eq_false (by omega)
    clear h0 hA hB hT hl k1 k2 k3 k4
    exact walk (code := Tryz.f77.body.getD .skip) [L, eb l2, L, eb l3, lp [(0, 0)] hlp, gx _ 9 _ _ g1, cr NA, L, eb cK, cr C] fol Tryz.func77 (by kernel_rfl) (fun xs w => Tryz.call77 xs w) (by kernel_rfl)
   ·have l3 : decide ((T.size : Int) > 0) = true := decide_eq_true (by omega)
    have g0 := @idxG T 0 (.tmp 17) (.const (.int .i64 0)) h0
    have c2 : decide ((((T[0]'h0).toNat : Nat) : Int) = 45) = false := decide_eq_false (by omega)
    generalize (((T[0]'h0).toNat : Nat) : Int) = b at *
    clear hb hA hB hT hl k1 k2 k3 k4
    exact walk (code := Tryz.f77.body.getD .skip) [L, eb l2, L, eb l3, gx _ 5 _ _ g0, eb c2, lp [(0, 0)] hlp, gx _ 9 _ _ g1, cr NA, L, eb cK, cr C] fol Tryz.func77 (by kernel_rfl) (fun xs w => Tryz.call77 xs w) (by kernel_rfl)
   ·have l3 : decide ((s.size : Int) > 0) = true := decide_eq_true (by omega)
    have g0 := @idxG s 0 (.tmp 17) (.const (.int .i64 0)) h0
    rw [hb] at g0
    have gs := @slL2 s 1 (.tmp 22) (.const (.int .i64 1)) (by omega) (by omega)
    rw [show (1 : Int).toNat = 1 from rfl, ← hx] at gs
    clear hx hb hA hB hT hl k1 k2 k3 k4
    exact walk (code := Tryz.f77.body.getD .skip) [L, eb l2, L, eb l3, gx _ 5 _ _ g0, L, gx _ 9 _ _ gs, lp [(0, 0)] hlp, gx _ 9 _ _ g1, cr NA, L, eb cK, cr C] fol Tryz.func77 (by kernel_rfl) (fun xs w => Tryz.call77 xs w) (by kernel_rfl)
  ·have cK := c1 true hK
   rw [hH]
   have g2 := @slL2 T ((K + 1 : Nat) : Int) (.tmp 52) (.tmp 54) (by omega) (by omega)
   rw [Int.toNat_natCast, hBx] at g2
   have NB := rNumber (cutB T) (by omega)
   rcases NB with ⟨oB, NB⟩ | ⟨oB, NB⟩
   ·have zB := pv_nd5 _ oB (by omega)
    rw [oB]
    simp only [Bool.not_true, Bool.false_or, Bool.and_false, Bool.false_eq_true, if_false, if_true]
    generalize pv (cutA T) (cutA T).size = X at *
    generalize pv (cutB T) (cutB T).size = Y at *
    by_cases hY : Y = 0
    ·subst hY
     rw [if_pos rfl, rV0]
     have cz : decide (((nd 256 0 : Nat) : Int) = 0) = true := rfl
     clear zA zB oA oB hK hH hBx c0 c1
     rcases hneg with ⟨rfl, h0, rfl⟩ | ⟨h0, ⟨rfl, hb, rfl⟩ | ⟨rfl, hb, hx⟩⟩
     ·have l3 : decide ((T.size : Int) > 0) = false := decide_eq_false (by omega)
      clear h0 hA hB hT hl k1 k2 k3 k4
      exact walk (code := Tryz.f77.body.getD .skip) [L, eb l2, L, eb l3, lp [(0, 0)] hlp, gx _ 9 _ _ g1, cr NA, L, eb cK, Go.Sy.e (congrArg (Value.int IntKind.i64) wK), gx _ 9 _ _ g2, cr NB] fol Tryz.func77 (by kernel_rfl) (fun xs w => Tryz.call77 xs w) (by kernel_rfl)
     ·have l3 : decide ((T.size : Int) > 0) = true := decide_eq_true (by omega)
      have g0 := @idxG T 0 (.tmp 17) (.const (.int .i64 0)) h0
      have c2 : decide ((((T[0]'h0).toNat : Nat) : Int) = 45) = false := decide_eq_false (by omega)
      generalize (((T[0]'h0).toNat : Nat) : Int) = b at *
      clear hb hA hB hT hl k1 k2 k3 k4
      exact walk (code := Tryz.f77.body.getD .skip) [L, eb l2, L, eb l3, gx _ 5 _ _ g0, eb c2, lp [(0, 0)] hlp, gx _ 9 _ _ g1, cr NA, L, eb cK, Go.Sy.e (congrArg (Value.int IntKind.i64) wK), gx _ 9 _ _ g2, cr NB] fol Tryz.func77 (by kernel_rfl) (fun xs w => Tryz.call77 xs w) (by kernel_rfl)
     ·have l3 : decide ((s.size : Int) > 0) = true := decide_eq_true (by omega)
      have g0 := @idxG s 0 (.tmp 17) (.const (.int .i64 0)) h0
      rw [hb] at g0
      have gs := @slL2 s 1 (.tmp 22) (.const (.int .i64 1)) (by omega) (by omega)
      rw [show (1 : Int).toNat = 1 from rfl, ← hx] at gs
      clear hx hb hA hB hT hl k1 k2 k3 k4
      exact walk (code := Tryz.f77.body.getD .skip) [L, eb l2, L, eb l3, gx _ 5 _ _ g0, L, gx _ 9 _ _ gs, lp [(0, 0)] hlp, gx _ 9 _ _ g1, cr NA, L, eb cK, Go.Sy.e (congrArg (Value.int IntKind.i64) wK), gx _ 9 _ _ g2, cr NB] fol Tryz.func77 (by kernel_rfl) (fun xs w => Tryz.call77 xs w) (by kernel_rfl)
    ·rw [if_neg hY]
     have C := fCan ng X Y (by omega) (by omega) (by omega)
     have e1 : (if ng = true then -((X : Nat) : Int) else ((X : Nat) : Int)) = sgd ng X := rfl
     rw [e1]
     have cz : decide (((nd 256 Y : Nat) : Int) = 0) = false := by
      have := nd_pos 256 (by omega) Y (by omega)
      exact decide_eq_false (by omega)
     show Sp Tryz.prog 77 [] [.string s] (.tuple #[rV (Rat.divInt (sgd ng X) (Y : Int)), nV 0]) []
     generalize Rat.divInt (sgd ng X) (Y : Int) = q at *
     clear e1 zA zB oA oB hK hH hBx c0 c1 hY
     rcases hneg with ⟨rfl, h0, rfl⟩ | ⟨h0, ⟨rfl, hb, rfl⟩ | ⟨rfl, hb, hx⟩⟩
     ·have l3 : decide ((T.size : Int) > 0) = false := decide_eq_false (by omega)
      clear h0 hA hB hT hl k1 k2 k3 k4
      exact walk (code := Tryz.f77.body.getD .skip) [L, eb l2, L, eb l3, lp [(0, 0)] hlp, gx _ 9 _ _ g1, cr NA, L, eb cK, Go.Sy.e (congrArg (Value.int IntKind.i64) wK), gx _ 9 _ _ g2, cr NB, L, eb cz, cr C] fol Tryz.func77 (by kernel_rfl) (fun xs w => Tryz.call77 xs w) (by kernel_rfl)
     ·have l3 : decide ((T.size : Int) > 0) = true := decide_eq_true (by omega)
      have g0 := @idxG T 0 (.tmp 17) (.const (.int .i64 0)) h0
      have c2 : decide ((((T[0]'h0).toNat : Nat) : Int) = 45) = false := decide_eq_false (by omega)
      generalize (((T[0]'h0).toNat : Nat) : Int) = b at *
      clear hb hA hB hT hl k1 k2 k3 k4
      exact walk (code := Tryz.f77.body.getD .skip) [L, eb l2, L, eb l3, gx _ 5 _ _ g0, eb c2, lp [(0, 0)] hlp, gx _ 9 _ _ g1, cr NA, L, eb cK, Go.Sy.e (congrArg (Value.int IntKind.i64) wK), gx _ 9 _ _ g2, cr NB, L, eb cz, cr C] fol Tryz.func77 (by kernel_rfl) (fun xs w => Tryz.call77 xs w) (by kernel_rfl)
     ·have l3 : decide ((s.size : Int) > 0) = true := decide_eq_true (by omega)
      have g0 := @idxG s 0 (.tmp 17) (.const (.int .i64 0)) h0
      rw [hb] at g0
      have gs := @slL2 s 1 (.tmp 22) (.const (.int .i64 1)) (by omega) (by omega)
      rw [show (1 : Int).toNat = 1 from rfl, ← hx] at gs
      clear hx hb hA hB hT hl k1 k2 k3 k4
      exact walk (code := Tryz.f77.body.getD .skip) [L, eb l2, L, eb l3, gx _ 5 _ _ g0, L, gx _ 9 _ _ gs, lp [(0, 0)] hlp, gx _ 9 _ _ g1, cr NA, L, eb cK, Go.Sy.e (congrArg (Value.int IntKind.i64) wK), gx _ 9 _ _ g2, cr NB, L, eb cz, cr C] fol Tryz.func77 (by kernel_rfl) (fun xs w => Tryz.call77 xs w) (by kernel_rfl)
   ·rw [oB]
    simp only [Bool.not_true, Bool.false_or, Bool.not_false, Bool.and_true, if_true]
    rw [rV0]
    clear zA oA oB hK hH hBx c0 c1
    rcases hneg with ⟨rfl, h0, rfl⟩ | ⟨h0, ⟨rfl, hb, rfl⟩ | ⟨rfl, hb, hx⟩⟩
    ·have l3 : decide ((T.size : Int) > 0) = false := decide_eq_false (by omega)
     clear h0 hA hB hT hl k1 k2 k3 k4
     exact walk (code := Tryz.f77.body.getD .skip) [L, eb l2, L, eb l3, lp [(0, 0)] hlp, gx _ 9 _ _ g1, cr NA, L, eb cK, Go.Sy.e (congrArg (Value.int IntKind.i64) wK), gx _ 9 _ _ g2, c NB] fol Tryz.func77 (by kernel_rfl) (fun xs w => Tryz.call77 xs w) (by kernel_rfl)
    ·have l3 : decide ((T.size : Int) > 0) = true := decide_eq_true (by omega)
     have g0 := @idxG T 0 (.tmp 17) (.const (.int .i64 0)) h0
     have c2 : decide ((((T[0]'h0).toNat : Nat) : Int) = 45) = false := decide_eq_false (by omega)
     generalize (((T[0]'h0).toNat : Nat) : Int) = b at *
     clear hb hA hB hT hl k1 k2 k3 k4
     exact walk (code := Tryz.f77.body.getD .skip) [L, eb l2, L, eb l3, gx _ 5 _ _ g0, eb c2, lp [(0, 0)] hlp, gx _ 9 _ _ g1, cr NA, L, eb cK, Go.Sy.e (congrArg (Value.int IntKind.i64) wK), gx _ 9 _ _ g2, c NB] fol Tryz.func77 (by kernel_rfl) (fun xs w => Tryz.call77 xs w) (by kernel_rfl)
    ·have l3 : decide ((s.size : Int) > 0) = true := decide_eq_true (by omega)
     have g0 := @idxG s 0 (.tmp 17) (.const (.int .i64 0)) h0
     rw [hb] at g0
     have gs := @slL2 s 1 (.tmp 22) (.const (.int .i64 1)) (by omega) (by omega)
     rw [show (1 : Int).toNat = 1 from rfl, ← hx] at gs
     clear hx hb hA hB hT hl k1 k2 k3 k4
     exact walk (code := Tryz.f77.body.getD .skip) [L, eb l2, L, eb l3, gx _ 5 _ _ g0, L, gx _ 9 _ _ gs, lp [(0, 0)] hlp, gx _ 9 _ _ g1, cr NA, L, eb cK, Go.Sy.e (congrArg (Value.int IntKind.i64) wK), gx _ 9 _ _ g2, c NB] fol Tryz.func77 (by kernel_rfl) (fun xs w => Tryz.call77 xs w) (by kernel_rfl)
 ·rw [oA]
  simp only [Bool.not_false, Bool.true_or, if_true]
  rw [rV0]
  clear oA k5 c0 c1 wK
  rcases hneg with ⟨rfl, h0, rfl⟩ | ⟨h0, ⟨rfl, hb, rfl⟩ | ⟨rfl, hb, hx⟩⟩
  ·have l3 : decide ((T.size : Int) > 0) = false := decide_eq_false (by omega)
   clear h0 hA hB hT hl k1 k2 k3 k4
   exact walk (code := Tryz.f77.body.getD .skip) [L, eb l2, L, eb l3, lp [(0, 0)] hlp, gx _ 9 _ _ g1, c NA] fol Tryz.func77 (by kernel_rfl) (fun xs w => Tryz.call77 xs w) (by kernel_rfl)
  ·have l3 : decide ((T.size : Int) > 0) = true := decide_eq_true (by omega)
   have g0 := @idxG T 0 (.tmp 17) (.const (.int .i64 0)) h0
   have c2 : decide ((((T[0]'h0).toNat : Nat) : Int) = 45) = false := decide_eq_false (by omega)
   generalize (((T[0]'h0).toNat : Nat) : Int) = b at *
   clear hb hA hB hT hl k1 k2 k3 k4
   exact walk (code := Tryz.f77.body.getD .skip) [L, eb l2, L, eb l3, gx _ 5 _ _ g0, eb c2, lp [(0, 0)] hlp, gx _ 9 _ _ g1, c NA] fol Tryz.func77 (by kernel_rfl) (fun xs w => Tryz.call77 xs w) (by kernel_rfl)
  ·have l3 : decide ((s.size : Int) > 0) = true := decide_eq_true (by omega)
   have g0 := @idxG s 0 (.tmp 17) (.const (.int .i64 0)) h0
   rw [hb] at g0
   have gs := @slL2 s 1 (.tmp 22) (.const (.int .i64 1)) (by omega) (by omega)
   rw [show (1 : Int).toNat = 1 from rfl, ← hx] at gs
   clear hx hb hA hB hT hl k1 k2 k3 k4
   exact walk (code := Tryz.f77.body.getD .skip) [L, eb l2, L, eb l3, gx _ 5 _ _ g0, L, gx _ 9 _ _ gs, lp [(0, 0)] hlp, gx _ 9 _ _ g1, c NA] fol Tryz.func77 (by kernel_rfl) (fun xs w => Tryz.call77 xs w) (by kernel_rfl)
end Go.Proofs.YthdaimoankaciaaGreatDoor

end
section
/- The reference's square root of an integer, binary digit by binary digit. -/
set_option linter.unusedSimpArgs false
set_option linter.unusedVariables false
namespace Go.Proofs.YthdaimoankaciaaGreatDoor
open Go Go.RowKit
open Vi
def hi2 (r p : Nat) : Nat := r / 2 ^ p * 2 ^ p
end Go.Proofs.YthdaimoankaciaaGreatDoor

end
section
/- Equality of structs, field by field; of bounds. -/
set_option linter.unusedSimpArgs false
set_option linter.unusedVariables false
namespace Go.Sy
open Go Go.RowKit
section
variable {P : Program}
inductive FE (P : Program) (d : Nat) (xs ys : Array Value) : List (TypeId × Nat) → Bool → Prop where
 | nil : FE P d xs ys [] true
 | cons {t : TypeId} {off : Nat} {l : List (TypeId × Nat)} {a b : Value} {r q : Bool} (ha : pureRun P (part t xs off) = some a) (hb : pureRun P (part t ys off) = some b)
     (hr : ∀ w, (Op.equalIn d t a b).run P w = .ok r w) (h : FE P d xs ys l q) : FE P d xs ys ((t, off) :: l) (r && q)
theorem FE.run {d : Nat} {xs ys : Array Value} : ∀ {fs : List Field} {l : List (TypeId × Nat)} {q : Bool}, fs.map (fun f => (f.name == "_", f.type, f.offset)) = l.map (fun p => (false, p.1, p.2)) → FE P d xs ys l q →
    ∀ w, (Op.eqFields d xs ys fs).run P w = .ok q w
 | [], [], _, _, h, w => by cases h; rfl
 | f :: fs, [], _, hm, _, _ => by simp at hm
 | [], _ :: _, _, hm, _, _ => by simp at hm
 | f :: fs, _ :: l, _, hm, h, w => by
  cases h with
  | cons ha hb hr h =>
   rename_i t off a b r q
   simp only [List.map_cons, List.cons.injEq, Prod.mk.injEq] at hm
   obtain ⟨⟨h1, h2, h3⟩, hm⟩ := hm
   have hn : f.name ≠ "_" := by simpa using h1
   have ih := FE.run hm h w
   simp only [Op.eqFields, if_pos hn, Sem.run_bind, h2, h3, pureRun_run ha, pureRun_run hb, Result.andThen_ok, hr]
   cases r
   ·simp
   ·simp [ih]
theorem eqStruct {d : Nat} {t : TypeId} {xs ys : Array Value} {l : List (TypeId × Nat)} {q : Bool} (ht : P.underlying t = some (.struct (P.fieldsOf t))) (hp : P.stoodInHeld t = false)
    (hm : (P.fieldsOf t).toList.map (fun f => (f.name == "_", f.type, f.offset)) = l.map (fun p => (false, p.1, p.2))) (h : FE P d xs ys l q) (w : World) : (Op.equalIn (d + 1) t (.agg xs) (.agg ys)).run P w = .ok q w := by
 rw [run_equalIn_agg _ _ _ _ _ ht hp]
 exact h.run hm w
end
end Go.Sy
namespace Go.Proofs.YthdaimoankaciaaGreatDoor
open Go Go.RowKit Go.Sy
open Vi
theorem binS {T : TypeId} {xs ys : Array Value} {q : Bool} (h : ∀ w, (Op.equalIn 10000 T (.agg xs) (.agg ys)).run Tryz.prog w = .ok q w) (hg : Tryz.prog.eqGuardType Tryz.prog.depth T = false) : Bin .eql T (.agg xs) (.agg ys) (.bool q) := fun ox oy w => by
 rw [Sem.run_bind, run_eqGuard_agg _ _ _ _ _ _ _ hg, Result.andThen_ok, run_eql_struct, h]
 rfl
end Go.Proofs.YthdaimoankaciaaGreatDoor
set_option linter.unusedSimpArgs false
set_option linter.unusedVariables false
namespace Go.Proofs.YthdaimoankaciaaGreatDoor
open Go Go.RowKit Go.Sy
open Vi
end Go.Proofs.YthdaimoankaciaaGreatDoor
set_option linter.unusedSimpArgs false
set_option linter.unusedVariables false
namespace Go.Proofs.YthdaimoankaciaaGreatDoor
open Go Go.RowKit Go.Sy
open Vi
def lsQ (x y : Rat) : Rat := if y < x then y else x
def grQ (x y : Rat) : Rat := if x < y then y else x
instance (p q : Rat) (i j : Nat) [h : HasSz p i] [g : HasSz q j] : HasSz (lsQ p q) (i + j) := by
 unfold lsQ; split
 ·exact hs_mono g (by omega)
 ·exact hs_mono h (by omega)
instance (p q : Rat) (i j : Nat) [h : HasSz p i] [g : HasSz q j] : HasSz (grQ p q) (i + j) := by
 unfold grQ; split
 ·exact hs_mono g (by omega)
 ·exact hs_mono h (by omega)
end Go.Proofs.YthdaimoankaciaaGreatDoor
set_option linter.unusedSimpArgs false
set_option linter.unusedVariables false
namespace Go.Proofs.YthdaimoankaciaaGreatDoor
open Go Go.RowKit Go.Sy
open Vi
theorem divInt1 (n : Int) : Rat.divInt n 1 = (n : Rat) := by rw [Rat.divInt_eq_div]; show (n : Rat) / 1 = n; grind
end Go.Proofs.YthdaimoankaciaaGreatDoor
set_option linter.unusedSimpArgs false
set_option linter.unusedVariables false
namespace Go.Proofs.YthdaimoankaciaaGreatDoor
open Go Go.RowKit Go.Sy
open Vi
end Go.Proofs.YthdaimoankaciaaGreatDoor
set_option linter.unusedSimpArgs false
set_option linter.unusedVariables false
namespace Go.Proofs.YthdaimoankaciaaGreatDoor
open Go Go.RowKit Go.Sy
open Vi
end Go.Proofs.YthdaimoankaciaaGreatDoor
set_option linter.unusedSimpArgs false
set_option linter.unusedVariables false
namespace Go.Proofs.YthdaimoankaciaaGreatDoor
open Go Go.RowKit Go.Sy
open Vi
noncomputable def isq (X : Nat) : Nat := Classical.choose (isRt_ex X)
theorem isq_spec (X : Nat) : IsRt X (isq X) := Classical.choose_spec (isRt_ex X)
theorem iSqrt (x : Int) (h0 : 0 ≤ x) (hx : (mg x).size ≤ 1048576) : Sp Tryz.prog 106 [] [iV x] (.tuple #[iV ((isq x.toNat : Nat) : Int), nV 0]) [] := by
 have h := isq_spec x.toNat
 have e : x.natAbs = x.toNat := by omega
 exact Sp.of (fun xs w => Tryz.call106 xs w) (by kernel_rfl) (by kernel_rfl) (fun w => Sqrt_c x (isq x.toNat) h0 (by rw [e]; exact h.1) (by rw [e]; exact h.2) w hx)
def p2 (n : Nat) : Int := 2 ^ n
end Go.Proofs.YthdaimoankaciaaGreatDoor
set_option linter.unusedSimpArgs false
set_option linter.unusedVariables false
namespace Go.Proofs.YthdaimoankaciaaGreatDoor
open Go Go.RowKit Go.Sy
open Vi
end Go.Proofs.YthdaimoankaciaaGreatDoor
set_option linter.unusedSimpArgs false
set_option linter.unusedVariables false
namespace Go.Proofs.YthdaimoankaciaaGreatDoor
open Go Go.RowKit Go.Sy
open Vi
end Go.Proofs.YthdaimoankaciaaGreatDoor

end
