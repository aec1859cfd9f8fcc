/- The program's digits; strings.Cut. -/
import Derived.Test.YthdaimoankaciaaGreatDoorIntK
import Derived.Test.YthdaimoankaciaaGreatDoorKinds
import Derived.Test.YthdaimoankaciaaGreatDoorRelM
import Derived.Test.YthdaimoankaciaaGreatDoorRelC
import Derived.Test.YthdaimoankaciaaGreatDoorDec
import Derived.Test.YthdaimoankaciaaGreatDoorRefs
import Derived.Lib.OthersKept
import Derived.Laws.RangeAny
import Derived.WalkSmall
import Derived.Laws.RangeString
import Derived.OwnWalk
import Derived.Deep.DeepCutAuto
import Derived.Deep.CutBlock
set_option linter.unusedSimpArgs false
set_option linter.unusedVariables false
namespace Go.Proofs.YthdaimoankaciaaGreatDoor
open Go Go.RowKit
open Vi
theorem size_i64 (n : Int) (h1 : -9223372036854775808 ≤ n) (h2 : n ≤ 9223372036854775807) : (mg n).size ≤ 8 := by
 apply size_mag_le _ 8
 have e : (256 : Nat) ^ 8 = 18446744073709551616 := by decide
 rw [e]; omega
def DigS (s : ByteArray) : Prop := ∀ i (h : i < s.size), 48 ≤ (s[i]'h).toNat ∧ (s[i]'h).toNat ≤ 57
theorem row_plus_other {V u : World} {b j : Nat} {T : TypeId} {c : Array Value} {o : Obj} (hj : V.heap[j]? = some o) (hne : j ≠ b) : ((V.row b T c).plus u).heap[j]? = some o := by
 have h := (Array.getElem?_eq_some_iff.1 hj).1
 rw [World.heap_plus _ _ _ (by rw [World.size_row]; exact h), World.heap_row_other _ _ _ _ _ hne, hj]
theorem row_plus_same {V u : World} {b : Nat} {T : TypeId} {c : Array Value} (h : b < V.heap.size) : ((V.row b T c).plus u).heap[b]? = some (.cells c T (0, 0)) := by
 rw [World.heap_plus _ _ _ (by rw [World.size_row]; exact h), World.heap_row_same _ _ _ _ h]
theorem isEmpty_size (s : ByteArray) : s.toList.isEmpty = decide (s.size = 0) := by
 rw [toList_data]
 have : s.data.toList.length = s.size := rfl
 cases h : s.data.toList with
 | nil => rw [h] at this; simp at this; simp [← this]
 | cons a l =>
  rw [h] at this
  have h0 : s.size ≠ 0 := by rw [← this]; simp
  simp [h0]
set_option maxRecDepth 100000 in
set_option maxHeartbeats 3200000 in
theorem qDigits_c (s : ByteArray) (hs : s.size ≤ 4096) (r1 : Int) (r2 : Bool) (hok : (DigS s ∧ r1 = (pv s s.size : Nat) ∧ r2 = decide (0 < s.size)) ∨ (¬ DigS s ∧ r1 = 0 ∧ r2 = false)) (w : World) : Calls Tryz.prog 128 #[.string s] w fun z w' => z = .returned (.tuple #[.agg #[.bool (sg r1), .string (mg r1)], .bool r2]) ∧ Below w.heap.size w w' := by
 have HOK := Lib.hid hok
 clear hok
 obtain ⟨ten, hten⟩ : ∃ z : Int, z = 10 := ⟨_, rfl⟩
 have h10 : Hid (∀ w, Calls Tryz.prog 110 #[.int .i64 10] w fun z w' => z = .returned (.agg #[.bool (sg ten), .string (mg ten)]) ∧ Below w.heap.size w w') := Lib.hid fun w => by rw [hten]; exact FromInt_c 10 w (by decide) (by decide)
 have HTEN := Lib.hid hten
 clear hten
 go_enter Tryz.func128, Tryz.ntmps128
 go_upto_region 2 with fail
 obtain ⟨V1, hV1⟩ : ∃ z, z = ((w.alloc (.cells #[.bool false, .string ⟨#[]⟩] 23)).alloc (.cells #[.bool false, .string ⟨#[]⟩] 23)) := ⟨_, rfl⟩
 rw [← hV1]
 try rw [← hV1] at HV
 have q4 : V1.heap[w.heap.size + 1]? = some (.cells #[.bool false, .string ⟨#[]⟩] 23 (0, 0)) := by rw [hV1]; (repeat' (first | (with_reducible exact heap_at _ _ _ (by first | (simp [go_sem]; done) | omega)) | (with_reducible assumption) | (with_reducible exact World.heap_row_same _ _ _ _ (by first | assumption | omega | (with_reducible exact Nat.lt_of_lt_of_le (by first | assumption | omega | (simp [go_sem]; done) | (simp [go_sem]; omega)) (World.size_plus _ _)) | (simp [go_sem]; done) | (simp [go_sem]; omega))) | (rw [World.heap_row_other _ _ _ _ _ (by first | assumption | omega)]) | (rw [World.heap_plus _ _ _ (by first | assumption | omega | (with_reducible exact Nat.lt_of_lt_of_le (by first | assumption | omega | (simp [go_sem]; done) | (simp [go_sem]; omega)) (World.size_plus _ _)) | (simp [go_sem]; done) | (simp [go_sem]; omega))]) | (rw [heap_alloc_old _ _ (by first | assumption | omega | (with_reducible exact Nat.lt_of_lt_of_le (by first | assumption | omega | (simp [go_sem]; done) | (simp [go_sem]; omega)) (World.size_plus _ _)) | (simp [go_sem]; done) | (simp [go_sem]; omega))])))
 have q2 : V1.heap[w.heap.size]? = some (.cells #[.bool false, .string ⟨#[]⟩] 23 (0, 0)) := by rw [hV1]; (repeat' (first | (with_reducible exact heap_at _ _ _ (by first | (simp [go_sem]; done) | omega)) | (with_reducible assumption) | (with_reducible exact World.heap_row_same _ _ _ _ (by first | assumption | omega | (with_reducible exact Nat.lt_of_lt_of_le (by first | assumption | omega | (simp [go_sem]; done) | (simp [go_sem]; omega)) (World.size_plus _ _)) | (simp [go_sem]; done) | (simp [go_sem]; omega))) | (rw [World.heap_row_other _ _ _ _ _ (by first | assumption | omega)]) | (rw [World.heap_plus _ _ _ (by first | assumption | omega | (with_reducible exact Nat.lt_of_lt_of_le (by first | assumption | omega | (simp [go_sem]; done) | (simp [go_sem]; omega)) (World.size_plus _ _)) | (simp [go_sem]; done) | (simp [go_sem]; omega))]) | (rw [heap_alloc_old _ _ (by first | assumption | omega | (with_reducible exact Nat.lt_of_lt_of_le (by first | assumption | omega | (simp [go_sem]; done) | (simp [go_sem]; omega)) (World.size_plus _ _)) | (simp [go_sem]; done) | (simp [go_sem]; omega))])))
 replace hbw : Below w.heap.size w V1 := by rw [hV1]; (repeat' (first | (with_reducible first | exact Below.refl _ _ | assumption | refine Below.plus0 ?_ _ | refine Below.row ?_ ?_ _ _ | refine Below.alloc0 ?_ _ | refine Below.plus ?_ ?_ _ | refine Below.alloc ?_ ?_ _ | refine Below.drew ?_ | refine Below.drewN ?_ _) | (simp [go_sem]; done) | (simp [go_sem]; omega)))
 obtain ⟨b4, hb4⟩ : ∃ b, b = w.heap.size + 1 := ⟨_, rfl⟩
 rw [← hb4] at q4
 try simp only [← hb4]
 obtain ⟨b2, hb2⟩ : ∃ b, b = w.heap.size := ⟨_, rfl⟩
 rw [← hb2] at q2
 try simp only [← hb2]
 have y4 : w.heap.size ≤ b4 := by first | omega | (rw [hb4]; first | exact Nat.le_refl _ | (simp [go_sem]; done) | (simp [go_sem]; omega) | (have := hbw.size; simp [go_sem] at *; omega))
 have y2 : w.heap.size ≤ b2 := by first | omega | (rw [hb2]; first | exact Nat.le_refl _ | (simp [go_sem]; done) | (simp [go_sem]; omega) | (have := hbw.size; simp [go_sem] at *; omega))
 have n42 : b4 ≠ b2 := by first | omega | (rw [hb4, hb2]; first | (simp [go_sem]; done) | (simp [go_sem]; omega))
 have n24 : b2 ≠ b4 := n42.symm
 replace z4 : b4 < V1.heap.size := (Array.getElem?_eq_some_iff.1 q4).1
 replace c40 : V1.cell? ⟨b4, 0, none⟩ = some (.bool false) := (cell_at q4).trans rfl
 replace c41 : V1.cell? ⟨b4, 1, none⟩ = some (.string ⟨#[]⟩) := (cell_at q4).trans rfl
 replace z2 : b2 < V1.heap.size := (Array.getElem?_eq_some_iff.1 q2).1
 replace c20 : V1.cell? ⟨b2, 0, none⟩ = some (.bool false) := (cell_at q2).trans rfl
 replace c21 : V1.cell? ⟨b2, 1, none⟩ = some (.string ⟨#[]⟩) := (cell_at q2).trans rfl
 clear hV1 hb4 hb2
 (go_wp2_with fail; refine (h10.out _).mono ?_; rintro e w' ⟨rfl, hb⟩; (first | (with_reducible (have hb2 := World.plus_of_below ((World.below_plus _ _).trans (hb.mono (World.size_plus _ _)))); obtain ⟨u, rfl⟩ := hb2) | (obtain ⟨u, rfl⟩ := World.plus_of_below hb)); clear hb)
 go_upto_region 3 with fail
 obtain ⟨V2, hV2⟩ : ∃ z, z = ((V1.plus u).alloc (.cells #[.bool (sg ten), .string (mg ten)] 23)) := ⟨_, rfl⟩
 rw [← hV2]
 try rw [← hV2] at HV
 have q5 : V2.heap[(V1.plus u).heap.size]? = some (.cells #[.bool (sg ten), .string (mg ten)] 23 (0, 0)) := by rw [hV2]; (repeat' (first | (with_reducible exact heap_at _ _ _ (by first | (simp [go_sem]; done) | omega)) | (with_reducible assumption) | (with_reducible exact World.heap_row_same _ _ _ _ (by first | assumption | omega | (with_reducible exact Nat.lt_of_lt_of_le (by first | assumption | omega | (simp [go_sem]; done) | (simp [go_sem]; omega)) (World.size_plus _ _)) | (simp [go_sem]; done) | (simp [go_sem]; omega))) | (rw [World.heap_row_other _ _ _ _ _ (by first | assumption | omega)]) | (rw [World.heap_plus _ _ _ (by first | assumption | omega | (with_reducible exact Nat.lt_of_lt_of_le (by first | assumption | omega | (simp [go_sem]; done) | (simp [go_sem]; omega)) (World.size_plus _ _)) | (simp [go_sem]; done) | (simp [go_sem]; omega))]) | (rw [heap_alloc_old _ _ (by first | assumption | omega | (with_reducible exact Nat.lt_of_lt_of_le (by first | assumption | omega | (simp [go_sem]; done) | (simp [go_sem]; omega)) (World.size_plus _ _)) | (simp [go_sem]; done) | (simp [go_sem]; omega))])))
 replace q4 : V2.heap[b4]? = some (.cells #[.bool false, .string ⟨#[]⟩] 23 (0, 0)) := by rw [hV2]; (repeat' (first | (with_reducible exact heap_at _ _ _ (by first | (simp [go_sem]; done) | omega)) | (with_reducible assumption) | (with_reducible exact World.heap_row_same _ _ _ _ (by first | assumption | omega | (with_reducible exact Nat.lt_of_lt_of_le (by first | assumption | omega | (simp [go_sem]; done) | (simp [go_sem]; omega)) (World.size_plus _ _)) | (simp [go_sem]; done) | (simp [go_sem]; omega))) | (rw [World.heap_row_other _ _ _ _ _ (by first | assumption | omega)]) | (rw [World.heap_plus _ _ _ (by first | assumption | omega | (with_reducible exact Nat.lt_of_lt_of_le (by first | assumption | omega | (simp [go_sem]; done) | (simp [go_sem]; omega)) (World.size_plus _ _)) | (simp [go_sem]; done) | (simp [go_sem]; omega))]) | (rw [heap_alloc_old _ _ (by first | assumption | omega | (with_reducible exact Nat.lt_of_lt_of_le (by first | assumption | omega | (simp [go_sem]; done) | (simp [go_sem]; omega)) (World.size_plus _ _)) | (simp [go_sem]; done) | (simp [go_sem]; omega))])))
 replace q2 : V2.heap[b2]? = some (.cells #[.bool false, .string ⟨#[]⟩] 23 (0, 0)) := by rw [hV2]; (repeat' (first | (with_reducible exact heap_at _ _ _ (by first | (simp [go_sem]; done) | omega)) | (with_reducible assumption) | (with_reducible exact World.heap_row_same _ _ _ _ (by first | assumption | omega | (with_reducible exact Nat.lt_of_lt_of_le (by first | assumption | omega | (simp [go_sem]; done) | (simp [go_sem]; omega)) (World.size_plus _ _)) | (simp [go_sem]; done) | (simp [go_sem]; omega))) | (rw [World.heap_row_other _ _ _ _ _ (by first | assumption | omega)]) | (rw [World.heap_plus _ _ _ (by first | assumption | omega | (with_reducible exact Nat.lt_of_lt_of_le (by first | assumption | omega | (simp [go_sem]; done) | (simp [go_sem]; omega)) (World.size_plus _ _)) | (simp [go_sem]; done) | (simp [go_sem]; omega))]) | (rw [heap_alloc_old _ _ (by first | assumption | omega | (with_reducible exact Nat.lt_of_lt_of_le (by first | assumption | omega | (simp [go_sem]; done) | (simp [go_sem]; omega)) (World.size_plus _ _)) | (simp [go_sem]; done) | (simp [go_sem]; omega))])))
 replace hbw : Below w.heap.size w V2 := by rw [hV2]; (repeat' (first | (with_reducible first | exact Below.refl _ _ | assumption | refine Below.plus0 ?_ _ | refine Below.row ?_ ?_ _ _ | refine Below.alloc0 ?_ _ | refine Below.plus ?_ ?_ _ | refine Below.alloc ?_ ?_ _ | refine Below.drew ?_ | refine Below.drewN ?_ _) | (simp [go_sem]; done) | (simp [go_sem]; omega)))
 obtain ⟨b5, hb5⟩ : ∃ b, b = (V1.plus u).heap.size := ⟨_, rfl⟩
 rw [← hb5] at q5
 try simp only [← hb5]
 have y5 : w.heap.size ≤ b5 := by first | omega | (rw [hb5]; first | exact Nat.le_refl _ | (simp [go_sem]; done) | (simp [go_sem]; omega) | (have := hbw.size; simp [go_sem] at *; omega))
 have n45 : b4 ≠ b5 := by first | omega | (rw [hb5]; first | (simp [go_sem]; done) | (simp [go_sem]; omega))
 have n54 : b5 ≠ b4 := n45.symm
 have n25 : b2 ≠ b5 := by first | omega | (rw [hb5]; first | (simp [go_sem]; done) | (simp [go_sem]; omega))
 have n52 : b5 ≠ b2 := n25.symm
 replace z5 : b5 < V2.heap.size := (Array.getElem?_eq_some_iff.1 q5).1
 replace c50 : V2.cell? ⟨b5, 0, none⟩ = some (.bool (sg ten)) := (cell_at q5).trans rfl
 replace c51 : V2.cell? ⟨b5, 1, none⟩ = some (.string (mg ten)) := (cell_at q5).trans rfl
 replace z4 : b4 < V2.heap.size := (Array.getElem?_eq_some_iff.1 q4).1
 replace c40 : V2.cell? ⟨b4, 0, none⟩ = some (.bool false) := (cell_at q4).trans rfl
 replace c41 : V2.cell? ⟨b4, 1, none⟩ = some (.string ⟨#[]⟩) := (cell_at q4).trans rfl
 replace z2 : b2 < V2.heap.size := (Array.getElem?_eq_some_iff.1 q2).1
 replace c20 : V2.cell? ⟨b2, 0, none⟩ = some (.bool false) := (cell_at q2).trans rfl
 replace c21 : V2.cell? ⟨b2, 1, none⟩ = some (.string ⟨#[]⟩) := (cell_at q2).trans rfl
 clear hV2 hb5
 go_wp2_with fail
 obtain ⟨k, hk⟩ : ∃ k, k = V2.heap.size := ⟨_, rfl⟩
 have n5 : b5 ≠ k := by omega
 have n4 : b4 ≠ k := by omega
 have n2 : b2 ≠ k := by omega
 have yk : w.heap.size ≤ k := by have := hbw.size; omega
 rw [← hk]
 go_loopw [] (fun wr => ∃ p : Nat, p ≤ s.size ∧ Hid (∀ i (h : i < s.size), i < p → 48 ≤ (s[i]'h).toNat ∧ (s[i]'h).toNat ≤ 57) ∧ wr.heap[k]? = some (.stringIter s p) ∧ wr.heap[b5]? = some (.cells #[.bool (sg ten), .string (mg ten)] 23 (0, 0)) ∧ wr.heap[b4]? = some (.cells #[.bool (sg ((pv s p : Nat) : Int)), .string (mg ((pv s p : Nat) : Int))] 23 (0, 0)) ∧ wr.heap[b2]? = some (.cells #[.bool false, .string ⟨#[]⟩] 23 (0, 0)) ∧ Below w.heap.size w wr) (fun wr => s.size - wr.iterPos k)
 case atStart =>
  refine ⟨0, Nat.zero_le _, Lib.hid (fun i h hi => absurd hi (by omega)), ?_, ?_, ?_, ?_, ?_⟩
  ·rw [hk]; exact World.iter_heap ..
  ·show (V2.alloc _).heap[b5]? = _
   rw [heap_alloc_old _ _ z5]; exact q5
  ·show (V2.alloc _).heap[b4]? = _
   rw [heap_alloc_old _ _ z4]; exact q4
  ·show (V2.alloc _).heap[b2]? = _
   rw [heap_alloc_old _ _ z2]; exact q2
  ·exact Below.alloc hbw hbw.size _
 case round =>
  obtain ⟨p, hp, HP, qk, r5, r4, r2', hbel⟩ := hrel
  clear q5 q4 q2 c50 c51 c40 c41 c20 c21 z5 z4 z2 hbw hk
  have HPK := Lib.hid (iterPos_of qk)
  by_cases hlt : p < s.size
  ·obtain ⟨c, hc⟩ : ∃ c, c = (s[p]'hlt).toNat := ⟨_, rfl⟩
   have HC := Lib.hid hc
   have step : ∀ (V : World) (p' : Nat), V = wr.iterAt k s p' → V.heap[k]? = some (.stringIter s p') ∧ V.heap[b5]? = some (.cells #[.bool (sg ten), .string (mg ten)] 23 (0, 0)) ∧ V.heap[b4]? = some (.cells #[.bool (sg ((pv s p : Nat) : Int)), .string (mg ((pv s p : Nat) : Int))] 23 (0, 0)) ∧ V.heap[b2]? = some (.cells #[.bool false, .string ⟨#[]⟩] 23 (0, 0)) ∧ Below w.heap.size w V := by
    rintro V p' rfl
    exact ⟨Lib.iterAt_heap _ _ _ _ _ qk, by rw [Lib.iterAt_other _ _ _ _ _ n5]; exact r5, by rw [Lib.iterAt_other _ _ _ _ _ n4]; exact r4, by rw [Lib.iterAt_other _ _ _ _ _ n2]; exact r2', Lib.below_iterAt hbel yk _ _⟩
   by_cases hd : 48 ≤ c ∧ c ≤ 57
   ·
    have hnx : ∀ ty, (Instr.next (.pointer (some ⟨k, 0, none⟩)) true ty).run Tryz.prog wr = _ := fun ty => Lib.run_next_ascii_at wr k s p ty qk hlt (by omega)
    rw [← hc] at hnx
    obtain ⟨V, hV⟩ : ∃ V, V = wr.iterAt k s (p + 1) := ⟨_, rfl⟩
    rw [← hV] at hnx
    obtain ⟨qk', q5, q4, q2, hbw⟩ := step V _ hV
    have QK := Lib.hid qk'
    have HV := Lib.hid hV
    have hsz := hbel.size
    clear step hV qk qk' r5 r4 r2' hbel hc
    have c40 := (cell_at (i := 0) q4).trans rfl
    have c41 := (cell_at (i := 1) q4).trans rfl
    have c50 := (cell_at (i := 0) q5).trans rfl
    have c51 := (cell_at (i := 1) q5).trans rfl
    have z4 := (Array.getElem?_eq_some_iff.1 q4).1
    have d1 : decide ((c : Int) < 48) = false := decide_eq_false (by omega)
    have d2 : decide ((57 : Int) < (c : Int)) = false := decide_eq_false (by omega)
    go_upto_region 8 with fail
    obtain ⟨X, hX⟩ : ∃ z : Nat, z = pv s p := ⟨_, rfl⟩
    rw [← hX] at c40 c41 q4
    have sX : (mg ((X : Nat) : Int)).size ≤ s.size := by
     rw [hX, mg_nat]
     refine size_mag_le _ _ (Nat.lt_of_lt_of_le (pv_lt s p (fun i hi => ?_)) (Nat.le_trans (Nat.pow_le_pow_left (by decide : 10 ≤ 256) p) (Nat.pow_le_pow_right (by decide) (by omega))))
     have h1 := HP.out i (by omega) hi
     have h2 := dgt_le s i (by omega) (by unfold isD; simp; omega)
     exact h2.1
    obtain ⟨M, hM⟩ : ∃ z : Int, z = (X : Int) * 10 := ⟨_, rfl⟩
    obtain ⟨Y, hY⟩ : ∃ z : Nat, z = pv s (p + 1) := ⟨_, rfl⟩
    have sM : (mg M).size ≤ s.size + 2 := by
     have h1 := lt_of_size_mag X s.size (by rw [← mg_nat]; exact sX)
     rw [hM]
     refine size_mag_le _ _ ?_
     rw [Nat.pow_add]
     omega
    have h1 : Hid (∀ w, Calls Tryz.prog 107 #[.agg #[.bool (sg (X : Int)), .string (mg (X : Int))], .agg #[.bool (sg ten), .string (mg ten)]] w fun z w' => z = .returned (.agg #[.bool (sg M), .string (mg M)]) ∧ Below w.heap.size w w') := Lib.hid fun w => by rw [HTEN.out, hM]; exact Mul_c (X : Int) 10 w (by omega) (by decide)
    have h2 : Hid (∀ w, Calls Tryz.prog 110 #[.int .i64 ((c : Int) - 48)] w fun z w' => z = .returned (.agg #[.bool (sg ((c : Int) - 48)), .string (mg ((c : Int) - 48))]) ∧ Below w.heap.size w w') := Lib.hid fun w => FromInt_c ((c : Int) - 48) w (by omega) (by omega)
    have h3 : Hid (∀ w, Calls Tryz.prog 109 #[.agg #[.bool (sg M), .string (mg M)], .agg #[.bool (sg ((c : Int) - 48)), .string (mg ((c : Int) - 48))]] w fun z w' => z = .returned (.agg #[.bool (sg (Y : Int)), .string (mg (Y : Int))]) ∧ Below w.heap.size w w') := Lib.hid fun w => by
     have e : (Y : Int) = M + ((c : Int) - 48) := by
      have h1 := dgt_le s p hlt (by unfold isD; have h9 := HC.out; simp; omega)
      have h2 := HC.out
      rw [hY, pv_succ, hM, hX, h2]
      omega
     rw [e]
     exact Add_c M ((c : Int) - 48) w (by omega) (by have := size_i64 ((c : Int) - 48) (by omega) (by omega); omega)
    have HX := Lib.hid hX
    have HY := Lib.hid hY
    have HM2 := Lib.hid hd
    clear hX hM hY sX sM
    (go_wp2_with fail; refine (h1.out _).mono ?_; rintro e w' ⟨rfl, hb⟩; (first | (with_reducible (have hb2 := World.plus_of_below ((World.below_plus _ _).trans (hb.mono (World.size_plus _ _)))); obtain ⟨u, rfl⟩ := hb2) | (obtain ⟨u, rfl⟩ := World.plus_of_below hb)); clear hb)
    go_wp2_with fail
    (go_wp2_with fail; refine (h2.out _).mono ?_; rintro e w' ⟨rfl, hb⟩; (first | (with_reducible (have hb2 := World.plus_of_below ((World.below_plus _ _).trans (hb.mono (World.size_plus _ _)))); obtain ⟨u, rfl⟩ := hb2) | (obtain ⟨u, rfl⟩ := World.plus_of_below hb)); clear hb)
    go_wp2_with fail
    (go_wp2_with fail; refine (h3.out _).mono ?_; rintro e w' ⟨rfl, hb⟩; (first | (with_reducible (have hb2 := World.plus_of_below ((World.below_plus _ _).trans (hb.mono (World.size_plus _ _)))); obtain ⟨u, rfl⟩ := hb2) | (obtain ⟨u, rfl⟩ := World.plus_of_below hb)); clear hb)
    have eW := World.row_self V _ _ _ q4
    rw [← eW]
    clear eW
    go_wp2_with fail
    refine ⟨⟨p + 1, by omega, Lib.hid (fun i h hi => ?_), row_plus_other QK.out n4.symm, row_plus_other q5 n54, ?_, row_plus_other q2 n24, ?_⟩, ?_⟩
    ·by_cases e : i = p
     ·subst e
      have := HC.out
      omega
     ·exact HP.out i h (by omega)
    ·rw [← HY.out]; exact row_plus_same z4
    ·exact Below.plus (hbw.row y4 _ _) (hbw.row y4 _ _).size u
    ·rw [HPK.out, iterPos_of (row_plus_other QK.out n4.symm)]
     omega
   ·
    have hND : ¬ DigS s := fun h => hd (by have := h p hlt; omega)
    obtain ⟨hr1, hr2⟩ : r1 = 0 ∧ r2 = false := by
     rcases HOK.out with h | h
     ·exact absurd h.1 hND
     ·exact h.2
    subst hr1 hr2
    obtain ⟨R, hR⟩ : ∃ R : Nat, R = (Utf8.decode s p).1 := ⟨_, rfl⟩
    have hR2 : R < 48 ∨ ¬ R < 48 ∧ 57 < R := by
     by_cases h128 : c < 128
     ·have h1 := decode_ascii s p hlt (by omega)
      rw [h1] at hR
      simp only at hR
      omega
     ·have h1 := (decode_high s p hlt (by omega)).1
      omega
    have hnx : ∀ ty, (Instr.next (.pointer (some ⟨k, 0, none⟩)) true ty).run Tryz.prog wr = _ := fun ty => Lib.run_next_any_at wr k s p ty qk hlt
    rw [← hR] at hnx
    obtain ⟨V, hV⟩ : ∃ V, V = wr.iterAt k s (p + (Utf8.decode s p).2) := ⟨_, rfl⟩
    rw [← hV] at hnx
    obtain ⟨_, _, _, q2, hbw⟩ := step V _ hV
    clear step hV qk r5 r4 r2' hbel hc HOK hd hND hR
    have z2 := (Array.getElem?_eq_some_iff.1 q2).1
    rcases hR2 with h48 | ⟨h48, h57⟩
    ·have d1 : decide ((R : Int) < 48) = true := decide_eq_true (by omega)
     go_upto_region 7 with fail
     have eW := World.row_self V _ _ _ q2
     rw [← eW]
     clear eW
     go_wp2_with fail
     refine bodyPost_ret (by simp [results, Tryz.results128, go_sem, z2]; rfl) rfl ?_
     exact ⟨rfl, by (repeat' (first | (with_reducible first | exact Below.refl _ _ | assumption | refine Below.plus0 ?_ _ | refine Below.row ?_ ?_ _ _ | refine Below.alloc0 ?_ _ | refine Below.plus ?_ ?_ _ | refine Below.alloc ?_ ?_ _ | refine Below.drew ?_ | refine Below.drewN ?_ _) | (simp [go_sem]; done) | (simp [go_sem]; omega)))⟩
    ·have d1 : decide ((R : Int) < 48) = false := decide_eq_false (by omega)
     have d2 : decide ((57 : Int) < (R : Int)) = true := decide_eq_true (by omega)
     go_upto_region 7 with fail
     have eW := World.row_self V _ _ _ q2
     rw [← eW]
     clear eW
     go_wp2_with fail
     refine bodyPost_ret (by simp [results, Tryz.results128, go_sem, z2]; rfl) rfl ?_
     exact ⟨rfl, by (repeat' (first | (with_reducible first | exact Below.refl _ _ | assumption | refine Below.plus0 ?_ _ | refine Below.row ?_ ?_ _ _ | refine Below.alloc0 ?_ _ | refine Below.plus ?_ ?_ _ | refine Below.alloc ?_ ?_ _ | refine Below.drew ?_ | refine Below.drewN ?_ _) | (simp [go_sem]; done) | (simp [go_sem]; omega)))⟩
  ·have ep : p = s.size := by omega
   have hDS : DigS s := fun i h => HP.out i h (by omega)
   obtain ⟨hr1, hr2⟩ : r1 = (pv s s.size : Nat) ∧ r2 = decide (0 < s.size) := by
    rcases HOK.out with h | h
    ·exact h.2
    ·exact absurd hDS h.1
   have hr3 : r2 = !s.toList.isEmpty := by rw [hr2, isEmpty_size]; by_cases h : s.size = 0 <;> simp [h] <;> omega
   have hnx : ∀ ty, (Instr.next (.pointer (some ⟨k, 0, none⟩)) true ty).run Tryz.prog wr = _ := fun ty => Lib.run_next_end_at wr k s p ty qk hlt
   obtain ⟨X, hX⟩ : ∃ z : Nat, z = pv s p := ⟨_, rfl⟩
   rw [← hX] at r4
   have HR1 : Hid (r1 = (X : Int)) := Lib.hid (by rw [hr1, hX, ep])
   have HR3 := Lib.hid hr3
   have c40 := (cell_at (i := 0) r4).trans rfl
   have c41 := (cell_at (i := 1) r4).trans rfl
   have z2 := (Array.getElem?_eq_some_iff.1 r2').1
   have z4 := (Array.getElem?_eq_some_iff.1 r4).1
   clear hr1 hr2 hr3 HOK hX ep hDS r5 qk
   cases hbe : s.toList.isEmpty
   ·have HBE := Lib.hid hbe
    go_upto_region 9 with fail
    have eW := World.row_self wr _ _ _ r2'
    rw [← eW]
    clear eW
    go_wp2_with fail
    refine bodyPost_ret (by simp [results, Tryz.results128, go_sem, z2]; rfl) rfl ?_
    exact ⟨by rw [HR1.out, HR3.out, HBE.out]; rfl, by (repeat' (first | (with_reducible first | exact Below.refl _ _ | assumption | refine Below.plus0 ?_ _ | refine Below.row ?_ ?_ _ _ | refine Below.alloc0 ?_ _ | refine Below.plus ?_ ?_ _ | refine Below.alloc ?_ ?_ _ | refine Below.drew ?_ | refine Below.drewN ?_ _) | (simp [go_sem]; done) | (simp [go_sem]; omega)))⟩
   ·have HBE := Lib.hid hbe
    go_upto_region 9 with fail
    have eW := World.row_self wr _ _ _ r2'
    rw [← eW]
    clear eW
    go_wp2_with fail
    refine bodyPost_ret (by simp [results, Tryz.results128, go_sem, z2]; rfl) rfl ?_
    exact ⟨by rw [HR1.out, HR3.out, HBE.out]; rfl, by (repeat' (first | (with_reducible first | exact Below.refl _ _ | assumption | refine Below.plus0 ?_ _ | refine Below.row ?_ ?_ _ _ | refine Below.alloc0 ?_ _ | refine Below.plus ?_ ?_ _ | refine Below.alloc ?_ ?_ _ | refine Below.drew ?_ | refine Below.drewN ?_ _) | (simp [go_sem]; done) | (simp [go_sem]; omega)))⟩
theorem cut1_no (s : ByteArray) (h : Lib.indexByte s.data.toList 47 = -1) (w : World) : Calls Tryz.prog 127 #[.string s, .string ⟨#[47]⟩] w fun e w' => e = .returned (.tuple #[.string s, .string ⟨#[]⟩, .bool false]) ∧ Below w.heap.size w w' := by
 have h1 : Hid (∀ w, Calls Tryz.prog 169 #[.string s, .string ⟨#[47]⟩] w fun e w' => e = .returned (.tuple #[.string s, .string ⟨#[]⟩, .bool false]) ∧ Below w.heap.size w w') := Lib.hid fun w => by
  have h2 : Hid (∀ w, Calls Tryz.prog 188 #[.string s, .string ⟨#[47]⟩] w fun e w' => e = .returned (.int .i64 (-1)) ∧ w = w') := Lib.hid fun w => (Tryz.stringslite_Index_one s 47 w).mono fun e w' hh => ⟨by rw [hh.1, h], hh.2.symm⟩
  clear h
  go_enter Tryz.func169, Tryz.ntmps169
  go_wp2_with fail
  go_at_call 188; refine (h2.out _).mono ?_
  rintro e w' ⟨rfl, rfl⟩
  go_wp2_with fail
  go_ret3
  exact ⟨rfl, by (repeat' (first | (with_reducible first | exact Below.refl _ _ | assumption | refine Below.plus0 ?_ _ | refine Below.alloc0 ?_ _ | refine Below.plus ?_ ?_ _ | refine Below.alloc ?_ ?_ _ | refine Below.drew ?_ | refine Below.drewN ?_ _) | (simp [go_sem]; done) | (simp [go_sem]; omega)))⟩
 clear h
 go_enter Tryz.func127, Tryz.ntmps127
 go_wp2_with fail
 (go_wp2_with fail; refine (h1.out _).mono ?_; rintro e w' ⟨rfl, hb⟩; (first | (with_reducible (have hb2 := World.plus_of_below ((World.below_plus _ _).trans (hb.mono (World.size_plus _ _)))); obtain ⟨u, rfl⟩ := hb2) | (obtain ⟨u, rfl⟩ := World.plus_of_below hb)); clear hb)
 go_wp2_with fail
 go_ret3
 exact ⟨rfl, by (repeat' (first | (with_reducible first | exact Below.refl _ _ | assumption | refine Below.plus0 ?_ _ | refine Below.alloc0 ?_ _ | refine Below.plus ?_ ?_ _ | refine Below.alloc ?_ ?_ _ | refine Below.drew ?_ | refine Below.drewN ?_ _) | (simp [go_sem]; done) | (simp [go_sem]; omega)))⟩
theorem cut1_yes (s : ByteArray) (i : Nat) (h : Lib.indexByte s.data.toList 47 = (i : Int)) (hi : i < s.size) (hs : s.size ≤ 4294967296) (w : World) : Calls Tryz.prog 127 #[.string s, .string ⟨#[47]⟩] w fun e w' => e = .returned (.tuple #[.string (s.extract 0 i), .string (s.extract (i + 1) s.size), .bool true]) ∧ Below w.heap.size w w' := by
 have h1 : Hid (∀ w, Calls Tryz.prog 169 #[.string s, .string ⟨#[47]⟩] w fun e w' => e = .returned (.tuple #[.string (s.extract 0 i), .string (s.extract (i + 1) s.size), .bool true]) ∧ Below w.heap.size w w') := Lib.hid fun w => by
  have h2 : Hid (∀ w, Calls Tryz.prog 188 #[.string s, .string ⟨#[47]⟩] w fun e w' => e = .returned (.int .i64 (i : Int)) ∧ w = w') := Lib.hid fun w => (Tryz.stringslite_Index_one s 47 w).mono fun e w' hh => ⟨by rw [hh.1, h], hh.2.symm⟩
  have hw : wrap64 ((i : Int) + 1) = ((i + 1 : Nat) : Int) := by unfold wrap64; omega
  have hle : i + 1 ≤ s.size := by omega
  have hle2 : i ≤ s.size := by omega
  have hd : decide ((0 : Int) ≤ (i : Int)) = true := decide_eq_true (by omega)
  have HW := Lib.hid hw
  clear h hw
  go_enter Tryz.func169, Tryz.ntmps169
  go_wp2_with fail
  go_at_call 188; refine (h2.out _).mono ?_
  rintro e w' ⟨rfl, rfl⟩
  go_upto_region 3 with fail
  (refine wp_region_exact (by kernel_rfl) (by kernel_rfl) ?_; repeat go_big_quiet_step (fail)); (refine wpQuiet_nil ?_; rintro _ rfl)
  go_wp2_with fail
  go_ret3
  exact ⟨rfl, by (repeat' (first | (with_reducible first | exact Below.refl _ _ | assumption | refine Below.plus0 ?_ _ | refine Below.alloc0 ?_ _ | refine Below.plus ?_ ?_ _ | refine Below.alloc ?_ ?_ _ | refine Below.drew ?_ | refine Below.drewN ?_ _) | (simp [go_sem]; done) | (simp [go_sem]; omega)))⟩
 clear h
 go_enter Tryz.func127, Tryz.ntmps127
 go_wp2_with fail
 (go_wp2_with fail; refine (h1.out _).mono ?_; rintro e w' ⟨rfl, hb⟩; (first | (with_reducible (have hb2 := World.plus_of_below ((World.below_plus _ _).trans (hb.mono (World.size_plus _ _)))); obtain ⟨u, rfl⟩ := hb2) | (obtain ⟨u, rfl⟩ := World.plus_of_below hb)); clear hb)
 go_wp2_with fail
 go_ret3
 exact ⟨rfl, by (repeat' (first | (with_reducible first | exact Below.refl _ _ | assumption | refine Below.plus0 ?_ _ | refine Below.alloc0 ?_ _ | refine Below.plus ?_ ?_ _ | refine Below.alloc ?_ ?_ _ | refine Below.drew ?_ | refine Below.drewN ?_ _) | (simp [go_sem]; done) | (simp [go_sem]; omega)))⟩
end Go.Proofs.YthdaimoankaciaaGreatDoor
