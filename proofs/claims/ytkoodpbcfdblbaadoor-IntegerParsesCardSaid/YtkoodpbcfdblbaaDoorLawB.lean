import Derived.Test.YtkoodpbcfdblbaaDoorProg
import Derived.Test.YtkoodpbcfdblbaaDoorShelf
import Derived.Test.YtkoodpbcfdblbaaDoorKnown
import Derived.Test.YtkoodpbcfdblbaaDoorRefB
set_option linter.unusedSimpArgs false
set_option linter.unusedVariables false
namespace Go.Proofs.YtkoodpbcfdblbaaDoor
open Go Go.RowKit
open Vi
set_option maxHeartbeats 400000 in
theorem Valid_c (b : Bool) (s : ByteArray) (w : World) (hs : s.size ≤ 4294967296) : Calls Tryd.prog 21 #[.agg #[.bool b, .string s]] w fun e w' => e = .returned (.bool (okInt b s)) ∧ Below w.heap.size w w' := by
  cases he : s.toList.isEmpty
  · have hp : 0 < s.size := by
      rcases Nat.eq_zero_or_pos s.size with h | h
      · rw [toList_data] at he
        have : s.data.toList.length = 0 := h
        rw [List.eq_nil_of_length_eq_zero this] at he; simp at he
      · exact h
    have hc := can_first s hp
    by_cases h0 : (s[0]'hp).toNat = 0
    · have e : okInt b s = false := by
        unfold okInt; rw [he]
        have h1 : ¬ Vi.Can s := fun h => (hc.1 h) h0
        unfold Vi.Can at h1
        have h2 : s.data.toList.head? = some 0 := Decidable.byContradiction h1
        rw [h2]; rfl
      rw [e]
      clear hc
      go_enter Tryd.func21, Tryd.ntmps21
      go_wp2
      go_ret
      exact ⟨rfl, by (repeat' (first | (with_reducible exact Below.refl _ _) | (with_reducible assumption) | (with_reducible refine Below.plus0 ?_ _) | (with_reducible refine Below.alloc0 ?_ _) | (with_reducible refine Below.plus ?_ ?_ _) | (with_reducible refine Below.alloc ?_ ?_ _) | (with_reducible refine Below.drew ?_) | (with_reducible refine Below.drewN ?_ _) | (simp [go_sem]; done) | (simp [go_sem]; omega)))⟩
    · have e : okInt b s = true := by
        unfold okInt; rw [he]
        have h1 : Vi.Can s := hc.2 h0
        unfold Vi.Can at h1
        simp [h1]
      rw [e]
      have hb : ((s[0].toNat : Int) != 0) = true := by simpa using h0
      clear hc
      go_enter Tryd.func21, Tryd.ntmps21
      go_wp2
      go_ret
      exact ⟨by simp [h0], by (repeat' (first | (with_reducible exact Below.refl _ _) | (with_reducible assumption) | (with_reducible refine Below.plus0 ?_ _) | (with_reducible refine Below.alloc0 ?_ _) | (with_reducible refine Below.plus ?_ ?_ _) | (with_reducible refine Below.alloc ?_ ?_ _) | (with_reducible refine Below.drew ?_) | (with_reducible refine Below.drewN ?_ _) | (simp [go_sem]; done) | (simp [go_sem]; omega)))⟩
  · have e : okInt b s = !b := by unfold okInt; rw [he]; rfl
    rw [e]
    have hz : s.size = 0 := by
      rw [toList_data] at he
      have h2 : s.data.toList = [] := by simpa using he
      have : s.data.toList.length = 0 := by rw [h2]; rfl
      exact this
    cases b
    all_goals
      go_enter Tryd.func21, Tryd.ntmps21
      go_wp2
      go_ret
      exact ⟨rfl, by (repeat' (first | (with_reducible exact Below.refl _ _) | (with_reducible assumption) | (with_reducible refine Below.plus0 ?_ _) | (with_reducible refine Below.alloc0 ?_ _) | (with_reducible refine Below.plus ?_ ?_ _) | (with_reducible refine Below.alloc ?_ ?_ _) | (with_reducible refine Below.drew ?_) | (with_reducible refine Below.drewN ?_ _) | (simp [go_sem]; done) | (simp [go_sem]; omega)))⟩
set_option maxHeartbeats 400000 in
theorem IntegerChecks_c (b : Bool) (s : ByteArray) (w : World) (hs : s.size ≤ 9223372036854775807) : Calls Tryd.prog 5 #[.agg #[.bool b, .string s]] w fun e w' => e = .returned (.bool true) ∧ Below w.heap.size w w' := by
  have hx := extract_min s 60
  have hsz := (size_extract_le s 60).2
  obtain ⟨t, ht⟩ : ∃ t, t = s.extract 0 60 := ⟨_, rfl⟩
  rw [← ht] at hsz hx
  have htn : t.size ≤ 4294967296 := by omega
  have hx2 : s.extract 0 (min (s.size : Int) 60).toNat = t := hx
  clear ht hx
  cases ho : okInt b t
  all_goals
    have hv := fun w => Valid_c b t w htn
    have hc := fun w => Check_c b t w htn
    rw [ho] at hv hc
    have Hv := Lib.hid hv
    have Hc := Lib.hid hc
    clear hv hc
    go_enter Tryd.func5, Tryd.ntmps5
    go_wp2_with fail
    refine (Hv.out _).mono ?_
    rintro e w' ⟨rfl, hb⟩
    obtain ⟨u, rfl⟩ := World.plus_of_below hb
    clear hb
    go_wp2_with fail
    refine (known_c _).mono ?_
    rintro e w' ⟨rfl, hb⟩
    obtain ⟨u, rfl⟩ := World.plus_of_below hb
    clear hb
    go_wp2_with fail
    refine (Hc.out _).mono ?_
    rintro e w' ⟨rfl, hb⟩
    obtain ⟨u, rfl⟩ := World.plus_of_below hb
    clear hb
    go_wp2_with fail
    go_ret
    exact ⟨rfl, by (repeat' (first | (with_reducible exact Below.refl _ _) | (with_reducible assumption) | (with_reducible refine Below.plus0 ?_ _) | (with_reducible refine Below.alloc0 ?_ _) | (with_reducible refine Below.plus ?_ ?_ _) | (with_reducible refine Below.alloc ?_ ?_ _) | (with_reducible refine Below.drew ?_) | (with_reducible refine Below.drewN ?_ _) | (simp [go_sem]; done) | (simp [go_sem]; omega)))⟩
end Go.Proofs.YtkoodpbcfdblbaaDoor
