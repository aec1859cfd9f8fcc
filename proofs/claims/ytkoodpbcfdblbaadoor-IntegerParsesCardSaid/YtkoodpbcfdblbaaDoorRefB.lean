import Derived.Test.YtkoodpbcfdblbaaDoorProg
import Derived.Test.YtkoodpbcfdblbaaDoorShelf
import Derived.Test.YtkoodpbcfdblbaaDoorRefA
set_option linter.unusedSimpArgs false
set_option linter.unusedVariables false
namespace Go.Proofs.YtkoodpbcfdblbaaDoor
open Go Go.RowKit
open Vi
theorem extract_min (s : ByteArray) (k : Nat) : s.extract 0 (min (s.size : Int) (k : Int)).toNat = s.extract 0 k := by
  have e : (min (s.size : Int) (k : Int)).toNat = min s.size k := by omega
  rw [e]
  apply ByteArray.ext
  apply Array.ext_getElem?
  intro i
  simp only [ByteArray.data_extract, Array.getElem?_extract]
  have hs : s.data.size = s.size := rfl
  by_cases h : i < min s.size k
  · rw [if_pos (by omega), if_pos (by omega)]
  · rw [if_neg (by omega), if_neg (by omega)]
theorem size_extract_le (s : ByteArray) (k : Nat) : (s.extract 0 k).size ≤ s.size ∧ (s.extract 0 k).size ≤ k := by
  rw [ByteArray.size_extract]; omega
/-- The integer that Canonical makes. -/
def canI (b : Bool) (s : ByteArray) (k : Nat) : Int := if b then -(num (s.extract 0 k) : Int) else num (s.extract 0 k)
set_option maxHeartbeats 400000 in
theorem Canonical_c (b : Bool) (s : ByteArray) (k : Nat) (w : World) (hs : s.size ≤ 9223372036854775807) (hk : k ≤ 4294967296) : Calls Tryd.prog 29 #[.agg #[.bool b, .string s], .int .i64 (k : Int)] w fun e w' => e = .returned (.agg #[.bool (sg (canI b s k)), .string (mg (canI b s k))]) ∧ Below w.heap.size w w' := by
  have hx := extract_min s k
  have hsz := (size_extract_le s k).2
  obtain ⟨t, ht⟩ : ∃ t, t = s.extract 0 k := ⟨_, rfl⟩
  obtain ⟨z, hz⟩ : ∃ z, z = canI b s k := ⟨_, rfl⟩
  rw [← hz]
  have hz2 : z = if b then -(num t : Int) else num t := by rw [hz, ht]; rfl
  rw [← ht] at hsz hx
  have htn : t.size ≤ 4294967296 := by omega
  have htn2 : t.size ≤ 8589934592 := by omega
  have hnum : ∀ v w, Dl w v t.size (num t) → Calls Tryd.prog 51 #[.bool b, v] w fun e w' => e = .returned (.agg #[.bool (sg z), .string (mg z)]) ∧ Below w.heap.size w w' := fun v w h => by
    rw [hz2]; exact rnumber_c b v (num t) t.size w h htn2
  have Hnum := Lib.hid hnum
  clear ht hz hz2 hnum
  go_enter Tryd.func29, Tryd.ntmps29
  go_wp2_with fail
  clear hx hs hsz
  go_region_with (first | (go_at_call 53; refine (rdigits_c _ _ _ htn).mono ?_; rintro e w' ⟨v, rfl, hd, hb⟩; obtain ⟨u, rfl⟩ := World.plus_of_below hb; clear hb) | (go_at_call 51; refine (Hnum.out _ _ (by assumption)).mono ?_; rintro e w' ⟨rfl, hb⟩; obtain ⟨u, rfl⟩ := World.plus_of_below hb; clear hb))
  all_goals
    go_wp2_with fail
    refine bodyPost_ret (by simp [results, Tryd.results29, go_sem]; rfl) rfl ?_
    exact ⟨rfl, by (repeat' (first | (with_reducible exact Below.refl _ _) | (with_reducible assumption) | (with_reducible refine Below.plus0 ?_ _) | (with_reducible refine Below.alloc0 ?_ _) | (with_reducible refine Below.plus ?_ ?_ _) | (with_reducible refine Below.alloc ?_ ?_ _) | (with_reducible refine Below.drew ?_) | (with_reducible refine Below.drewN ?_ _) | (simp [go_sem]; done) | (simp [go_sem]; omega)))⟩
set_option maxHeartbeats 400000 in
theorem in_c (b : Bool) (s : ByteArray) (w : World) (hs : s.size ≤ 9223372036854775807) : Calls Tryd.prog 15 #[.agg #[.bool b, .string s]] w fun e w' => e = .returned (.agg #[.bool (sg (canI b s 40)), .string (mg (canI b s 40))]) ∧ Below w.heap.size w w' := by
  obtain ⟨z, hz⟩ : ∃ z, z = canI b s 40 := ⟨_, rfl⟩
  have hc : ∀ w, Calls Tryd.prog 29 #[.agg #[.bool b, .string s], .int .i64 40] w fun e w' => e = .returned (.agg #[.bool (sg z), .string (mg z)]) ∧ Below w.heap.size w w' := fun w => by
    rw [hz]; exact Canonical_c b s 40 w hs (by omega)
  rw [← hz]
  have Hc := Lib.hid hc
  clear hz hc
  go_enter Tryd.func15, Tryd.ntmps15
  (go_wp2_with fail; refine (Hc.out _).mono ?_; rintro e w' ⟨rfl, hb⟩; (first | (with_reducible (have hb2 := World.plus_of_below ((World.below_plus _ _).trans (hb.mono (World.size_plus _ _)))); obtain ⟨u, rfl⟩ := hb2) | (obtain ⟨u, rfl⟩ := World.plus_of_below hb)); clear hb)
  go_wp2_with fail
  refine bodyPost_ret (by simp [results, Tryd.results15, go_sem]; rfl) rfl ?_
  exact ⟨rfl, by (repeat' (first | (with_reducible exact Below.refl _ _) | (with_reducible assumption) | (with_reducible refine Below.plus0 ?_ _) | (with_reducible refine Below.alloc0 ?_ _) | (with_reducible refine Below.plus ?_ ?_ _) | (with_reducible refine Below.alloc ?_ ?_ _) | (with_reducible refine Below.drew ?_) | (with_reducible refine Below.drewN ?_ _) | (simp [go_sem]; done) | (simp [go_sem]; omega)))⟩
theorem num_extract_lt (s : ByteArray) (k : Nat) : num (s.extract 0 k) < 256 ^ k :=
  Nat.lt_of_lt_of_le (num_lt _) (Nat.pow_le_pow_right (by omega) (size_extract_le s k).2)
theorem canI_lt (b : Bool) (s : ByteArray) (k : Nat) : (canI b s k).natAbs < 256 ^ k := by
  have h := num_extract_lt s k
  unfold canI
  cases b
  · simpa using h
  · simpa using h
theorem mg_size (x : Int) (k : Nat) (h : x.natAbs < 256 ^ k) : (mg x).size ≤ k := size_mag_le _ k h
end Go.Proofs.YtkoodpbcfdblbaaDoor
