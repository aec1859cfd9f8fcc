/- Decimal digits as bytes; the end of a row that one store has changed. -/
import Derived.Test.YthdaimoankaciaaGreatDoorIntK
import Derived.Test.YthdaimoankaciaaGreatDoorDec
import Derived.Test.YthdaimoankaciaaGreatDoorRel
set_option linter.unusedSimpArgs false
set_option linter.unusedVariables false
namespace Go.Proofs.YthdaimoankaciaaGreatDoor
open Go Go.RowKit
open Vi
def decS (n : Nat) : List UInt8 := ((dig 10 n).map fun d => UInt8.ofNat (48 + d)).reverse
theorem decS_zero : decS 0 = [] := rfl
theorem decS_pos (n : Nat) (h : 0 < n) : decS n = decS (n / 10) ++ [UInt8.ofNat (48 + n % 10)] := by
 unfold decS
 rw [dig_pos 10 n (by omega) h, List.map_cons, List.reverse_cons]
theorem decS_len (n k : Nat) (h : (mag n).size ≤ k) : (decS n).length ≤ 3 * k := by
 have h1 : n < 256 ^ k := lt_of_size_mag n k h
 have h2 : (256 : Nat) ^ k ≤ (10 ^ 3) ^ k := Nat.pow_le_pow_left (by decide) k
 rw [← Nat.pow_mul] at h2
 have h3 := nd_le 10 (by omega) n (3 * k) (by omega)
 unfold decS
 rw [List.length_reverse, List.length_map]
 exact h3
theorem catB (b : UInt8) (l : List UInt8) : (⟨#[b]⟩ ++ ⟨l.toArray⟩ : ByteArray) = ⟨(b :: l).toArray⟩ := by
 apply ByteArray.ext
 simp
def printS (x : Int) : ByteArray := if x = 0 then ⟨#[48]⟩ else if x < 0 then ⟨(45 :: decS x.natAbs).toArray⟩ else ⟨(decS x.natAbs).toArray⟩
theorem SR.at_end {k : Nat} {ty : TypeId} {c0 c1 : Array Value} {W w' : World} (hk : k < W.heap.size) (h : SR k (.cells c1 ty (0, 0)) (W.row k ty c0) w') (h8 : w'.heap[k]? = some (.cells c1 ty (0, 0))) : ∃ u, w' = (W.row k ty c1).plus u := by
 obtain ⟨a1, a2, a3, a4, a5, a6⟩ := h
 rw [World.size_row] at a4 a5 a6
 refine World.plus_of_below ⟨a1, a2, a3, by rw [World.size_row]; exact a4, fun j hj => ?_⟩
 rw [World.size_row] at hj
 by_cases e : j = k
 ·subst e; rw [h8, World.heap_row_same _ _ _ _ hk]
 ·rw [a5 j hj e, World.heap_row_other _ _ _ _ _ e, World.heap_row_other _ _ _ _ _ e]
end Go.Proofs.YthdaimoankaciaaGreatDoor
