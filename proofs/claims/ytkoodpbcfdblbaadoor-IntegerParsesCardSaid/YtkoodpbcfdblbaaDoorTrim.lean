import Derived.Test.YtkoodpbcfdblbaaDoorProg
import Derived.Test.YtkoodpbcfdblbaaDoorShelf
import Derived.Test.YtkoodpbcfdblbaaDoorBase
import Derived.Test.YtkoodpbcfdblbaaDoorDec
import Derived.Shelf.Strings.SlTrimAscii
set_option linter.unusedSimpArgs false
set_option linter.unusedVariables false
namespace Go.Proofs.YtkoodpbcfdblbaaDoor
open Go Go.RowKit
open Vi
def digs : ByteArray := ⟨#[48, 49, 50, 51, 52, 53, 54, 55, 56, 57]⟩
/-- All bytes are digits. -/
def AllD (s : ByteArray) : Prop := ∀ b ∈ s.data.toList, isD b = true
/-- One byte is none. -/
def HasN (s : ByteArray) : Prop := ∃ b ∈ s.data.toList, isD b = false
theorem allD_or (s : ByteArray) : AllD s ∨ HasN s := by
  by_cases h : HasN s
  · exact .inr h
  · refine .inl fun b hb => ?_
    cases hd : isD b with
    | true => rfl
    | false => exact absurd ⟨b, hb, hd⟩ h
theorem AllD.at {s : ByteArray} (h : AllD s) (i : Nat) (hi : i < s.size) : isD (s[i]'hi) = true :=
  h _ (by rw [List.mem_iff_getElem?]; exact ⟨i, by rw [List.getElem?_eq_getElem (by simpa using hi)]; rfl⟩)
theorem digs_all : ∀ n : Fin 256, digs.data.toList.contains (UInt8.ofNat n.val) = isD (UInt8.ofNat n.val) := by decide +kernel
theorem digs_has (x : UInt8) : digs.data.toList.contains x = isD x := by
  have := digs_all ⟨x.toNat, UInt8.toNat_lt x⟩
  simp only [UInt8.ofNat_toNat] at this
  exact this
theorem mem_drop (p : UInt8 → Bool) (b : UInt8) (hp : p b = false) : ∀ l : List UInt8, b ∈ l → b ∈ l.dropWhile p
  | [], h => by cases h
  | a :: l, h => by
    rw [List.dropWhile_cons]
    by_cases ha : p a = true
    · rw [if_pos ha]
      rcases List.mem_cons.1 h with e | e
      · rw [e, ha] at hp; cases hp
      · exact mem_drop p b hp l e
    · rw [if_neg ha]; exact h
/-- What Trim leaves at the ten digits. -/
def trimD (s : ByteArray) : ByteArray := ⟨(Lib.trimS s.data.toList digs.data.toList).toArray⟩
theorem drop_all (p : UInt8 → Bool) : ∀ l : List UInt8, (∀ b ∈ l, p b = true) → l.dropWhile p = []
  | [], _ => rfl
  | a :: l, h => by
    rw [List.dropWhile_cons, if_pos (h a (by simp))]
    exact drop_all p l fun b hb => h b (by simp [hb])
theorem trimD_all (s : ByteArray) (h : AllD s) : trimD s = ⟨#[]⟩ := by
  unfold trimD Lib.trimS Lib.trimRightS Lib.trimLeftS
  rw [drop_all _ s.data.toList.reverse fun b hb => by rw [digs_has]; exact h b (by simpa using hb)]
  rfl
theorem trimD_has (s : ByteArray) (h : HasN s) : (trimD s).toList.isEmpty = false := by
  obtain ⟨b, hb, hd⟩ := h
  rw [toList_data]
  have hp : digs.data.toList.contains b = false := by rw [digs_has]; exact hd
  have h1 : b ∈ (trimD s).data.toList := by
    show b ∈ Lib.trimS s.data.toList digs.data.toList
    unfold Lib.trimS Lib.trimRightS Lib.trimLeftS
    apply mem_drop _ _ hp
    rw [List.mem_reverse]
    apply mem_drop _ _ hp
    simpa using hb
  cases h2 : (trimD s).data.toList with
  | nil => rw [h2] at h1; cases h1
  | cons _ _ => rfl
theorem zinfo : (Tryd.prog.info? 96).map (fun i => (i.zero, i.size)) = some (some (.agg (Array.replicate 256 (.bool false))), 256) := by kernel_rfl
theorem below_two (w : World) (o1 o2 : Obj) (q : Nat) : Below w.heap.size w (((w.alloc o1).alloc o2).drewN q) := by (repeat' (first | (with_reducible exact Below.refl _ _) | (with_reducible assumption) | (with_reducible refine Below.plus0 ?_ _) | (with_reducible refine Below.alloc0 ?_ _) | (with_reducible refine Below.plus ?_ ?_ _) | (with_reducible refine Below.alloc ?_ ?_ _) | (with_reducible refine Below.drew ?_) | (with_reducible refine Below.drewN ?_ _) | (simp [go_sem]; done) | (simp [go_sem]; omega)))
theorem Trim_digs (s : ByteArray) (w : World) (h0 : 0 < s.size) (hs : s.size ≤ 4294967296) : Calls Tryd.prog 71 #[.string s, .string digs] w fun e w' => e = .returned (.string (trimD s)) ∧ Below w.heap.size w w' := by
  have h := Any.strings_Trim_set Tryd.lays160 (zero_of_info zinfo).1 (zero_of_info zinfo).2 s digs w (by decide) h0 (by omega) (by decide) (by
    intro j b h
    match j, h with
    | 0, h => cases h; decide
    | 1, h => cases h; decide
    | 2, h => cases h; decide
    | 3, h => cases h; decide
    | 4, h => cases h; decide
    | 5, h => cases h; decide
    | 6, h => cases h; decide
    | 7, h => cases h; decide
    | 8, h => cases h; decide
    | 9, h => cases h; decide
    | k + 10, h => simp [digs] at h)
  refine h.mono ?_
  rintro e w' ⟨he, q, rfl⟩
  exact ⟨he, below_two _ _ _ _⟩
end Go.Proofs.YtkoodpbcfdblbaaDoor
