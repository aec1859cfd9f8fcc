/- No program in sight: worlds alike but for some blocks that may have turned into known objects (for XRel's law: regions with several stores of results). -/
import Derived.Test.YthdaimoankaciaaGreatDoorRel
import Derived.Test.YthdaimoankaciaaGreatDoorRelB
namespace Go
open Go.RowKit
def MR (L : List (Nat × Obj)) (w w' : World) : Prop := w'.os = w.os ∧ w'.tape = w.tape ∧ w'.output = w.output ∧ w.heap.size ≤ w'.heap.size ∧ ∀ j, j < w.heap.size → w'.heap[j]? = w.heap[j]? ∨ ∃ O, (j, O) ∈ L ∧ w'.heap[j]? = some O
theorem MR.of_below {L : List (Nat × Obj)} {w w' : World} (h : Below w.heap.size w w') : MR L w w' := ⟨h.os, h.tape, h.output, h.size, fun j hj => .inl (h.block j hj)⟩
theorem MR.refl (L : List (Nat × Obj)) (w : World) : MR L w w := MR.of_below (Below.refl _ _)
theorem MR.trans {L : List (Nat × Obj)} {a b c : World} (h1 : MR L a b) (h2 : MR L b c) : MR L a c := by
 obtain ⟨a1, a2, a3, a4, a5⟩ := h1
 obtain ⟨b1, b2, b3, b4, b5⟩ := h2
 refine ⟨b1.trans a1, b2.trans a2, b3.trans a3, Nat.le_trans a4 b4, fun j hj => ?_⟩
 rcases b5 j (by omega) with h | h
 ·rw [h]; exact a5 j hj
 ·exact .inr h
theorem MR.size {L : List (Nat × Obj)} {w w' : World} (h : MR L w w') : w.heap.size ≤ w'.heap.size := h.2.2.2.1
theorem MR.block {L : List (Nat × Obj)} {w w' : World} (h : MR L w w') {j : Nat} {o : Obj} (hj : w.heap[j]? = some o) (hn : ∀ O, (j, O) ∉ L) : w'.heap[j]? = some o := by
 rcases h.2.2.2.2 j (Array.getElem?_eq_some_iff.1 hj).1 with h1 | ⟨O, h1, _⟩
 ·rw [h1, hj]
 ·exact absurd h1 (hn O)
theorem MR.cell {L : List (Nat × Obj)} {w w' : World} (h : MR L w w') {b i : Nat} {v : Value} (hc : w.cell? ⟨b, i, none⟩ = some v) (hn : ∀ O, (b, O) ∉ L) : w'.cell? ⟨b, i, none⟩ = some v := by
 rw [← hc]
 apply World.cell?_of_block
 rcases h.2.2.2.2 b (World.block_lt_of_cell? _ _ hc) with h1 | ⟨O, h1, _⟩
 ·exact h1
 ·exact absurd h1 (hn O)
theorem MR.keep {L : List (Nat × Obj)} {w w' : World} (h : MR L w w') {k : Nat} {O : Obj} (hk : w.heap[k]? = some O) (hu : ∀ O', (k, O') ∈ L → O' = O) : w'.heap[k]? = some O := by
 rcases h.2.2.2.2 k (Array.getElem?_eq_some_iff.1 hk).1 with h1 | ⟨O', h1, h2⟩
 ·rw [h1, hk]
 ·rw [h2, hu O' h1]
theorem MR.two {L : List (Nat × Obj)} {w w' : World} (h : MR L w w') {k : Nat} {ty : TypeId} {a b c d : Value} (hk : w.heap[k]? = some (.cells #[a, b] ty (0, 0))) (hu : ∀ O', (k, O') ∈ L → O' = .cells #[c, d] ty (0, 0)) : ∃ x y, w'.heap[k]? = some (.cells #[x, y] ty (0, 0)) := by
 rcases h.2.2.2.2 k (Array.getElem?_eq_some_iff.1 hk).1 with h1 | ⟨O', h1, h2⟩
 ·exact ⟨a, b, by rw [h1, hk]⟩
 ·exact ⟨c, d, by rw [h2, hu O' h1]⟩
theorem MR.four {L : List (Nat × Obj)} {w w' : World} (h : MR L w w') {k : Nat} {ty : TypeId} {a b a2 b2 c d c2 d2 : Value} (hk : w.heap[k]? = some (.cells #[a, b, a2, b2] ty (0, 0))) (hu : ∀ O', (k, O') ∈ L → O' = .cells #[c, d, c2, d2] ty (0, 0)) : ∃ x y x2 y2, w'.heap[k]? = some (.cells #[x, y, x2, y2] ty (0, 0)) := by
 rcases h.2.2.2.2 k (Array.getElem?_eq_some_iff.1 hk).1 with h1 | ⟨O', h1, h2⟩
 ·exact ⟨a, b, a2, b2, by rw [h1, hk]⟩
 ·exact ⟨c, d, c2, d2, by rw [h2, hu O' h1]⟩
theorem MR.row {L : List (Nat × Obj)} {w : World} {k : Nat} {ty : TypeId} {c : Array Value} (hk : k < w.heap.size) (hL : (k, Obj.cells c ty (0, 0)) ∈ L) : MR L w (w.row k ty c) ∧ (w.row k ty c).heap[k]? = some (.cells c ty (0, 0)) := by
 have hs := World.heap_row_same w k ty c hk
 refine ⟨⟨rfl, rfl, rfl, by rw [World.size_row]; exact Nat.le_refl _, fun j hj => ?_⟩, hs⟩
 by_cases e : j = k
 ·subst e; exact .inr ⟨_, hL, hs⟩
 ·exact .inl (World.heap_row_other w k ty c j e)
theorem MR.row2 {L : List (Nat × Obj)} {w : World} {k : Nat} {ty : TypeId} {a c : Array Value} (hk : k < w.heap.size) (hL : (k, Obj.cells c ty (0, 0)) ∈ L) : MR L (w.row k ty a) (w.row k ty c) ∧ (w.row k ty c).heap[k]? = some (.cells c ty (0, 0)) := by
 have h := MR.row (L := L) (w := w.row k ty a) (k := k) (ty := ty) (c := c) (by rw [World.size_row]; exact hk) hL
 rw [World.row_row] at h
 exact h
theorem cell_at {w : World} {g i : Nat} {cs : Array Value} {ty : TypeId} (h : w.heap[g]? = some (.cells cs ty (0, 0))) : w.cell? ⟨g, i, none⟩ = cs[i]? := by
 unfold World.cell?
 rw [h]; rfl
theorem row_ex {w : World} {k : Nat} {ty : TypeId} {c : Array Value} (h : w.heap[k]? = some (.cells c ty (0, 0))) : ∃ w8 : World, w = w8.row k ty c ∧ k < w8.heap.size := ⟨w, (World.row_self w k ty c h).symm, (Array.getElem?_eq_some_iff.1 h).1⟩
theorem MR.below {L : List (Nat × Obj)} {w0 w w' : World} {B : Nat} (h : MR L w w') (hb : Below B w0 w) (hB : B ≤ w.heap.size) (hL : ∀ k O, (k, O) ∈ L → B ≤ k) : Below B w0 w' := by
 obtain ⟨a1, a2, a3, a4, a5⟩ := h
 refine ⟨a1.trans hb.os, a2.trans hb.tape, a3.trans hb.output, Nat.le_trans hb.size a4, fun j hj => ?_⟩
 rcases a5 j (by omega) with h1 | ⟨O, h1, _⟩
 ·rw [h1, hb.block j hj]
 ·have := hL j O h1; omega
end Go
