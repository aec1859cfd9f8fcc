/- Part 1 of the proof; what it holds is said text by text. -/
import Derived.Test.YtlblfgbpogljoaaGreatDoorCards
import Derived.Test.YtlblfgbpogljoaaGreatDoorTie
import Derived.ProofKit
import Derived.OpenShut
import Derived.Deep.DeepHandedRow
import Derived.Lib.LaidTab
import Derived.Lib.SmallJoins
import Derived.ShutString
import Derived.StillTail
import Derived.Deep.QuietTactic
import Derived.WalkKit
import Derived.Below
set_option linter.unusedSimpArgs false
set_option linter.unusedVariables false
section
/- The cards of this seat: a witness world, the arguments opened, the post of a call that leaves old memory alone. -/
namespace Go.Proofs.YtlblfgbpogljoaaGreatDoor
open Go.ChangeShapes Go.WideShapes Go.ChangeAt Go.RowKit
open Go
theorem own : ownKnob Tryz.prog.godebug = none := by kernel_rfl
def layFirst : Obj → Obj
 | .cells _ t frozen => .cells (Go.Pinned.utf8FirstZ.map fun n : Nat => Value.int .u8 (n : Int)).toArray t frozen
 | o => o
def layAccept : Obj → Obj
 | .cells _ t frozen => .cells #[.int .u8 128, .int .u8 191, .int .u8 160, .int .u8 191, .int .u8 128, .int .u8 159, .int .u8 144, .int .u8 191, .int .u8 128, .int .u8 143, .int .u8 0, .int .u8 0, .int .u8 0, .int .u8 0, .int .u8 0, .int .u8 0, .int .u8 0, .int .u8 0, .int .u8 0, .int .u8 0, .int .u8 0, .int .u8 0, .int .u8 0, .int .u8 0, .int .u8 0, .int .u8 0, .int .u8 0, .int .u8 0, .int .u8 0, .int .u8 0, .int .u8 0, .int .u8 0] t frozen
 | o => o
noncomputable def laidWorld (os : Os) : World :=
 { World.holding Tryz.prog os ⟨#[], #[], []⟩ with heap := ((World.holding Tryz.prog os ⟨#[], #[], []⟩).heap.modify 1 layFirst).modify 2 layAccept }
section
variable {H : Type} {enc : TypeId × Value → H}
end
section
variable {H : Type} {enc : TypeId × Value → H} {P : Program}
end
end Go.Proofs.YtlblfgbpogljoaaGreatDoor

end
section
/- No program in sight: values without places (structs and arrays of bools, ints and strings, one in another): what their cells are, and that they read alike in every world. -/
namespace Go.Flat
open Go
inductive Leaf where
 | b
 | i (k : IntKind)
 | s
def leafOk : Leaf → Value → Prop
 | .b, v => ∃ x, v = .bool x
 | .i k, v => ∃ n, v = .int k n ∧ (Lit.int k n).wf = true
 | .s, v => ∃ s, v = .string s ∧ s.size ≤ maxLen
def fits : List Leaf → List Value → Prop
 | [], [] => True
 | l :: ls, v :: vs => leafOk l v ∧ fits ls vs
 | _, _ => False
theorem fits_append : ∀ {l1 l2 : List Leaf} {c1 c2 : List Value}, fits l1 c1 → fits l2 c2 → fits (l1 ++ l2) (c1 ++ c2)
 | [], _, [], _, _, h => h
 | _ :: _, _, _ :: _, _, h1, h2 => ⟨h1.1, fits_append h1.2 h2⟩
 | [], _, _ :: _, _, h, _ => h.elim
 | _ :: _, _, [], _, h, _ => h.elim
def leavesF (r : TypeId → Option (List Leaf)) (C : TypeId → Nat) : List Field → Nat → Option (List Leaf)
 | [], _ => some []
 | f :: fs, off => match r f.type, leavesF r C fs (off + C f.type) with
  | some l, some l' => if f.offset = off ∧ l.length = C f.type then some (l ++ l') else none
  | _, _ => none
def leavesA (l : List Leaf) : Nat → List Leaf
 | 0 => []
 | n + 1 => leavesA l n ++ l
def leaves (P : Program) : Nat → TypeId → Option (List Leaf)
 | 0, _ => none
 | n + 1, t => match P.underlying t with
  | some .bool => some [.b]
  | some (.int k) => some [.i k]
  | some .string => some [.s]
  | some (.struct fs) => match leavesF (leaves P n) P.cellsOf fs.toList 0 with
   | some l => if l.length = P.cellsOf t then some l else none
   | none => none
  | some (.array m e) => match leaves P n e with
   | some l => if l.length = P.cellsOf e ∧ m * P.cellsOf e = P.cellsOf t then some (leavesA l m) else none
   | none => none
  | _ => none
section
variable {H : Type} {enc : TypeId × Value → H} {P : Program}
def Same (enc : TypeId × Value → H) (P : Program) (fuel : Nat) (t : TypeId) (cs : List Value) (x : DataW H × List MemPlace) : Prop :=
 x.2 = [] ∧ ∀ (w : World) (base : Nat) (sp : Nat → Bool) (held : Bool), DataW.trod enc P w base sp held fuel t cs = some x
theorem mapM_some {α β : Type} {f : α → Option β} : ∀ {l : List α} {ys : List β}, l.mapM f = some ys → ∀ a ∈ l, ∃ y, f a = some y
 | [], _, _, a, ha => by cases ha
 | x :: l, ys, h, a, ha => by
  rw [List.mapM_cons] at h
  cases hx : f x with
  | none => rw [hx] at h; cases h
  | some y =>
   rw [hx] at h
   cases hl : l.mapM f with
   | none => rw [hl] at h; cases h
   | some ys' =>
    rcases List.mem_cons.1 ha with rfl | ha
    ·exact ⟨y, hx⟩
    ·exact mapM_some hl a ha
theorem mapM_congr' {α β : Type} {f g : α → Option β} : ∀ {l : List α}, (∀ a ∈ l, f a = g a) → l.mapM f = l.mapM g
 | [], _ => rfl
 | x :: l, h => by
  rw [List.mapM_cons, List.mapM_cons, h x List.mem_cons_self, mapM_congr' fun a ha => h a (List.mem_cons_of_mem _ ha)]
theorem mapM_all {α β : Type} {f : α → Option β} (p : β → Prop) : ∀ {l : List α} {ys : List β}, l.mapM f = some ys → (∀ a ∈ l, ∀ y, f a = some y → p y) → ∀ y ∈ ys, p y
 | [], ys, h, _, y, hy => by
  rw [List.mapM_nil] at h
  obtain rfl : [] = ys := Option.some.inj h
  cases hy
 | x :: l, ys, h, hp, y, hy => by
  rw [List.mapM_cons] at h
  cases hx : f x with
  | none => rw [hx] at h; cases h
  | some z =>
   rw [hx] at h
   cases hl : l.mapM f with
   | none => rw [hl] at h; cases h
   | some ys' =>
    rw [hl] at h
    obtain rfl : z :: ys' = ys := Option.some.inj h
    rcases List.mem_cons.1 hy with rfl | hy
    ·exact hp x List.mem_cons_self _ hx
    ·exact mapM_all p hl (fun a ha => hp a (List.mem_cons_of_mem _ ha)) y hy
theorem flatF {w : World} {base : Nat} {sp : Nat → Bool} {held : Bool} {fuel n : Nat} {cs : List Value}
    (ih : ∀ {t : TypeId} {ls : List Leaf} {cs : List Value} {x : DataW H × List MemPlace}, leaves P n t = some ls → DataW.trod enc P w base sp held fuel t cs = some x → fits ls cs ∧ Same enc P fuel t cs x) :
    ∀ (fs : List Field) (off : Nat) (l : List Leaf), leavesF (leaves P n) P.cellsOf fs off = some l → (∀ f ∈ fs, ∃ y, DataW.trod enc P w base sp held fuel f.type ((cs.drop f.offset).take (P.cellsOf f.type)) = some y) →
     fits l ((cs.drop off).take l.length) ∧ ∀ f ∈ fs, ∀ y, DataW.trod enc P w base sp held fuel f.type ((cs.drop f.offset).take (P.cellsOf f.type)) = some y → Same enc P fuel f.type ((cs.drop f.offset).take (P.cellsOf f.type)) y
 | [], off, l, h, _ => by
  obtain rfl : [] = l := Option.some.inj h
  exact ⟨trivial, fun f hf => by cases hf⟩
 | f :: fs, off, l, h, hy => by
  unfold leavesF at h
  split at h
  ·rename_i lf l' hf hfs
   split at h
   ·rename_i ho
    obtain ⟨rfl, hlen⟩ := ho
    obtain rfl : lf ++ l' = l := Option.some.inj h
    obtain ⟨y, hy0⟩ := hy f List.mem_cons_self
    obtain ⟨h1, h2⟩ := ih hf hy0
    obtain ⟨h3, h4⟩ := flatF ih fs _ l' hfs fun g hg => hy g (List.mem_cons_of_mem _ hg)
    refine ⟨?_, fun g hg z hz => ?_⟩
    ·rw [List.length_append, List.take_add, hlen, List.drop_drop]
     exact fits_append h1 h3
    ·rcases List.mem_cons.1 hg with rfl | hg
     ·rw [hz] at hy0
      obtain rfl := Option.some.inj hy0
      exact h2
     ·exact h4 g hg z hz
   ·cases h
  ·cases h
theorem flatA {l : List Leaf} {C : Nat} {cs : List Value} (hl : l.length = C) : ∀ m, (∀ i, i < m → fits l ((cs.drop (i * C)).take C)) → fits (leavesA l m) (cs.take (m * C))
 | 0, _ => by simp [leavesA, fits]
 | m + 1, h => by
  rw [leavesA, Nat.succ_mul, List.take_add]
  exact fits_append (flatA hl m fun i hi => h i (by omega)) (h m (by omega))
theorem flat {w : World} {base : Nat} {sp : Nat → Bool} {held : Bool} : ∀ (fuel n : Nat) {t : TypeId} {ls : List Leaf} {cs : List Value} {x : DataW H × List MemPlace},
    leaves P n t = some ls → DataW.trod enc P w base sp held fuel t cs = some x → fits ls cs ∧ Same enc P fuel t cs x
 | 0, _, _, _, _, _, _, h => by simp [DataW.trod] at h
 | _, 0, _, _, _, _, h, _ => by cases h
 | fuel + 1, n + 1, t, ls, cs, x, hl, h => by
  have ih : ∀ {t : TypeId} {ls : List Leaf} {cs : List Value} {x : DataW H × List MemPlace}, leaves P n t = some ls → DataW.trod enc P w base sp held fuel t cs = some x → fits ls cs ∧ Same enc P fuel t cs x := fun h1 h2 => flat fuel n h1 h2
  unfold leaves at hl
  cases hu : P.underlying t with
  | none => rw [hu] at hl; cases hl
  | some u =>
   rw [hu] at hl
   cases u with
   | bool =>
    simp only [Option.some.injEq] at hl
    subst hl
    obtain ⟨b, rfl, rfl⟩ := DataW.trod_bool hu h
    exact ⟨⟨⟨b, rfl⟩, trivial⟩, rfl, fun w base sp held => by simp [DataW.trod, hu]⟩
   | int k =>
    simp only [Option.some.injEq] at hl
    subst hl
    obtain ⟨m, rfl, rfl, h1⟩ := DataW.trod_int hu h
    exact ⟨⟨⟨m, rfl, h1⟩, trivial⟩, rfl, fun w base sp held => by simp [DataW.trod, hu, h1]⟩
   | string =>
    simp only [Option.some.injEq] at hl
    subst hl
    obtain ⟨s, rfl, rfl, h1⟩ := DataW.trod_string hu h
    exact ⟨⟨⟨s, rfl, h1⟩, trivial⟩, rfl, fun w base sp held => by simp [DataW.trod, hu, h1]⟩
   | struct fs =>
    simp only at hl
    split at hl
    ·rename_i l hf
     split at hl
     ·rename_i hlen
      obtain rfl : l = ls := Option.some.inj hl
      have h0 := h
      unfold DataW.trod at h
      simp only [hu] at h
      split at h
      ·rename_i hcs
       cases hm : fs.toList.mapM fun f => DataW.trod enc P w base sp held fuel f.type ((cs.drop f.offset).take (P.cellsOf f.type)) with
       | none => rw [hm] at h; cases h
       | some xs =>
        rw [hm] at h
        obtain rfl : (DataW.agg (xs.map (·.1)), xs.flatMap (·.2)) = x := Option.some.inj h
        obtain ⟨h1, h2⟩ := flatF ih fs.toList 0 l hf (mapM_some hm)
        refine ⟨?_, ?_, fun w' base' sp' held' => ?_⟩
        ·rw [List.drop_zero, List.take_of_length_le (by omega)] at h1
         exact h1
        ·show xs.flatMap (·.2) = []
         rw [List.flatMap_eq_nil_iff]
         exact mapM_all (fun y => y.2 = []) hm fun f hf y hy => (h2 f hf y hy).1
        ·unfold DataW.trod
         simp only [hu]
         rw [if_pos hcs]
         have e2 : (fs.toList.mapM fun f => DataW.trod enc P w' base' sp' held' fuel f.type ((cs.drop f.offset).take (P.cellsOf f.type))) = some xs := by
          rw [← hm]
          exact mapM_congr' fun f hf => by
           obtain ⟨y, hy⟩ := mapM_some hm f hf
           rw [hy]
           exact (h2 f hf y hy).2 _ _ _ _
         rw [e2]
         rfl
      ·cases h
     ·cases hl
    ·cases hl
   | array m e =>
    simp only at hl
    split at hl
    ·rename_i l hf
     split at hl
     ·rename_i hlen
      obtain rfl : leavesA l m = ls := Option.some.inj hl
      unfold DataW.trod at h
      simp only [hu] at h
      split at h
      ·rename_i hcs
       cases hm : (List.range m).mapM fun i => DataW.trod enc P w base sp held fuel e ((cs.drop (i * P.cellsOf e)).take (P.cellsOf e)) with
       | none => rw [hm] at h; cases h
       | some xs =>
        rw [hm] at h
        obtain rfl : (DataW.agg (xs.map (·.1)), xs.flatMap (·.2)) = x := Option.some.inj h
        refine ⟨?_, ?_, fun w' base' sp' held' => ?_⟩
        ·have := flatA (cs := cs) hlen.1 m fun i hi => by
           obtain ⟨y, hy⟩ := mapM_some hm i (List.mem_range.2 hi)
           exact (ih hf hy).1
         rw [hlen.2, List.take_of_length_le (by omega)] at this
         exact this
        ·show xs.flatMap (·.2) = []
         rw [List.flatMap_eq_nil_iff]
         exact mapM_all (fun y => y.2 = []) hm fun i hi y hy => (ih hf hy).2.1
        ·unfold DataW.trod
         simp only [hu]
         rw [if_pos hcs]
         have e2 : ((List.range m).mapM fun i => DataW.trod enc P w' base' sp' held' fuel e ((cs.drop (i * P.cellsOf e)).take (P.cellsOf e))) = some xs := by
          rw [← hm]
          exact mapM_congr' fun i hi => by
           obtain ⟨y, hy⟩ := mapM_some hm i hi
           rw [hy]
           exact (ih hf hy).2.2 _ _ _ _
         rw [e2]
         rfl
      ·cases h
     ·cases hl
    ·cases hl
   | _ => simp at hl
end
theorem fits_cons {l : Leaf} {ls : List Leaf} {cs : List Value} (h : fits (l :: ls) cs) : ∃ v vs, cs = v :: vs ∧ leafOk l v ∧ fits ls vs := by
 cases cs with
 | nil => exact h.elim
 | cons v vs => exact ⟨v, vs, rfl, h.1, h.2⟩
theorem fits_nil {cs : List Value} (h : fits [] cs) : cs = [] := by
 cases cs with
 | nil => rfl
 | cons v vs => exact h.elim
theorem bounds_i32 {n : Int} (h : (Lit.int .i32 n).wf = true) : -2147483648 ≤ n ∧ n ≤ 2147483647 := by
 simp [Lit.wf, IntKind.min, IntKind.max, IntKind.signed, IntKind.bits] at h
 omega
theorem bounds_u16 {n : Int} (h : (Lit.int .u16 n).wf = true) : 0 ≤ n ∧ n ≤ 65535 := by
 simp [Lit.wf, IntKind.min, IntKind.max, IntKind.signed, IntKind.bits] at h
 omega
section
variable {H : Type} {enc : TypeId × Value → H} {P : Program}
end
end Go.Flat

end
section
/- The cards: what they share; closed facts of the program, each once. -/
namespace Go.Proofs.YtlblfgbpogljoaaGreatDoor
open Go.ChangeShapes Go.WideShapes Go.ChangeAt Go.RowKit
open Go
theorem and2 {a b : Bool} (h1 : a = true) (h2 : b = true) : (a && b) = true := by rw [h1, h2]; rfl
set_option maxRecDepth 100000
theorem jf1 : laidOutB Tryz.pinned.checked.prog = true := by kernel_rfl
theorem jf2 : mapsRowed Tryz.pinned.checked.prog = true := by kernel_rfl
theorem jf3 : (Tryz.pinned.checked.prog.stops == []) = true := by kernel_rfl
theorem jf4 : (Tryz.pinned.checked.prog.stopKnobs == []) = true := by kernel_rfl
theorem jf5 : Tryz.pinned.checked.prog.plainKeys = Rows.enclosureWidthsRow.plainKeys := by kernel_rfl
theorem jf6 : Tryz.pinned.checked.prog.stopsHeard = true := by kernel_rfl
theorem jf7 : Tryz.pinned.checked.prog.mayEnter = true := by kernel_rfl
theorem jf8 : Tryz.pinned.checked.prog.liftsFinal = Rows.enclosureWidthsRow.lifted := by kernel_rfl
theorem jf9 : Tryz.pinned.checked.prog.make = some Rows.enclosureWidthsRow.make := by kernel_rfl
theorem jf0 : false = Tryz.pinned.checked.prog.looks [] := by kernel_rfl
end Go.Proofs.YtlblfgbpogljoaaGreatDoor

end
section
/- No program in sight: a region that draws its order, walked by what is known of each operation's value: of the value of operation i a fact T i holds, in its world and in every later one; each operation is shown once, from the facts of those that it waits for. Values may hang on the world. -/
namespace Go
open Go.RowKit
section
variable {P : Program} {ops : Array Oper}
theorem filter_drop_one : ∀ (L : List Nat) (p q : Nat → Bool) (i : Nat), L.Nodup → i ∈ L → p i = true → q i = false → (∀ j, j ≠ i → q j = p j) → (L.filter q).length + 1 = (L.filter p).length
 | [], _, _, _, _, hi, _, _, _ => by cases hi
 | a :: L, p, q, i, hnd, hi, hp, hq, h => by
  rw [List.nodup_cons] at hnd
  by_cases ha : a = i
  ·subst ha
   rw [List.filter_cons_of_neg (by simp [hq]), List.filter_cons_of_pos hp, List.length_cons]
   congr 2
   apply List.filter_congr
   intro j hj
   exact h j (fun e => hnd.1 (e ▸ hj))
  ·have hi2 : i ∈ L := by
     rcases List.mem_cons.1 hi with e | e
     ·exact absurd e.symm ha
     ·exact e
   have ih := filter_drop_one L p q i hnd.2 hi2 hp hq h
   by_cases hpa : p a = true
   ·rw [List.filter_cons_of_pos (by rw [h a ha]; exact hpa), List.filter_cons_of_pos hpa, List.length_cons, List.length_cons, ih]
   ·rw [List.filter_cons_of_neg (by rw [h a ha]; exact hpa), List.filter_cons_of_neg hpa, ih]
def unlisted (n : Nat) (listed : Array Bool) : Nat := ((List.range n).filter fun i => !listed.getD i true).length
theorem unlisted_set {n i : Nat} {listed : Array Bool} (hi : i < n) (hs : i < listed.size) (h : listed.getD i true = false) : unlisted n (listed.setIfInBounds i true) + 1 = unlisted n listed := by
 refine filter_drop_one _ _ _ i List.nodup_range (List.mem_range.2 hi) (by simp [h]) ?_ (fun j hj => ?_)
 ·simp [hs]
 ·show (!(listed.setIfInBounds i true).getD j true) = !listed.getD j true
  rw [getD_set_ne true (Ne.symm hj)]
theorem unlisted_zero {n : Nat} {listed : Array Bool} (h : unlisted n listed = 0) (i : Nat) (hi : i < n) : listed.getD i true = true := by
 have h1 : (List.range n).filter (fun i => !listed.getD i true) = [] := List.eq_nil_of_length_eq_zero h
 have h2 := List.filter_eq_nil_iff.1 h1 i (List.mem_range.2 hi)
 simpa using h2
theorem unlisted_pos {n : Nat} {listed : Array Bool} (h : 0 < unlisted n listed) : ∃ i, i < n ∧ listed.getD i true = false ∧ ∀ j, j < i → listed.getD j true = true := by
 have h1 : ∃ i, i < n ∧ listed.getD i true = false := by
  apply Decidable.byContradiction
  intro hne
  have : (List.range n).filter (fun i => !listed.getD i true) = [] := by
   rw [List.filter_eq_nil_iff]
   intro i hi
   have hlt := List.mem_range.1 hi
   cases hc : listed.getD i true
   ·exact absurd ⟨i, hlt, hc⟩ hne
   ·simp
  unfold unlisted at h
  rw [this] at h
  simp at h
 obtain ⟨i, hi⟩ := h1
 induction i using Nat.strongRecOn with
 | _ i ih =>
  by_cases hall : ∀ j, j < i → listed.getD j true = true
  ·exact ⟨i, hi.1, hi.2, hall⟩
  ·have ⟨j, hj⟩ : ∃ j, ¬ (j < i → listed.getD j true = true) := Classical.not_forall.1 hall
   have h2 : j < i ∧ listed.getD j true = false := by
    cases hc : listed.getD j true
    ·exact ⟨Decidable.byContradiction fun hn => hj fun hlt => absurd hlt hn, rfl⟩
    ·exact absurd (fun _ => hc) hj
   exact ih j h2.1 ⟨by omega, h2.2⟩
def Region.earlierB (md : Region.Mode) (ops : Array Oper) : Bool := (List.range ops.size).all fun i => ((ops[i]?).map fun o => o.after.all fun e => !Region.binds md e || decide (e.on < i)).getD true
theorem Region.earlier_spec {md : Region.Mode} (h : Region.earlierB md ops = true) {i : Nat} {o : Oper} (hi : ops[i]? = some o) : ∀ e ∈ o.after, Region.binds md e = true → e.on < i := by
 unfold Region.earlierB at h
 rw [List.all_eq_true] at h
 have h1 := h i (List.mem_range.2 (Array.getElem?_eq_some_iff.1 hi).1)
 rw [hi] at h1
 simp only [Option.map_some, Option.getD_some, Array.all_eq_true_iff_forall_mem] at h1
 intro e he hb
 have h2 := h1 e he
 rw [hb] at h2
 simpa using h2
def Region.head (size n : Nat) : Array Bool := (Array.range size).map fun i => decide (i < n)
theorem head_eq {md : Region.Mode} {n : Nat} {listed : Array Bool} (inv : HeadInv md ops n listed) (h : unlisted n listed = 0) : listed = Region.head ops.size n := by
 apply Array.ext_getElem?
 intro i
 unfold Region.head
 by_cases hs : i < ops.size
 ·have hs2 : i < listed.size := by rw [inv.size]; exact hs
  rw [Array.getElem?_eq_getElem hs2]
  simp only [Array.getElem?_map, Array.getElem?_range, hs, if_true, Option.map_some]
  by_cases hn : i < n
  ·have := unlisted_zero h i hn
   simp [hs2] at this
   simp [this, hn]
  ·have := inv.tail i (by omega) hs
   simp [hs2] at this
   simp [this, hn]
 ·rw [Array.getElem?_eq_none (by rw [inv.size]; omega), Array.getElem?_eq_none (by simp; omega)]
theorem Oper.wp_of_list {o : Oper} {a : Act} {w : World} {R : Act → World → Prop} {K' : Act → World → Prop} {Q' : Exit → Act → World → Prop} (hK : ∀ a w, R a w → K' a w)
    (h : o.wp P a w (fun a' w' => (Exit.normal = Exit.normal) ∧ R a' w') (fun ex a' w' => ex = .normal ∧ R a' w')) : o.wp P a w K' Q' := by
 unfold Oper.wp at *
 generalize (execOp a.eval o).run P w = r at *
 cases r with
 | ok n w' =>
  cases n <;> simp only [Oper.upon] at h ⊢
  case value => exact hK _ _ h.2
  case skip => exact hK _ _ h.2
  case defer => exact hK _ _ h.2
  case enter f args =>
   refine Calls.mono h fun e w'' he => ?_
   cases e with
   | returned v => exact hK _ _ he.2
   | panicked c => exact absurd he.1 (by simp)
   | outgrown => obtain ⟨a, w, he, _⟩ := he; cases he
  case row row args => exact Rows.mono h fun u w'' he => hK _ _ he.2
 | halt x w' =>
  cases x <;> simp only [Oper.upon] at h ⊢
  case panic u => exact absurd h.1 (by simp)
theorem wpOp_of_list {i : Nat} {o : Oper} (hi : ops[i]? = some o) {a : Act} {w : World} {R K' : Act → World → Prop} {Q' : Exit → Act → World → Prop} (hK : ∀ a w, R a w → K' a w)
    (h : wpList P ops (fun ex a' w' => ex = .normal ∧ R a' w') [o] a w) : wpOp P ops Q' i K' a w := by
 unfold wpOp
 simp only [hi]
 unfold wpList at h
 split
 ·rename_i hw
  rw [if_pos hw] at h
  rcases h with h | ⟨_, a', w', he, _⟩
  ·exact .inl (Oper.wp_of_list hK h)
  ·cases he
 ·rename_i hw
  rw [if_neg hw] at h
  exact hK _ _ h.2
theorem wpAny_inv {md : Region.Mode} {n g : Nat} {Q' : Exit → Act → World → Prop} {Inv : Array Bool → Act → World → Prop} (hn : n ≤ ops.size) (hlow : Region.earlierB md ops = true)
    (hwait : ∀ listed, HeadInv md ops n listed → 0 < unlisted n listed → ∀ j ∈ Region.ready md ops listed, j < n)
    (hstep : ∀ i, i < n → ∀ listed a w, HeadInv md ops n listed → Inv listed a w → i ∈ Region.ready md ops listed → wpOp P ops Q' i (Inv (listed.setIfInBounds i true)) a w)
    (hL : ∀ a w, Inv (Region.head ops.size n) a w → wpAny P md ops Q' g (Region.head ops.size n) a w) :
    ∀ (f : Nat) (listed : Array Bool) (a : Act) (w : World), unlisted n listed = f → HeadInv md ops n listed → Inv listed a w → wpAny P md ops Q' (f + g) listed a w
 | 0, listed, a, w, hf, inv, h => by
  rw [Nat.zero_add]
  have e := head_eq inv hf
  subst e
  exact hL a w h
 | f + 1, listed, a, w, hf, inv, h => by
  rw [show f + 1 + g = (f + g) + 1 by omega]
  refine ⟨fun h0 => ?_, fun j hj => ?_⟩
  ·exfalso
   obtain ⟨i, hi, hun, hall⟩ := unlisted_pos (n := n) (listed := listed) (by omega)
   have hlt : i < ops.size := by omega
   have hr : i ∈ Region.ready md ops listed := mem_ready.2 ⟨hun, ops[i], Array.getElem?_eq_getElem hlt, fun e he hbind => by
    have hei := Region.earlier_spec hlow (Array.getElem?_eq_getElem hlt) e he hbind
    have h1 := hall e.on hei
    have h2 : e.on < listed.size := by rw [inv.size]; omega
    simp [h2] at h1 ⊢
    exact h1⟩
   rw [h0] at hr
   cases hr
  ·have hjn := hwait listed inv (by omega) j hj
   have hun := (mem_ready.1 hj).1
   refine wpOp_mono (fun a' w' h' => ?_) (hstep j hjn listed a w inv h hj)
   exact wpAny_inv hn hlow hwait hstep hL f _ a' w' (by have := unlisted_set hjn (by rw [inv.size]; omega) hun; omega) (inv.set hj hjn) h'
theorem head_getD (m n j : Nat) (d : Bool) (h : j < m) : (Region.head m n).getD j d = decide (j < n) := by
 unfold Region.head
 simp [h]
def KindSteps (P : Program) (ops : Array Oper) (A : (Nat → Value) → Act) (C : World → Prop) (T : Nat → Value → World → Prop) : List Oper → Nat → Prop
 | [], _ => True
 | o :: l, i => (∀ xs w', C w' → (∀ j, (o.after.any fun e => Region.binds .any e && e.on == j) = true → T j (xs j) w') →
     wpList P ops (fun ex a' w'' => ex = .normal ∧ Below w'.heap.size w' w'' ∧ ∃ v, a' = A (fun j => if j = i then v else xs j) ∧ T i v w'') [o] (A xs) w') ∧ KindSteps P ops A C T l (i + 1)
theorem KindSteps.at {A : (Nat → Value) → Act} {C : World → Prop} {T : Nat → Value → World → Prop} : ∀ {l : List Oper} {k i : Nat} {o : Oper}, KindSteps P ops A C T l k → l[i]? = some o →
    ∀ xs w', C w' → (∀ j, (o.after.any fun e => Region.binds .any e && e.on == j) = true → T j (xs j) w') →
     wpList P ops (fun ex a' w'' => ex = .normal ∧ Below w'.heap.size w' w'' ∧ ∃ v, a' = A (fun j => if j = k + i then v else xs j) ∧ T (k + i) v w'') [o] (A xs) w'
 | [], _, _, _, _, h => by cases h
 | o :: l, k, 0, o', hs, h => by
  have e : o = o' := by simpa using h
  subst e
  exact hs.1
 | o :: l, k, i + 1, o', hs, h => by
  have := KindSteps.at hs.2 (i := i) (o := o') (by simpa using h)
  rw [show k + 1 + i = k + (i + 1) by omega] at this
  exact this
theorem kinds_any {l : List Oper} {n g : Nat} {Q' : Exit → Act → World → Prop} {A : (Nat → Value) → Act} {T : Nat → Value → World → Prop} {w w1 : World} {xs0 : Nat → Value} (hn : n ≤ l.toArray.size)
    (hlow : Region.earlierB .any l.toArray = true) (hT : ∀ i v w1 w2, Below w1.heap.size w1 w2 → T i v w1 → T i v w2)
    (hwait : ∀ listed, HeadInv .any l.toArray n listed → 0 < unlisted n listed → ∀ j ∈ Region.ready .any l.toArray listed, j < n)
    (hs : KindSteps P l.toArray A (fun w' => Below w.heap.size w w') T (l.take n) 0) (h1 : Below w.heap.size w w1)
    (hL : ∀ xs w', Below w.heap.size w w' → (∀ i, i < n → T i (xs i) w') → wpAny P .any l.toArray Q' g (Region.head l.toArray.size n) (A xs) w') :
    wpAny P .any l.toArray Q' (unlisted n (Array.replicate l.toArray.size false) + g) (Array.replicate l.toArray.size false) (A xs0) w1 := by
 refine wpAny_inv (Inv := fun listed a w' => Below w.heap.size w w' ∧ ∃ xs, a = A xs ∧ ∀ i, i < n → listed.getD i false = true → T i (xs i) w') hn hlow hwait ?_ ?_ _ _ _ _ rfl
  ⟨by simp, fun j oj _ hl => (by rw [getD_replicate_false] at hl; cases hl), fun t _ ht => getD_in (by simpa using ht) (getD_replicate_false _ _)⟩ ⟨h1, xs0, rfl, fun i _ hl => by rw [getD_replicate_false] at hl; cases hl⟩
 ·intro i hi listed a w' inv ⟨hw, xs, hax, hfacts⟩ hr
  subst hax
  obtain ⟨hun, o, ho, hall⟩ := mem_ready.1 hr
  have hlo : (l.take n)[i]? = some o := by
   rw [List.getElem?_take_of_lt hi]; simpa using ho
  have h := hs.at hlo xs w' hw (fun j hj => by
   rw [Array.any_eq_true] at hj
   obtain ⟨k, hk, hj⟩ := hj
   simp only [Bool.and_eq_true, beq_iff_eq] at hj
   obtain ⟨hb, rfl⟩ := hj
   have hlt := Region.earlier_spec hlow ho _ (Array.getElem_mem hk) hb
   exact hfacts _ (by omega) (hall _ (Array.getElem_mem hk) hb))
  rw [Nat.zero_add] at h
  refine wpOp_of_list ho (R := fun a' w'' => Below w'.heap.size w' w'' ∧ ∃ v, a' = A (fun j => if j = i then v else xs j) ∧ T i v w'') ?_ h
  rintro a' w'' ⟨hb, v, rfl, ht⟩
  refine ⟨hw.trans (hb.mono hw.size), _, rfl, fun j hj hl => ?_⟩
  show T j (if j = i then v else xs j) w''
  by_cases hji : j = i
  ·subst hji; rw [if_pos rfl]; exact ht
  ·rw [if_neg hji]
   rw [getD_set_ne false (Ne.symm hji)] at hl
   exact hT j _ _ _ hb (hfacts j hj hl)
 ·rintro a w' ⟨hw, xs, rfl, hfacts⟩
  refine hL xs w' hw fun i hi => hfacts i hi ?_
  have hsz : i < l.toArray.size := by omega
  rw [head_getD _ _ _ _ hsz]
  simpa using hi
theorem unlisted_all (n m : Nat) (h : n ≤ m) : unlisted n (Array.replicate m false) = n := by
 unfold unlisted
 have : (List.range n).filter (fun i => !(Array.replicate m false).getD i true) = List.range n := by
  rw [List.filter_eq_self]
  intro i hi
  have := List.mem_range.1 hi
  have h2 : i < m := by omega
  simp [h2]
 rw [this, List.length_range]
theorem wp_region_kinds {id : Nat} {Q : Exit → Act → World → Prop} {a : Act} {w : World} {l : List Oper} (A : (Nat → Value) → Act) (T : Nat → Value → World → Prop) (xs0 : Nat → Value) (hm : P.follows .mixedOrders = true)
    (hB : Region.earlierB .any l.toArray = true) (ha : a = A xs0) (hT : ∀ i v w1 w2, Below w1.heap.size w1 w2 → T i v w1 → T i v w2)
    (hs : KindSteps P l.toArray A (fun w' => Below w.heap.size w w') T l 0)
    (hend : ∀ xs w', Below w.heap.size w w' → (∀ i, i < l.length → T i (xs i) w') → Q .normal (A xs) w') : (Code.region id l.toArray true).wp P Q a w := by
 subst ha
 refine wp_region_any hm ?_
 have h := kinds_any (P := P) (l := l) (n := l.toArray.size) (g := 0) (Q' := Q) (A := A) (T := T) (w := w) (w1 := { w with drawn := w.drawn + 1 }) (xs0 := xs0) (Nat.le_refl _) hB hT
  (fun listed _ _ j hj => by obtain ⟨_, o, ho, _⟩ := mem_ready.1 hj; exact (Array.getElem?_eq_some_iff.1 ho).1)
  (by simpa using hs) ⟨rfl, rfl, rfl, Nat.le_refl _, fun _ _ => rfl⟩
  (fun xs w' hw hf => by
   refine ⟨?_, hend xs w' hw (fun i hi => hf i (by simpa using hi))⟩
   apply List.eq_nil_iff_forall_not_mem.2
   intro j hj
   obtain ⟨hun, o, ho, _⟩ := mem_ready.1 hj
   have hlt := (Array.getElem?_eq_some_iff.1 ho).1
   rw [head_getD _ _ _ _ hlt] at hun
   simp at hun hlt
   omega)
 rw [unlisted_all _ _ (Nat.le_refl _), Nat.add_zero] at h
 exact h
theorem wp_region_kinds_t {id : Nat} {Q : Exit → Act → World → Prop} {a : Act} {w : World} {l : List Oper} (n : Nat) (A : (Nat → Value) → Act) (T : Nat → Value → World → Prop) (xs0 : Nat → Value) (hm : P.follows .mixedOrders = true)
    (hB : (Region.earlierB .any l.toArray && decide (n < l.toArray.size) && Region.sinkB .any l.toArray n && Region.chainB .any l.toArray n && Region.seqB .any l.toArray (l.toArray.size - n) n (Region.head l.toArray.size n)) = true) (ha : a = A xs0)
    (hT : ∀ i v w1 w2, Below w1.heap.size w1 w2 → T i v w1 → T i v w2)
    (hs : KindSteps P l.toArray A (fun w' => Below w.heap.size w w') T (l.take n) 0)
    (hend : ∀ xs w', Below w.heap.size w w' → (∀ i, i < n → T i (xs i) w') → wpList P l.toArray Q (l.drop n) (A xs) w') : (Code.region id l.toArray true).wp P Q a w := by
 subst ha
 simp only [Bool.and_eq_true, decide_eq_true_eq] at hB
 obtain ⟨⟨⟨⟨hlow, hn⟩, hsk⟩, hc⟩, hseq⟩ := hB
 refine wp_region_any hm ?_
 have hdl : (l.drop n).length = l.toArray.size - n := by simp
 have h := kinds_any (P := P) (l := l) (n := n) (g := l.toArray.size - n) (Q' := Q) (A := A) (T := T) (w := w) (w1 := { w with drawn := w.drawn + 1 }) (xs0 := xs0) (Nat.le_of_lt hn) hlow hT
  (fun listed inv hpos j hj => by
   obtain ⟨i, hi, hun, _⟩ := unlisted_pos hpos
   exact Nat.lt_of_not_le fun h => tail_waits hsk hc hn inv _ i rfl hi hun j h hj)
  hs ⟨rfl, rfl, rfl, Nat.le_refl _, fun _ _ => rfl⟩
  (fun xs w' hw hf => by
   have h3 := wpAny_of_seq (P := P) (md := .any) (ops := l.toArray) (Q' := Q) (l.drop n) n (Region.head l.toArray.size n) (A xs) w' (fun j => by simp [List.getElem?_drop]) (by rw [hdl]; exact hseq) (hend xs w' hw hf)
   rwa [hdl] at h3)
 rw [unlisted_all _ _ (Nat.le_of_lt hn), show n + (l.toArray.size - n) = l.toArray.size by omega] at h
 exact h
def fill (a : Act) (xs : Nat → Value) : List Oper → Nat → Act
 | [], _ => a
 | o :: l, i => fill (a.put o.dst (xs i)) xs l (i + 1)
def readDst (a : Act) (o : Oper) : Value := match o.dst with
 | none => undef
 | some t => a.tmps.getD t undef
theorem put_read (a : Act) (o : Oper) : a.put o.dst (readDst a o) = a := by
 unfold readDst Act.put
 cases o.dst with
 | none => rfl
 | some t =>
  obtain ⟨tmps, defers⟩ := a
  simp only [Act.mk.injEq, and_true]
  apply Array.ext_getElem?
  intro i
  rw [Array.getElem?_setIfInBounds]
  split
  ·rename_i h
   subst h
   by_cases hlt : t < tmps.size
   ·simp [hlt]
   ·simp [hlt]
  ·rfl
theorem fill_self (a : Act) : ∀ (l : List Oper) (i : Nat), fill a (fun j => ((l[j - i]?).map (readDst a)).getD undef) l i = a
 | [], _ => rfl
 | o :: l, i => by
  unfold fill
  simp only [Nat.sub_self, List.getElem?_cons_zero, Option.map_some, Option.getD_some]
  rw [put_read]
  have := fill_self a l (i + 1)
  refine Eq.trans ?_ this
  have hx : ∀ (l' : List Oper) (k : Nat) (b : Act) (f g : Nat → Value), (∀ j, k ≤ j → f j = g j) → fill b f l' k = fill b g l' k := by
   intro l'
   induction l' with
   | nil => intros; rfl
   | cons o' l' ih =>
    intro k b f g h
    unfold fill
    rw [h k (Nat.le_refl _)]
    exact ih (k + 1) _ f g fun j hj => h j (by omega)
  refine hx l (i + 1) a _ _ fun j hj => ?_
  rw [show j - i = (j - (i + 1)) + 1 by omega, List.getElem?_cons_succ]
theorem wp_region_facts {id : Nat} {Q : Exit → Act → World → Prop} {a : Act} {w : World} {l : List Oper} (T : Nat → Value → World → Prop) (hm : P.follows .mixedOrders = true)
    (hB : Region.earlierB .any l.toArray = true) (hT : ∀ i v w1 w2, Below w1.heap.size w1 w2 → T i v w1 → T i v w2)
    (hs : KindSteps P l.toArray (fun xs => fill a xs l 0) (fun w' => Below w.heap.size w w') T l 0)
    (hend : ∀ xs w', Below w.heap.size w w' → (∀ i, i < l.length → T i (xs i) w') → Q .normal (fill a xs l 0) w') : (Code.region id l.toArray true).wp P Q a w :=
 wp_region_kinds (fun xs => fill a xs l 0) T _ hm hB (fill_self a l 0).symm hT hs hend
theorem wp_region_facts_t {id : Nat} {Q : Exit → Act → World → Prop} {a : Act} {w : World} {l : List Oper} (n : Nat) (T : Nat → Value → World → Prop) (hm : P.follows .mixedOrders = true)
    (hB : (Region.earlierB .any l.toArray && decide (n < l.toArray.size) && Region.sinkB .any l.toArray n && Region.chainB .any l.toArray n && Region.seqB .any l.toArray (l.toArray.size - n) n (Region.head l.toArray.size n)) = true)
    (hT : ∀ i v w1 w2, Below w1.heap.size w1 w2 → T i v w1 → T i v w2)
    (hs : KindSteps P l.toArray (fun xs => fill a xs (l.take n) 0) (fun w' => Below w.heap.size w w') T (l.take n) 0)
    (hend : ∀ xs w', Below w.heap.size w w' → (∀ i, i < n → T i (xs i) w') → wpList P l.toArray Q (l.drop n) (fill a xs (l.take n) 0) w') : (Code.region id l.toArray true).wp P Q a w :=
 wp_region_kinds_t n (fun xs => fill a xs (l.take n) 0) T _ hm hB (fill_self a (l.take n) 0).symm hT hs hend
theorem KindSteps.cons {A : (Nat → Value) → Act} {C : World → Prop} {T : Nat → Value → World → Prop} {o : Oper} {l : List Oper} {i : Nat}
    (h : ∀ xs w', C w' → (∀ j, (o.after.any fun e => Region.binds .any e && e.on == j) = true → T j (xs j) w') →
     wpList P ops (fun ex a' w'' => ex = .normal ∧ Below w'.heap.size w' w'' ∧ ∃ v, a' = A (fun j => if j = i then v else xs j) ∧ T i v w'') [o] (A xs) w') (t : KindSteps P ops A C T l (i + 1)) : KindSteps P ops A C T (o :: l) i := ⟨h, t⟩
theorem KindSteps.nil {A : (Nat → Value) → Act} {C : World → Prop} {T : Nat → Value → World → Prop} {i : Nat} : KindSteps P ops A C T [] i := trivial
end
end Go

end
