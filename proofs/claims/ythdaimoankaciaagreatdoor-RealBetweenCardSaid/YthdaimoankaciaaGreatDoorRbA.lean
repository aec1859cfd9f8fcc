/- Part 1 of the proof; what it holds is said text by text. -/
import Derived.Test.YthdaimoankaciaaGreatDoorCards
import Derived.Test.YthdaimoankaciaaGreatDoorTie
import Derived.ProofKit
import Derived.OpenShut
import Derived.Deep.DeepHandedRow
import Derived.Lib.LaidTab
import Derived.Lib.SmallJoins
import Derived.ShutString
import Derived.StillTail
import Derived.Deep.QuietTactic
import Derived.WalkKit
import Derived.Below
section
/- The cards of this seat: a witness world, the arguments opened, the post of a call that leaves old memory alone. -/
set_option linter.unusedSimpArgs false
set_option linter.unusedVariables false
namespace Go.Proofs.YthdaimoankaciaaGreatDoor
open Go.ChangeShapes Go.WideShapes Go.ChangeAt Go.RowKit
open Go
theorem own : ownKnob Tryz.prog.godebug = none := by kernel_rfl
def layFirst : Obj → Obj
 | .cells _ t frozen => .cells (Go.Pinned.utf8FirstZ.map fun n : Nat => Value.int .u8 (n : Int)).toArray t frozen
 | o => o
def layAccept : Obj → Obj
 | .cells _ t frozen => .cells #[.int .u8 128, .int .u8 191, .int .u8 160, .int .u8 191, .int .u8 128, .int .u8 159, .int .u8 144, .int .u8 191, .int .u8 128, .int .u8 143, .int .u8 0, .int .u8 0, .int .u8 0, .int .u8 0, .int .u8 0, .int .u8 0, .int .u8 0, .int .u8 0, .int .u8 0, .int .u8 0, .int .u8 0, .int .u8 0, .int .u8 0, .int .u8 0, .int .u8 0, .int .u8 0, .int .u8 0, .int .u8 0, .int .u8 0, .int .u8 0, .int .u8 0, .int .u8 0] t frozen
 | o => o
noncomputable def laidWorld (os : Os) : World :=
 { World.holding Tryz.prog os ⟨#[], #[], []⟩ with heap := ((World.holding Tryz.prog os ⟨#[], #[], []⟩).heap.modify 1 layFirst).modify 2 layAccept }
section
variable {H : Type} {enc : TypeId × Value → H}
end
section
variable {H : Type} {enc : TypeId × Value → H} {P : Program}
theorem post_placeless {f : Func} {s : ChangeSpec} {W W' : World} {args : Array Value} {v : Value} {ds gs : List (DataW H)}
    (hW : DataW.Whole enc P f.params.toList s.vars false W args.toList ds gs [])
    (hres : ∀ (b : Nat) (sp : Nat → Bool) (hd : Bool), DataW.TrodAll enc P W' b sp hd f.resultTypes.toList (v.resultList f.resultTypes.size) (s.fn H (ds ++ gs)).results [])
    (hargs : ∀ sp : Nat → Bool, DataW.TrodAll enc P W' 0 sp true f.params.toList args.toList (s.fn H (ds ++ gs)).args [])
    (hvars : ∀ sp : Nat → Bool, DataW.TrodVars enc P W' sp s.vars (s.fn H (ds ++ gs)).vars [])
    (hb : Below W.heap.size W W') : s.post enc P f false true false false W args v W' := by
 refine ⟨ds, gs, [], [], [], [], hW, hres _ _ _, hargs _, hvars _, hb.frame _, fun h => by cases h⟩
end
end Go.Proofs.YthdaimoankaciaaGreatDoor

end
section
/- No program in sight: values without places (structs and arrays of bools, ints and strings, one in another): what their cells are, and that they read alike in every world. -/
set_option linter.unusedSimpArgs false
set_option linter.unusedVariables false
namespace Go.Flat
open Go
inductive Leaf where
 | b
 | i (k : IntKind)
 | s
def leafOk : Leaf → Value → Prop
 | .b, v => ∃ x, v = .bool x
 | .i k, v => ∃ n, v = .int k n ∧ (Lit.int k n).wf = true
 | .s, v => ∃ s, v = .string s ∧ s.size ≤ maxLen
def fits : List Leaf → List Value → Prop
 | [], [] => True
 | l :: ls, v :: vs => leafOk l v ∧ fits ls vs
 | _, _ => False
theorem fits_append : ∀ {l1 l2 : List Leaf} {c1 c2 : List Value}, fits l1 c1 → fits l2 c2 → fits (l1 ++ l2) (c1 ++ c2)
 | [], _, [], _, _, h => h
 | _ :: _, _, _ :: _, _, h1, h2 => ⟨h1.1, fits_append h1.2 h2⟩
 | [], _, _ :: _, _, h, _ => h.elim
 | _ :: _, _, [], _, h, _ => h.elim
def leavesF (r : TypeId → Option (List Leaf)) (C : TypeId → Nat) : List Field → Nat → Option (List Leaf)
 | [], _ => some []
 | f :: fs, off => match r f.type, leavesF r C fs (off + C f.type) with
  | some l, some l' => if f.offset = off ∧ l.length = C f.type then some (l ++ l') else none
  | _, _ => none
def leavesA (l : List Leaf) : Nat → List Leaf
 | 0 => []
 | n + 1 => leavesA l n ++ l
def leaves (P : Program) : Nat → TypeId → Option (List Leaf)
 | 0, _ => none
 | n + 1, t => match P.underlying t with
  | some .bool => some [.b]
  | some (.int k) => some [.i k]
  | some .string => some [.s]
  | some (.struct fs) => match leavesF (leaves P n) P.cellsOf fs.toList 0 with
   | some l => if l.length = P.cellsOf t then some l else none
   | none => none
  | some (.array m e) => match leaves P n e with
   | some l => if l.length = P.cellsOf e ∧ m * P.cellsOf e = P.cellsOf t then some (leavesA l m) else none
   | none => none
  | _ => none
section
variable {H : Type} {enc : TypeId × Value → H} {P : Program}
def Same (enc : TypeId × Value → H) (P : Program) (fuel : Nat) (t : TypeId) (cs : List Value) (x : DataW H × List MemPlace) : Prop :=
 x.2 = [] ∧ ∀ (w : World) (base : Nat) (sp : Nat → Bool) (held : Bool), DataW.trod enc P w base sp held fuel t cs = some x
theorem mapM_some {α β : Type} {f : α → Option β} : ∀ {l : List α} {ys : List β}, l.mapM f = some ys → ∀ a ∈ l, ∃ y, f a = some y
 | [], _, _, a, ha => by cases ha
 | x :: l, ys, h, a, ha => by
  rw [List.mapM_cons] at h
  cases hx : f x with
  | none => rw [hx] at h; cases h
  | some y =>
   rw [hx] at h
   cases hl : l.mapM f with
   | none => rw [hl] at h; cases h
   | some ys' =>
    rcases List.mem_cons.1 ha with rfl | ha
    ·exact ⟨y, hx⟩
    ·exact mapM_some hl a ha
theorem mapM_congr' {α β : Type} {f g : α → Option β} : ∀ {l : List α}, (∀ a ∈ l, f a = g a) → l.mapM f = l.mapM g
 | [], _ => rfl
 | x :: l, h => by
  rw [List.mapM_cons, List.mapM_cons, h x List.mem_cons_self, mapM_congr' fun a ha => h a (List.mem_cons_of_mem _ ha)]
theorem mapM_all {α β : Type} {f : α → Option β} (p : β → Prop) : ∀ {l : List α} {ys : List β}, l.mapM f = some ys → (∀ a ∈ l, ∀ y, f a = some y → p y) → ∀ y ∈ ys, p y
 | [], ys, h, _, y, hy => by
  rw [List.mapM_nil] at h
  obtain rfl : [] = ys := Option.some.inj h
  cases hy
 | x :: l, ys, h, hp, y, hy => by
  rw [List.mapM_cons] at h
  cases hx : f x with
  | none => rw [hx] at h; cases h
  | some z =>
   rw [hx] at h
   cases hl : l.mapM f with
   | none => rw [hl] at h; cases h
   | some ys' =>
    rw [hl] at h
    obtain rfl : z :: ys' = ys := Option.some.inj h
    rcases List.mem_cons.1 hy with rfl | hy
    ·exact hp x List.mem_cons_self _ hx
    ·exact mapM_all p hl (fun a ha => hp a (List.mem_cons_of_mem _ ha)) y hy
theorem flatF {w : World} {base : Nat} {sp : Nat → Bool} {held : Bool} {fuel n : Nat} {cs : List Value}
    (ih : ∀ {t : TypeId} {ls : List Leaf} {cs : List Value} {x : DataW H × List MemPlace}, leaves P n t = some ls → DataW.trod enc P w base sp held fuel t cs = some x → fits ls cs ∧ Same enc P fuel t cs x) :
    ∀ (fs : List Field) (off : Nat) (l : List Leaf), leavesF (leaves P n) P.cellsOf fs off = some l → (∀ f ∈ fs, ∃ y, DataW.trod enc P w base sp held fuel f.type ((cs.drop f.offset).take (P.cellsOf f.type)) = some y) →
     fits l ((cs.drop off).take l.length) ∧ ∀ f ∈ fs, ∀ y, DataW.trod enc P w base sp held fuel f.type ((cs.drop f.offset).take (P.cellsOf f.type)) = some y → Same enc P fuel f.type ((cs.drop f.offset).take (P.cellsOf f.type)) y
 | [], off, l, h, _ => by
  obtain rfl : [] = l := Option.some.inj h
  exact ⟨trivial, fun f hf => by cases hf⟩
 | f :: fs, off, l, h, hy => by
  unfold leavesF at h
  split at h
  ·rename_i lf l' hf hfs
   split at h
   ·rename_i ho
    obtain ⟨rfl, hlen⟩ := ho
    obtain rfl : lf ++ l' = l := Option.some.inj h
    obtain ⟨y, hy0⟩ := hy f List.mem_cons_self
    obtain ⟨h1, h2⟩ := ih hf hy0
    obtain ⟨h3, h4⟩ := flatF ih fs _ l' hfs fun g hg => hy g (List.mem_cons_of_mem _ hg)
    refine ⟨?_, fun g hg z hz => ?_⟩
    ·rw [List.length_append, List.take_add, hlen, List.drop_drop]
     exact fits_append h1 h3
    ·rcases List.mem_cons.1 hg with rfl | hg
     ·rw [hz] at hy0
      obtain rfl := Option.some.inj hy0
      exact h2
     ·exact h4 g hg z hz
   ·cases h
  ·cases h
theorem flatA {l : List Leaf} {C : Nat} {cs : List Value} (hl : l.length = C) : ∀ m, (∀ i, i < m → fits l ((cs.drop (i * C)).take C)) → fits (leavesA l m) (cs.take (m * C))
 | 0, _ => by simp [leavesA, fits]
 | m + 1, h => by
  rw [leavesA, Nat.succ_mul, List.take_add]
  exact fits_append (flatA hl m fun i hi => h i (by omega)) (h m (by omega))
theorem flat {w : World} {base : Nat} {sp : Nat → Bool} {held : Bool} : ∀ (fuel n : Nat) {t : TypeId} {ls : List Leaf} {cs : List Value} {x : DataW H × List MemPlace},
    leaves P n t = some ls → DataW.trod enc P w base sp held fuel t cs = some x → fits ls cs ∧ Same enc P fuel t cs x
 | 0, _, _, _, _, _, _, h => by simp [DataW.trod] at h
 | _, 0, _, _, _, _, h, _ => by cases h
 | fuel + 1, n + 1, t, ls, cs, x, hl, h => by
  have ih : ∀ {t : TypeId} {ls : List Leaf} {cs : List Value} {x : DataW H × List MemPlace}, leaves P n t = some ls → DataW.trod enc P w base sp held fuel t cs = some x → fits ls cs ∧ Same enc P fuel t cs x := fun h1 h2 => flat fuel n h1 h2
  unfold leaves at hl
  cases hu : P.underlying t with
  | none => rw [hu] at hl; cases hl
  | some u =>
   rw [hu] at hl
   cases u with
   | bool =>
    simp only [Option.some.injEq] at hl
    subst hl
    obtain ⟨b, rfl, rfl⟩ := DataW.trod_bool hu h
    exact ⟨⟨⟨b, rfl⟩, trivial⟩, rfl, fun w base sp held => by simp [DataW.trod, hu]⟩
   | int k =>
    simp only [Option.some.injEq] at hl
    subst hl
    obtain ⟨m, rfl, rfl, h1⟩ := DataW.trod_int hu h
    exact ⟨⟨⟨m, rfl, h1⟩, trivial⟩, rfl, fun w base sp held => by simp [DataW.trod, hu, h1]⟩
   | string =>
    simp only [Option.some.injEq] at hl
    subst hl
    obtain ⟨s, rfl, rfl, h1⟩ := DataW.trod_string hu h
    exact ⟨⟨⟨s, rfl, h1⟩, trivial⟩, rfl, fun w base sp held => by simp [DataW.trod, hu, h1]⟩
   | struct fs =>
    simp only at hl
    split at hl
    ·rename_i l hf
     split at hl
     ·rename_i hlen
      obtain rfl : l = ls := Option.some.inj hl
      have h0 := h
      unfold DataW.trod at h
      simp only [hu] at h
      split at h
      ·rename_i hcs
       cases hm : fs.toList.mapM fun f => DataW.trod enc P w base sp held fuel f.type ((cs.drop f.offset).take (P.cellsOf f.type)) with
       | none => rw [hm] at h; cases h
       | some xs =>
        rw [hm] at h
        obtain rfl : (DataW.agg (xs.map (·.1)), xs.flatMap (·.2)) = x := Option.some.inj h
        obtain ⟨h1, h2⟩ := flatF ih fs.toList 0 l hf (mapM_some hm)
        refine ⟨?_, ?_, fun w' base' sp' held' => ?_⟩
        ·rw [List.drop_zero, List.take_of_length_le (by omega)] at h1
         exact h1
        ·show xs.flatMap (·.2) = []
         rw [List.flatMap_eq_nil_iff]
         exact mapM_all (fun y => y.2 = []) hm fun f hf y hy => (h2 f hf y hy).1
        ·unfold DataW.trod
         simp only [hu]
         rw [if_pos hcs]
         have e2 : (fs.toList.mapM fun f => DataW.trod enc P w' base' sp' held' fuel f.type ((cs.drop f.offset).take (P.cellsOf f.type))) = some xs := by
          rw [← hm]
          exact mapM_congr' fun f hf => by
           obtain ⟨y, hy⟩ := mapM_some hm f hf
           rw [hy]
           exact (h2 f hf y hy).2 _ _ _ _
         rw [e2]
         rfl
      ·cases h
     ·cases hl
    ·cases hl
   | array m e =>
    simp only at hl
    split at hl
    ·rename_i l hf
     split at hl
     ·rename_i hlen
      obtain rfl : leavesA l m = ls := Option.some.inj hl
      unfold DataW.trod at h
      simp only [hu] at h
      split at h
      ·rename_i hcs
       cases hm : (List.range m).mapM fun i => DataW.trod enc P w base sp held fuel e ((cs.drop (i * P.cellsOf e)).take (P.cellsOf e)) with
       | none => rw [hm] at h; cases h
       | some xs =>
        rw [hm] at h
        obtain rfl : (DataW.agg (xs.map (·.1)), xs.flatMap (·.2)) = x := Option.some.inj h
        refine ⟨?_, ?_, fun w' base' sp' held' => ?_⟩
        ·have := flatA (cs := cs) hlen.1 m fun i hi => by
           obtain ⟨y, hy⟩ := mapM_some hm i (List.mem_range.2 hi)
           exact (ih hf hy).1
         rw [hlen.2, List.take_of_length_le (by omega)] at this
         exact this
        ·show xs.flatMap (·.2) = []
         rw [List.flatMap_eq_nil_iff]
         exact mapM_all (fun y => y.2 = []) hm fun i hi y hy => (ih hf hy).2.1
        ·unfold DataW.trod
         simp only [hu]
         rw [if_pos hcs]
         have e2 : ((List.range m).mapM fun i => DataW.trod enc P w' base' sp' held' fuel e ((cs.drop (i * P.cellsOf e)).take (P.cellsOf e))) = some xs := by
          rw [← hm]
          exact mapM_congr' fun i hi => by
           obtain ⟨y, hy⟩ := mapM_some hm i hi
           rw [hy]
           exact (ih hf hy).2.2 _ _ _ _
         rw [e2]
         rfl
      ·cases h
     ·cases hl
    ·cases hl
   | _ => simp at hl
end
def isAggT (P : Program) (t : TypeId) : Bool := match P.underlying t with
 | some (.struct _) | some (.array _ _) => true
 | _ => false
theorem open_flat {H : Type} {enc : TypeId × Value → H} {P : Program} {W : World} {r : Reach} {base : Nat} {sp0 : Nat → Bool} {t : TypeId} {v : Value} {d : DataW H} {p : List MemPlace} {ls : List Leaf} (n : Nat)
    (hl : leaves P n t = some ls) (ha : isAggT P t = true) (hv : Value.okWide P W r base t v) (h : DataW.Trod enc P W 0 sp0 true t v d p) :
    ∃ cs : List Value, v = .agg ⟨cs⟩ ∧ p = [] ∧ fits ls cs ∧ ∀ (W' : World) (sp : Nat → Bool), DataW.Trod enc P W' 0 sp true t (.agg ⟨cs⟩) d [] := by
 have hv' : ∃ cs, v = .agg cs := by
  unfold Value.okWide at hv
  unfold isAggT at ha
  split at ha
  ·rename_i hu; rw [hu] at hv; exact ⟨_, hv.choose_spec.1⟩
  ·rename_i hu; rw [hu] at hv; exact ⟨_, hv.choose_spec.1⟩
  ·cases ha
 obtain ⟨⟨cs⟩, rfl⟩ := hv'
 obtain ⟨fuel, hf⟩ := h
 obtain ⟨h1, h2, h3⟩ := flat fuel n hl hf
 refine ⟨cs, rfl, h2, h1, fun W' sp => ⟨fuel, ?_⟩⟩
 have := h3 W' 0 sp true
 rw [show d = (d, p).1 from rfl, show ([] : List MemPlace) = (d, p).2 from h2.symm]
 exact this
def leafB (B : Nat) : Leaf → Value → Prop
 | .b, v => ∃ x, v = .bool x
 | .i k, v => ∃ n, v = .int k n ∧ (Lit.int k n).wf = true
 | .s, v => ∃ s, v = .string s ∧ s.size ≤ B
def fitsB (B : Nat) : List Leaf → List Value → Prop
 | [], [] => True
 | l :: ls, v :: vs => leafB B l v ∧ fitsB B ls vs
 | _, _ => False
theorem fitsB_append {B : Nat} : ∀ {l1 l2 : List Leaf} {c1 c2 : List Value}, fitsB B l1 c1 → fitsB B l2 c2 → fitsB B (l1 ++ l2) (c1 ++ c2)
 | [], _, [], _, _, h => h
 | _ :: _, _, _ :: _, _, h1, h2 => ⟨h1.1, fitsB_append h1.2 h2⟩
 | [], _, _ :: _, _, h, _ => h.elim
 | _ :: _, _, [], _, h, _ => h.elim
theorem fitsB_cons {B : Nat} {l : Leaf} {ls : List Leaf} {cs : List Value} (h : fitsB B (l :: ls) cs) : ∃ v vs, cs = v :: vs ∧ leafB B l v ∧ fitsB B ls vs := by
 cases cs with
 | nil => exact h.elim
 | cons v vs => exact ⟨v, vs, rfl, h.1, h.2⟩
theorem fitsB_nil {B : Nat} {cs : List Value} (h : fitsB B [] cs) : cs = [] := by
 cases cs with
 | nil => rfl
 | cons v vs => exact h.elim
section
variable {H : Type} {enc : TypeId × Value → H} {P : Program}
theorem each_bound {B : Nat} {g : Field → Option (DataW H × List MemPlace)} : ∀ {fs : List Field} {xs : List (DataW H × List MemPlace)}, fs.mapM g = some xs →
    (∀ m ∈ DataW.weightsEach P (fs.map (·.type)) (xs.map (·.1)), m ≤ B) → ∀ f ∈ fs, ∃ y, g f = some y ∧ ∀ m ∈ y.1.weights P f.type, m ≤ B
 | [], _, _, _, f, hf => by cases hf
 | a :: fs, xs, h, hb, f, hf => by
  rw [List.mapM_cons] at h
  cases hx : g a with
  | none => rw [hx] at h; cases h
  | some z =>
   rw [hx] at h
   cases hl : fs.mapM g with
   | none => rw [hl] at h; cases h
   | some ys =>
    rw [hl] at h
    obtain rfl : z :: ys = xs := Option.some.inj h
    simp only [List.map_cons, DataW.weightsEach, List.mem_append] at hb
    rcases List.mem_cons.1 hf with rfl | hf
    ·exact ⟨z, hx, fun m hm => hb m (.inl hm)⟩
    ·exact each_bound hl (fun m hm => hb m (.inr hm)) f hf
theorem all_bound {B : Nat} {e : TypeId} {g : Nat → Option (DataW H × List MemPlace)} : ∀ {l : List Nat} {xs : List (DataW H × List MemPlace)}, l.mapM g = some xs →
    (∀ m ∈ DataW.weightsAll P e (xs.map (·.1)), m ≤ B) → ∀ i ∈ l, ∃ y, g i = some y ∧ ∀ m ∈ y.1.weights P e, m ≤ B
 | [], _, _, _, f, hf => by cases hf
 | a :: fs, xs, h, hb, f, hf => by
  rw [List.mapM_cons] at h
  cases hx : g a with
  | none => rw [hx] at h; cases h
  | some z =>
   rw [hx] at h
   cases hl : fs.mapM g with
   | none => rw [hl] at h; cases h
   | some ys =>
    rw [hl] at h
    obtain rfl : z :: ys = xs := Option.some.inj h
    simp only [List.map_cons, DataW.weightsAll, List.mem_append] at hb
    rcases List.mem_cons.1 hf with rfl | hf
    ·exact ⟨z, hx, fun m hm => hb m (.inl hm)⟩
    ·exact all_bound hl (fun m hm => hb m (.inr hm)) f hf
theorem flatFB {B : Nat} {w : World} {base : Nat} {sp : Nat → Bool} {held : Bool} {fuel n : Nat} {cs : List Value}
    (ih : ∀ {t : TypeId} {ls : List Leaf} {cs : List Value} {x : DataW H × List MemPlace}, leaves P n t = some ls → DataW.trod enc P w base sp held fuel t cs = some x → (∀ m ∈ x.1.weights P t, m ≤ B) → fitsB B ls cs) :
    ∀ (fs : List Field) (off : Nat) (l : List Leaf), leavesF (leaves P n) P.cellsOf fs off = some l → (∀ f ∈ fs, ∃ y, DataW.trod enc P w base sp held fuel f.type ((cs.drop f.offset).take (P.cellsOf f.type)) = some y ∧ ∀ m ∈ y.1.weights P f.type, m ≤ B) →
     fitsB B l ((cs.drop off).take l.length)
 | [], off, l, h, _ => by
  obtain rfl : [] = l := Option.some.inj h
  exact trivial
 | f :: fs, off, l, h, hy => by
  unfold leavesF at h
  split at h
  ·rename_i lf l' hf hfs
   split at h
   ·rename_i ho
    obtain ⟨rfl, hlen⟩ := ho
    obtain rfl : lf ++ l' = l := Option.some.inj h
    obtain ⟨y, hy0, hb⟩ := hy f List.mem_cons_self
    have h1 := ih hf hy0 hb
    have h3 := flatFB ih fs _ l' hfs fun g hg => hy g (List.mem_cons_of_mem _ hg)
    rw [List.length_append, List.take_add, hlen, List.drop_drop]
    exact fitsB_append h1 h3
   ·cases h
  ·cases h
theorem flatAB {B : Nat} {l : List Leaf} {C : Nat} {cs : List Value} (hl : l.length = C) : ∀ m, (∀ i, i < m → fitsB B l ((cs.drop (i * C)).take C)) → fitsB B (leavesA l m) (cs.take (m * C))
 | 0, _ => by simp [leavesA, fitsB]
 | m + 1, h => by
  rw [leavesA, Nat.succ_mul, List.take_add]
  exact fitsB_append (flatAB hl m fun i hi => h i (by omega)) (h m (by omega))
theorem flatB {B : Nat} {w : World} {base : Nat} {sp : Nat → Bool} {held : Bool} : ∀ (fuel n : Nat) {t : TypeId} {ls : List Leaf} {cs : List Value} {x : DataW H × List MemPlace},
    leaves P n t = some ls → DataW.trod enc P w base sp held fuel t cs = some x → (∀ m ∈ x.1.weights P t, m ≤ B) → fitsB B ls cs
 | 0, _, _, _, _, _, _, h, _ => by simp [DataW.trod] at h
 | _, 0, _, _, _, _, h, _, _ => by cases h
 | fuel + 1, n + 1, t, ls, cs, x, hl, h, hb => by
  have ih : ∀ {t : TypeId} {ls : List Leaf} {cs : List Value} {x : DataW H × List MemPlace}, leaves P n t = some ls → DataW.trod enc P w base sp held fuel t cs = some x → (∀ m ∈ x.1.weights P t, m ≤ B) → fitsB B ls cs := fun h1 h2 h3 => flatB fuel n h1 h2 h3
  unfold leaves at hl
  cases hu : P.underlying t with
  | none => rw [hu] at hl; cases hl
  | some u =>
   rw [hu] at hl
   cases u with
   | bool =>
    simp only [Option.some.injEq] at hl
    subst hl
    obtain ⟨b, rfl, rfl⟩ := DataW.trod_bool hu h
    exact ⟨⟨b, rfl⟩, trivial⟩
   | int k =>
    simp only [Option.some.injEq] at hl
    subst hl
    obtain ⟨m, rfl, rfl, h1⟩ := DataW.trod_int hu h
    exact ⟨⟨m, rfl, h1⟩, trivial⟩
   | string =>
    simp only [Option.some.injEq] at hl
    subst hl
    obtain ⟨s, rfl, rfl, h1⟩ := DataW.trod_string hu h
    have := hb s.data.toList.length (by simp [DataW.weights])
    exact ⟨⟨s, rfl, by simpa using this⟩, trivial⟩
   | struct fs =>
    simp only at hl
    split at hl
    ·rename_i l hf
     split at hl
     ·rename_i hlen
      obtain rfl : l = ls := Option.some.inj hl
      unfold DataW.trod at h
      simp only [hu] at h
      split at h
      ·rename_i hcs
       cases hm : fs.toList.mapM fun f => DataW.trod enc P w base sp held fuel f.type ((cs.drop f.offset).take (P.cellsOf f.type)) with
       | none => rw [hm] at h; cases h
       | some xs =>
        rw [hm] at h
        obtain rfl : (DataW.agg (xs.map (·.1)), xs.flatMap (·.2)) = x := Option.some.inj h
        have hb' : ∀ m ∈ DataW.weightsEach P (fs.toList.map (·.type)) (xs.map (·.1)), m ≤ B := fun m hm' => hb m (by simpa [DataW.weights, hu] using hm')
        have h1 := flatFB ih fs.toList 0 l hf (each_bound hm hb')
        rw [List.drop_zero, List.take_of_length_le (by omega)] at h1
        exact h1
      ·cases h
     ·cases hl
    ·cases hl
   | array m e =>
    simp only at hl
    split at hl
    ·rename_i l hf
     split at hl
     ·rename_i hlen
      obtain rfl : leavesA l m = ls := Option.some.inj hl
      unfold DataW.trod at h
      simp only [hu] at h
      split at h
      ·rename_i hcs
       cases hm : (List.range m).mapM fun i => DataW.trod enc P w base sp held fuel e ((cs.drop (i * P.cellsOf e)).take (P.cellsOf e)) with
       | none => rw [hm] at h; cases h
       | some xs =>
        rw [hm] at h
        obtain rfl : (DataW.agg (xs.map (·.1)), xs.flatMap (·.2)) = x := Option.some.inj h
        have hb' : ∀ m ∈ DataW.weightsAll P e (xs.map (·.1)), m ≤ B := fun m hm' => hb m (by simpa [DataW.weights, hu] using hm')
        have := flatAB (B := B) (cs := cs) hlen.1 m fun i hi => by
            obtain ⟨y, hy, hy2⟩ := all_bound hm hb' i (List.mem_range.2 hi)
            exact ih hf hy hy2
        rw [hlen.2, List.take_of_length_le (by omega)] at this
        exact this
      ·cases h
     ·cases hl
    ·cases hl
   | _ => simp at hl
theorem open_flatB {W : World} {r : Reach} {base : Nat} {sp0 : Nat → Bool} {t : TypeId} {v : Value} {d : DataW H} {p : List MemPlace} {ls : List Leaf} {ts : List TypeId} {ds : List (DataW H)} {j : Nat} (n : Nat)
    (hl : leaves P n t = some ls) (ha : isAggT P t = true) (hR : (DataW.weightsEach P ts ds).all (· ≤ reachBytes) = true) (ht : ts[j]? = some t) (hd : ds[j]? = some d) (hv : Value.okWide P W r base t v) (h : DataW.Trod enc P W 0 sp0 true t v d p) :
    ∃ cs : List Value, v = .agg ⟨cs⟩ ∧ p = [] ∧ fitsB reachBytes ls cs ∧ ∀ (W' : World) (sp : Nat → Bool), DataW.Trod enc P W' 0 sp true t (.agg ⟨cs⟩) d [] := by
 obtain ⟨cs, rfl, hp, _, hs⟩ := open_flat n hl ha hv h
 refine ⟨cs, rfl, hp, ?_, hs⟩
 obtain ⟨fuel, hf⟩ := h
 refine flatB fuel n hl hf fun m hm => ?_
 have := List.all_eq_true.1 hR _ (DataW.weights_mem_each ht hd m hm)
 simpa using this
end
end Go.Flat

end
section
/- The cards: what they share; closed facts of the program, each once. -/
set_option linter.unusedSimpArgs false
set_option linter.unusedVariables false
namespace Go.Proofs.YthdaimoankaciaaGreatDoor
open Go.ChangeShapes Go.WideShapes Go.ChangeAt Go.RowKit
open Go
theorem and2 {a b : Bool} (h1 : a = true) (h2 : b = true) : (a && b) = true := by rw [h1, h2]; rfl
set_option maxRecDepth 100000
theorem jf1 : laidOutB Tryz.pinned.checked.prog = true := by kernel_rfl
theorem jf2 : mapsRowed Tryz.pinned.checked.prog = true := by kernel_rfl
theorem jf3 : (Tryz.pinned.checked.prog.stops == []) = true := by kernel_rfl
theorem jf4 : (Tryz.pinned.checked.prog.stopKnobs == []) = true := by kernel_rfl
theorem jf5 : Tryz.pinned.checked.prog.plainKeys = Rows.realPrintsRow.plainKeys := by kernel_rfl
theorem jf6 : Tryz.pinned.checked.prog.stopsHeard = true := by kernel_rfl
theorem jf7 : Tryz.pinned.checked.prog.mayEnter = true := by kernel_rfl
theorem jf8 : Tryz.pinned.checked.prog.liftsFinal = Rows.realPrintsRow.lifted := by kernel_rfl
theorem jf9 : Tryz.pinned.checked.prog.make = some Rows.realPrintsRow.make := by kernel_rfl
theorem jf0 : false = Tryz.pinned.checked.prog.looks [] := by kernel_rfl
end Go.Proofs.YthdaimoankaciaaGreatDoor

end
section
/- No program in sight: the real numbers as far as they are wanted: Cauchy sequences of fractions, their order, square roots of fractions, and a checker of ring identities. -/
set_option linter.unusedSimpArgs false
set_option linter.unusedVariables false
namespace Vi
def Cau (f : Nat → Rat) : Prop := ∀ e : Rat, 0 < e → ∃ N, ∀ m, N ≤ m → ∀ n, N ≤ n → f m - f n < e
def Nul (f : Nat → Rat) : Prop := ∀ e : Rat, 0 < e → ∃ N, ∀ n, N ≤ n → f n < e ∧ -e < f n
def Pst (f : Nat → Rat) : Prop := ∃ d : Rat, 0 < d ∧ ∃ N, ∀ n, N ≤ n → d ≤ f n
def Bdd (f : Nat → Rat) : Prop := ∃ B : Rat, 0 < B ∧ ∃ N, ∀ n, N ≤ n → f n < B ∧ -B < f n
theorem half_pos {e : Rat} (h : 0 < e) : 0 < e / 2 := by grind
theorem Cau.bdd {f : Nat → Rat} (h : Cau f) : Bdd f := by
 obtain ⟨N, hN⟩ := h 1 (by decide)
 by_cases h0 : f N < 0
 ·refine ⟨1 - f N, by grind, N, fun n hn => ?_⟩
  have h1 := hN n hn N (Nat.le_refl _)
  have h2 := hN N (Nat.le_refl _) n hn
  constructor <;> grind
 ·refine ⟨1 + f N, by grind, N, fun n hn => ?_⟩
  have h1 := hN n hn N (Nat.le_refl _)
  have h2 := hN N (Nat.le_refl _) n hn
  constructor <;> grind
theorem mul_in {x y a b : Rat} (h1 : x < a) (h2 : -a < x) (h3 : y < b) (h4 : -b < y) : x * y < a * b ∧ -(a * b) < x * y := by
 have p1 : 0 < (a - x) * (b + y) := Rat.mul_pos (by grind) (by grind)
 have p2 : 0 < (a + x) * (b - y) := Rat.mul_pos (by grind) (by grind)
 have p3 : 0 < (a - x) * (b - y) := Rat.mul_pos (by grind) (by grind)
 have p4 : 0 < (a + x) * (b + y) := Rat.mul_pos (by grind) (by grind)
 constructor <;> grind
theorem Cau.const (q : Rat) : Cau fun _ => q := fun e he => ⟨0, fun _ _ _ _ => by grind⟩
theorem Cau.add {f g : Nat → Rat} (hf : Cau f) (hg : Cau g) : Cau fun n => f n + g n := fun e he => by
 obtain ⟨N, hN⟩ := hf (e / 2) (half_pos he)
 obtain ⟨M, hM⟩ := hg (e / 2) (half_pos he)
 refine ⟨N + M, fun m hm n hn => ?_⟩
 have h1 := hN m (by omega) n (by omega)
 have h2 := hM m (by omega) n (by omega)
 grind
theorem Cau.neg {f : Nat → Rat} (hf : Cau f) : Cau fun n => -f n := fun e he => by
 obtain ⟨N, hN⟩ := hf e he
 refine ⟨N, fun m hm n hn => ?_⟩
 have h1 := hN n hn m hm
 grind
theorem div_small {e B : Rat} (he : 0 < e) (hB : 0 < B) : 0 < e / B := by
 rw [Rat.div_def]; exact Rat.mul_pos he (Rat.inv_pos.2 hB)
theorem div_mul {e B : Rat} (hB : 0 < B) : e / B * B = e := by
 rw [Rat.div_def, Rat.mul_assoc, Rat.inv_mul_cancel _ (by grind), Rat.mul_one]
theorem Nul.mul {f g : Nat → Rat} (hf : Nul f) (hg : Bdd g) : Nul fun n => f n * g n := fun e he => by
 obtain ⟨B, hB, M, hM⟩ := hg
 obtain ⟨N, hN⟩ := hf (e / B) (div_small he hB)
 refine ⟨N + M, fun n hn => ?_⟩
 have h1 := hN n (by omega)
 have h2 := hM n (by omega)
 have h3 := mul_in h1.1 h1.2 h2.1 h2.2
 rw [div_mul hB] at h3
 exact h3
theorem Nul.add {f g : Nat → Rat} (hf : Nul f) (hg : Nul g) : Nul fun n => f n + g n := fun e he => by
 obtain ⟨N, hN⟩ := hf (e / 2) (half_pos he)
 obtain ⟨M, hM⟩ := hg (e / 2) (half_pos he)
 refine ⟨N + M, fun n hn => ?_⟩
 have h1 := hN n (by omega)
 have h2 := hM n (by omega)
 constructor <;> grind
theorem Nul.neg {f : Nat → Rat} (hf : Nul f) : Nul fun n => -f n := fun e he => by
 obtain ⟨N, hN⟩ := hf e he
 refine ⟨N, fun n hn => ?_⟩
 have h1 := hN n hn
 constructor <;> grind
theorem Nul.zero : Nul fun _ => 0 := fun e he => ⟨0, fun _ _ => by constructor <;> grind⟩
theorem Cau.mul {f g : Nat → Rat} (hf : Cau f) (hg : Cau g) : Cau fun n => f n * g n := fun e he => by
 obtain ⟨A, hA, M1, hM1⟩ := hf.bdd
 obtain ⟨B, hB, M2, hM2⟩ := hg.bdd
 obtain ⟨N1, h1⟩ := hf (e / 2 / B) (div_small (half_pos he) hB)
 obtain ⟨N2, h2⟩ := hg (e / 2 / A) (div_small (half_pos he) hA)
 refine ⟨M1 + M2 + N1 + N2, fun m hm n hn => ?_⟩
 have a1 := h1 m (by omega) n (by omega)
 have a2 := h1 n (by omega) m (by omega)
 have a3 := h2 m (by omega) n (by omega)
 have a4 := h2 n (by omega) m (by omega)
 have b1 := hM1 n (by omega)
 have b2 := hM2 m (by omega)
 have c1 := mul_in (x := f m - f n) a1 (by grind) b2.1 b2.2
 have c2 := mul_in (x := g m - g n) a3 (by grind) b1.1 b1.2
 rw [div_mul hB] at c1
 rw [div_mul hA] at c2
 grind
theorem Cau.tri {f : Nat → Rat} (h : Cau f) : Nul f ∨ Pst f ∨ Pst fun n => -f n := by
 apply Classical.byContradiction
 intro hc
 have hn : ¬ Nul f := fun h => hc (.inl h)
 unfold Nul at hn
 obtain ⟨e, he⟩ := Classical.not_forall.1 hn
 obtain ⟨h0, he⟩ := Classical.not_imp.1 he
 obtain ⟨N, hN⟩ := h (e / 2) (half_pos h0)
 have h1 : ∃ n, N ≤ n ∧ ¬ (f n < e ∧ -e < f n) := by
  apply Classical.byContradiction
  intro h2
  exact he ⟨N, fun n hn => Classical.byContradiction fun h3 => h2 ⟨n, hn, h3⟩⟩
 obtain ⟨n, hn, h2⟩ := h1
 by_cases h3 : f n < e
 ·refine hc (.inr (.inr ⟨e / 2, half_pos h0, N, fun m hm => ?_⟩))
  have := hN m hm n hn
  grind
 ·refine hc (.inr (.inl ⟨e / 2, half_pos h0, N, fun m hm => ?_⟩))
  have := hN n hn m hm
  grind
theorem Pst.add {f g : Nat → Rat} (hf : Pst f) (hg : Pst g) : Pst fun n => f n + g n := by
 obtain ⟨d, h0, N, h1⟩ := hf
 obtain ⟨e, h2, M, h3⟩ := hg
 refine ⟨d, h0, N + M, fun n hn => ?_⟩
 have a := h1 n (by omega)
 have b := h3 n (by omega)
 grind
theorem Pst.mul {f g : Nat → Rat} (hf : Pst f) (hg : Pst g) : Pst fun n => f n * g n := by
 obtain ⟨d, h0, N, h1⟩ := hf
 obtain ⟨e, h2, M, h3⟩ := hg
 refine ⟨d * e, Rat.mul_pos h0 h2, N + M, fun n hn => ?_⟩
 have a := h1 n (by omega)
 have b := h3 n (by omega)
 have p1 : 0 ≤ (f n - d) * g n := Rat.mul_nonneg (by grind) (by grind)
 have p2 : 0 ≤ d * (g n - e) := Rat.mul_nonneg (by grind) (by grind)
 grind
theorem Pst.addNul {f g : Nat → Rat} (hf : Pst f) (hg : Nul g) : Pst fun n => f n + g n := by
 obtain ⟨d, h0, N, h1⟩ := hf
 obtain ⟨M, h3⟩ := hg (d / 2) (half_pos h0)
 refine ⟨d / 2, half_pos h0, N + M, fun n hn => ?_⟩
 have a := h1 n (by omega)
 have b := h3 n (by omega)
 grind
theorem Pst.notNul {f : Nat → Rat} (hf : Pst f) (hg : Nul f) : False := by
 obtain ⟨d, h0, N, h1⟩ := hf
 obtain ⟨M, h3⟩ := hg d h0
 have a := h1 (N + M) (by omega)
 have b := h3 (N + M) (by omega)
 grind
structure CSeq where
 f : Nat → Rat
 c : Cau f
instance CSeq.setoid : Setoid CSeq where
 r a b := Nul fun n => a.f n - b.f n
 iseqv := {
  refl := fun a => by simpa [Rat.sub_self] using Nul.zero
  symm := fun {a b} h => by
   have := h.neg
   have e : (fun n => -(a.f n - b.f n)) = fun n => b.f n - a.f n := funext fun n => by grind
   rwa [e] at this
  trans := fun {a b c} h1 h2 => by
   have := h1.add h2
   have e : (fun n => a.f n - b.f n + (b.f n - c.f n)) = fun n => a.f n - c.f n := funext fun n => by grind
   rwa [e] at this }
def RR : Type := Quotient CSeq.setoid
namespace RR
def mk (a : CSeq) : RR := Quotient.mk CSeq.setoid a
theorem sound {a b : CSeq} (h : Nul fun n => a.f n - b.f n) : mk a = mk b := Quotient.sound h
def ofRat (q : Rat) : RR := mk ⟨fun _ => q, Cau.const q⟩
def addS (a b : CSeq) : CSeq := ⟨_, a.c.add b.c⟩
def mulS (a b : CSeq) : CSeq := ⟨_, a.c.mul b.c⟩
def negS (a : CSeq) : CSeq := ⟨_, a.c.neg⟩
def add (x y : RR) : RR := Quotient.liftOn₂ x y (fun a b => mk (addS a b)) fun a b a' b' h1 h2 => sound (by
 have := Nul.add h1 h2
 have e : (fun n => a.f n - a'.f n + (b.f n - b'.f n)) = fun n => (a.f n + b.f n) - (a'.f n + b'.f n) := funext fun n => by grind
 rwa [e] at this)
def mul (x y : RR) : RR := Quotient.liftOn₂ x y (fun a b => mk (mulS a b)) fun a b a' b' h1 h2 => sound (by
 have := Nul.add (Nul.mul h1 b.c.bdd) (Nul.mul h2 a'.c.bdd)
 have e : (fun n => (a.f n - a'.f n) * b.f n + (b.f n - b'.f n) * a'.f n) = fun n => (a.f n * b.f n) - (a'.f n * b'.f n) := funext fun n => by grind
 rwa [e] at this)
def neg (x : RR) : RR := Quotient.liftOn x (fun a => mk (negS a)) fun a a' h1 => sound (by
 have := Nul.neg h1
 have e : (fun n => -(a.f n - a'.f n)) = fun n => (-a.f n) - (-a'.f n) := funext fun n => by grind
 rwa [e] at this)
instance : Add RR := ⟨add⟩
instance : Mul RR := ⟨mul⟩
instance : Neg RR := ⟨neg⟩
instance : Sub RR := ⟨fun x y => x + -y⟩
instance : Coe Rat RR := ⟨ofRat⟩
instance (n : Nat) : OfNat RR n := ⟨ofRat ((n : Nat) : Rat)⟩
theorem sub_eq (x y : RR) : x - y = x + -y := rfl
theorem ind {p : RR → Prop} (h : ∀ a, p (mk a)) (x : RR) : p x := Quotient.ind h x
theorem same {a b : CSeq} (h : ∀ n, a.f n = b.f n) : mk a = mk b := by
 cases a; cases b
 congr 2
 exact funext h
theorem add_comm (x y : RR) : x + y = y + x := by
 induction x using ind with | h a => induction y using ind with | h b => exact same fun n => by simp only [addS]; grind
theorem add_assoc (x y z : RR) : x + y + z = x + (y + z) := by
 induction x using ind with | h a => induction y using ind with | h b => induction z using ind with | h c => exact same fun n => by simp only [addS]; grind
theorem mul_comm (x y : RR) : x * y = y * x := by
 induction x using ind with | h a => induction y using ind with | h b => exact same fun n => by simp only [mulS]; grind
theorem mul_assoc (x y z : RR) : x * y * z = x * (y * z) := by
 induction x using ind with | h a => induction y using ind with | h b => induction z using ind with | h c => exact same fun n => by simp only [mulS]; grind
theorem mul_add (x y z : RR) : x * (y + z) = x * y + x * z := by
 induction x using ind with | h a => induction y using ind with | h b => induction z using ind with | h c => exact same fun n => by simp only [mulS, addS]; grind
theorem rat_add (p q : Rat) : ofRat (p + q) = ofRat p + ofRat q := rfl
theorem rat_mul (p q : Rat) : ofRat (p * q) = ofRat p * ofRat q := rfl
theorem rat_neg (p : Rat) : ofRat (-p) = -ofRat p := rfl
theorem rat_sub (p q : Rat) : ofRat (p - q) = ofRat p - ofRat q := by rw [sub_eq, ← rat_neg, ← rat_add, Rat.sub_eq_add_neg]
theorem zero_add (x : RR) : ofRat 0 + x = x := by
 induction x using ind with | h a => exact same fun n => by simp only [addS]; grind
theorem one_mul (x : RR) : ofRat 1 * x = x := by
 induction x using ind with | h a => exact same fun n => by simp only [mulS]; grind
theorem zero_mul (x : RR) : ofRat 0 * x = ofRat 0 := by
 induction x using ind with | h a => exact same fun n => by simp only [mulS]; grind
theorem add_neg (x : RR) : x + -x = ofRat 0 := by
 induction x using ind with | h a => exact same fun n => by simp only [addS, negS]; grind
theorem neg_mul (x y : RR) : -x * y = -(x * y) := by
 induction x using ind with | h a => induction y using ind with | h b => exact same fun n => by simp only [mulS, negS]; grind
theorem neg_neg (x : RR) : - -x = x := by
 induction x using ind with | h a => exact same fun n => by simp only [negS]; grind
end RR
end Vi
namespace Vi
inductive PE where
 | v (n : Nat)
 | z (k : Int)
 | a (x y : PE)
 | m (x y : PE)
 | n (x : PE)
namespace PE
def at' (ρ : List RR) (i : Nat) : RR := match ρ, i with
 | [], _ => RR.ofRat 0
 | x :: _, 0 => x
 | _ :: l, i + 1 => at' l i
def ofInt (k : Int) : RR := RR.ofRat (k : Rat)
def ev (ρ : List RR) : PE → RR
 | .v i => at' ρ i
 | .z k => ofInt k
 | .a x y => x.ev ρ + y.ev ρ
 | .m x y => x.ev ρ * y.ev ρ
 | .n x => -x.ev ρ
def evM (ρ : List RR) : List Nat → RR
 | [] => ofInt 1
 | i :: l => at' ρ i * evM ρ l
def evP (ρ : List RR) : List (Int × List Nat) → RR
 | [] => ofInt 0
 | (k, l) :: p => ofInt k * evM ρ l + evP ρ p
def insM (i : Nat) : List Nat → List Nat
 | [] => [i]
 | j :: l => match Nat.ble i j with
  | true => i :: j :: l
  | false => j :: insM i l
def mulM : List Nat → List Nat → List Nat
 | [], q => q
 | i :: l, q => insM i (mulM l q)
def eqM : List Nat → List Nat → Bool
 | [], [] => true
 | i :: l, j :: q => match Nat.beq i j with
  | true => eqM l q
  | false => false
 | _, _ => false
def addT (k : Int) (l : List Nat) : List (Int × List Nat) → List (Int × List Nat)
 | [] => [(k, l)]
 | (k', l') :: p => match eqM l l' with
  | true => (k + k', l') :: p
  | false => (k', l') :: addT k l p
def addP : List (Int × List Nat) → List (Int × List Nat) → List (Int × List Nat)
 | [], q => q
 | (k, l) :: p, q => addT k l (addP p q)
def mulT (k : Int) (l : List Nat) : List (Int × List Nat) → List (Int × List Nat)
 | [] => []
 | (k', l') :: p => addT (k * k') (mulM l l') (mulT k l p)
def mulP : List (Int × List Nat) → List (Int × List Nat) → List (Int × List Nat)
 | [], _ => []
 | (k, l) :: p, q => addP (mulT k l q) (mulP p q)
def norm : PE → List (Int × List Nat)
 | .v i => [(1, [i])]
 | .z k => [(k, [])]
 | .a x y => addP x.norm y.norm
 | .m x y => mulP x.norm y.norm
 | .n x => mulT (-1) [] x.norm
def isZ : List (Int × List Nat) → Bool
 | [] => true
 | (k, _) :: p => match decide (k = 0) with
  | true => isZ p
  | false => false
open RR
theorem i0 (x : RR) : ofInt 0 + x = x := RR.zero_add x
theorem i1 (x : RR) : ofInt 1 * x = x := RR.one_mul x
theorem iadd (j k : Int) : ofInt (j + k) = ofInt j + ofInt k := by unfold ofInt; rw [← rat_add, Rat.intCast_add]
theorem imul (j k : Int) : ofInt (j * k) = ofInt j * ofInt k := by unfold ofInt; rw [← rat_mul, Rat.intCast_mul]
theorem ineg (j : Int) : ofInt (-j) = -ofInt j := by unfold ofInt; rw [← rat_neg, Rat.intCast_neg]
theorem add_left (x y z : RR) : x + (y + z) = y + (x + z) := by rw [← RR.add_assoc, RR.add_comm x y, RR.add_assoc]
theorem mul_left (x y z : RR) : x * (y * z) = y * (x * z) := by rw [← RR.mul_assoc, RR.mul_comm x y, RR.mul_assoc]
theorem add_mul (x y z : RR) : (x + y) * z = x * z + y * z := by rw [RR.mul_comm, RR.mul_add, RR.mul_comm z x, RR.mul_comm z y]
theorem mul0 (x : RR) : x * ofInt 0 = ofInt 0 := by rw [RR.mul_comm]; exact RR.zero_mul x
theorem ev_insM (ρ : List RR) (i : Nat) : ∀ l, evM ρ (insM i l) = at' ρ i * evM ρ l
 | [] => rfl
 | j :: l => by
  unfold insM
  split
  ·rfl
  ·show at' ρ j * evM ρ (insM i l) = at' ρ i * (at' ρ j * evM ρ l)
   rw [ev_insM ρ i l, mul_left]
theorem ev_mulM (ρ : List RR) : ∀ l q, evM ρ (mulM l q) = evM ρ l * evM ρ q
 | [], q => (i1 _).symm
 | i :: l, q => by
  show evM ρ (insM i (mulM l q)) = at' ρ i * evM ρ l * evM ρ q
  rw [ev_insM, ev_mulM ρ l q, RR.mul_assoc]
theorem eqM_eq : ∀ l q, eqM l q = true → l = q
 | [], [], _ => rfl
 | i :: l, j :: q, h => by
  unfold eqM at h
  split at h
  ·rename_i h1
   rw [Nat.eq_of_beq_eq_true h1, eqM_eq l q h]
  ·cases h
 | [], _ :: _, h => by simp [eqM] at h
 | _ :: _, [], h => by simp [eqM] at h
theorem ev_addT (ρ : List RR) (k : Int) (l : List Nat) : ∀ p, evP ρ (addT k l p) = ofInt k * evM ρ l + evP ρ p
 | [] => rfl
 | (k', l') :: p => by
  unfold addT
  split
  ·rename_i h
   rw [eqM_eq l l' h]
   show ofInt (k + k') * evM ρ l' + evP ρ p = ofInt k * evM ρ l' + (ofInt k' * evM ρ l' + evP ρ p)
   rw [iadd, add_mul, RR.add_assoc]
  ·show ofInt k' * evM ρ l' + evP ρ (addT k l p) = ofInt k * evM ρ l + (ofInt k' * evM ρ l' + evP ρ p)
   rw [ev_addT ρ k l p, add_left]
theorem ev_addP (ρ : List RR) : ∀ p q, evP ρ (addP p q) = evP ρ p + evP ρ q
 | [], q => (i0 _).symm
 | (k, l) :: p, q => by
  show evP ρ (addT k l (addP p q)) = ofInt k * evM ρ l + evP ρ p + evP ρ q
  rw [ev_addT, ev_addP ρ p q, RR.add_assoc]
theorem ev_mulT (ρ : List RR) (k : Int) (l : List Nat) : ∀ p, evP ρ (mulT k l p) = ofInt k * evM ρ l * evP ρ p
 | [] => (mul0 _).symm
 | (k', l') :: p => by
  show evP ρ (addT (k * k') (mulM l l') (mulT k l p)) = ofInt k * evM ρ l * (ofInt k' * evM ρ l' + evP ρ p)
  rw [ev_addT, ev_mulT ρ k l p, ev_mulM, imul, RR.mul_add]
  congr 1
  rw [RR.mul_assoc, RR.mul_assoc, mul_left (ofInt k')]
theorem ev_mulP (ρ : List RR) : ∀ p q, evP ρ (mulP p q) = evP ρ p * evP ρ q
 | [], q => (RR.zero_mul _).symm
 | (k, l) :: p, q => by
  show evP ρ (addP (mulT k l q) (mulP p q)) = (ofInt k * evM ρ l + evP ρ p) * evP ρ q
  rw [ev_addP, ev_mulT, ev_mulP ρ p q, add_mul]
theorem ev_norm (ρ : List RR) : ∀ e : PE, evP ρ e.norm = e.ev ρ
 | .v i => by
  show ofInt 1 * (at' ρ i * ofInt 1) + ofInt 0 = at' ρ i
  rw [RR.add_comm, i0, i1, RR.mul_comm, i1]
 | .z k => by
  show ofInt k * ofInt 1 + ofInt 0 = ofInt k
  rw [RR.add_comm, i0, RR.mul_comm, i1]
 | .a x y => by
  show evP ρ (addP x.norm y.norm) = x.ev ρ + y.ev ρ
  rw [ev_addP, ev_norm ρ x, ev_norm ρ y]
 | .m x y => by
  show evP ρ (mulP x.norm y.norm) = x.ev ρ * y.ev ρ
  rw [ev_mulP, ev_norm ρ x, ev_norm ρ y]
 | .n x => by
  show evP ρ (mulT (-1) [] x.norm) = -x.ev ρ
  rw [ev_mulT, ev_norm ρ x]
  show ofInt (-1) * ofInt 1 * x.ev ρ = -x.ev ρ
  rw [ineg, RR.mul_assoc, i1, RR.neg_mul, i1]
theorem ev_isZ (ρ : List RR) : ∀ p, isZ p = true → evP ρ p = ofInt 0
 | [], _ => rfl
 | (k, l) :: p, h => by
  unfold isZ at h
  split at h
  ·rename_i h1
   obtain rfl := of_decide_eq_true h1
   show ofInt 0 * evM ρ l + evP ρ p = ofInt 0
   rw [ev_isZ ρ p h, RR.add_comm, i0]
   exact RR.zero_mul _
  ·cases h
end PE
class AtR (ρ : List RR) (x : RR) (i : outParam Nat) : Prop where
 eq : PE.at' ρ i = x
instance (x : RR) (l : List RR) : AtR (x :: l) x 0 := ⟨rfl⟩
instance (priority := low) (x y : RR) (l : List RR) (i : Nat) [h : AtR l x i] : AtR (y :: l) x (i + 1) := ⟨h.eq⟩
class QtR (ρ : List RR) (x : RR) (e : outParam PE) : Prop where
 eq : e.ev ρ = x
instance (priority := low) (ρ : List RR) (x : RR) (i : Nat) [h : AtR ρ x i] : QtR ρ x (.v i) := ⟨h.eq⟩
instance (ρ : List RR) (x y : RR) (e f : PE) [h : QtR ρ x e] [g : QtR ρ y f] : QtR ρ (x + y) (.a e f) := ⟨by show e.ev ρ + f.ev ρ = _; rw [h.eq, g.eq]⟩
instance (ρ : List RR) (x y : RR) (e f : PE) [h : QtR ρ x e] [g : QtR ρ y f] : QtR ρ (x * y) (.m e f) := ⟨by show e.ev ρ * f.ev ρ = _; rw [h.eq, g.eq]⟩
instance (ρ : List RR) (x y : RR) (e f : PE) [h : QtR ρ x e] [g : QtR ρ y f] : QtR ρ (x - y) (.a e (.n f)) := ⟨by show e.ev ρ + -f.ev ρ = _; rw [h.eq, g.eq]; rfl⟩
instance (ρ : List RR) (x : RR) (e : PE) [h : QtR ρ x e] : QtR ρ (-x) (.n e) := ⟨by show -e.ev ρ = _; rw [h.eq]⟩
instance (ρ : List RR) (n : Nat) : QtR ρ (no_index (OfNat.ofNat n : RR)) (.z n) := ⟨rfl⟩
instance (ρ : List RR) (p q : Rat) (e f : PE) [h : QtR ρ (RR.ofRat p) e] [g : QtR ρ (RR.ofRat q) f] : QtR ρ (RR.ofRat (p + q)) (.a e f) := ⟨by show e.ev ρ + f.ev ρ = _; rw [h.eq, g.eq]; rfl⟩
instance (ρ : List RR) (p q : Rat) (e f : PE) [h : QtR ρ (RR.ofRat p) e] [g : QtR ρ (RR.ofRat q) f] : QtR ρ (RR.ofRat (p * q)) (.m e f) := ⟨by show e.ev ρ * f.ev ρ = _; rw [h.eq, g.eq]; rfl⟩
instance (ρ : List RR) (p q : Rat) (e f : PE) [h : QtR ρ (RR.ofRat p) e] [g : QtR ρ (RR.ofRat q) f] : QtR ρ (RR.ofRat (p - q)) (.a e (.n f)) := ⟨by show e.ev ρ + -f.ev ρ = _; rw [h.eq, g.eq, RR.rat_sub]; rfl⟩
instance (ρ : List RR) (p : Rat) (e : PE) [h : QtR ρ (RR.ofRat p) e] : QtR ρ (RR.ofRat (-p)) (.n e) := ⟨by show -e.ev ρ = _; rw [h.eq]; rfl⟩
instance (ρ : List RR) (n : Nat) : QtR ρ (RR.ofRat (no_index (OfNat.ofNat n))) (.z n) := ⟨rfl⟩
namespace RR
theorem sub_zero' {x y : RR} (h : x + -y = ofRat 0) : x = y := by
 have : x + -y + y = ofRat 0 + y := by rw [h]
 rwa [add_assoc, add_comm (-y) y, add_neg, zero_add, add_comm, zero_add] at this
theorem ring (ρ : List RR) {x y : RR} {e f : PE} [h1 : QtR ρ x e] [h2 : QtR ρ y f] (h : PE.isZ (PE.norm (.a e (.n f))) = true) : x = y := by
 have := PE.ev_isZ ρ _ h
 rw [PE.ev_norm] at this
 have h3 : x + -y = ofRat 0 := by
  rw [← h1.eq, ← h2.eq]; exact this
 exact sub_zero' h3
theorem ring1 (ρ : List RR) {l r : RR} (hl : l = r) (k : RR) {x y : RR} {e f g u v : PE} [h1 : QtR ρ x e] [h2 : QtR ρ y f] [h3 : QtR ρ l u] [h4 : QtR ρ r v] [h5 : QtR ρ k g] (h : PE.isZ (PE.norm (.a (.a e (.n f)) (.n (.m g (.a u (.n v)))))) = true) : x = y := by
 have := PE.ev_isZ ρ _ h
 rw [PE.ev_norm] at this
 have h6 : (x + -y) + -(k * (l + -r)) = ofRat 0 := by
  rw [← h1.eq, ← h2.eq, ← h3.eq, ← h4.eq, ← h5.eq]; exact this
 rw [hl, add_neg, mul_comm, zero_mul] at h6
 have h7 : -(ofRat 0) = ofRat 0 := by have := add_neg (ofRat 0); rwa [zero_add] at this
 rw [h7, add_comm, zero_add] at h6
 exact sub_zero' h6
theorem ring2 (ρ : List RR) {l r : RR} (hl : l = r) (k : RR) {l' r' : RR} (hl' : l' = r') (k' : RR) {x y : RR} {e f g u v g' u' v' : PE} [h1 : QtR ρ x e] [h2 : QtR ρ y f] [h3 : QtR ρ l u] [h4 : QtR ρ r v] [h5 : QtR ρ k g] [h3' : QtR ρ l' u'] [h4' : QtR ρ r' v'] [h5' : QtR ρ k' g'] (h : PE.isZ (PE.norm (.a (.a (.a e (.n f)) (.n (.m g (.a u (.n v))))) (.n (.m g' (.a u' (.n v')))))) = true) : x = y := by
 have := PE.ev_isZ ρ _ h
 rw [PE.ev_norm] at this
 have h6 : ((x + -y) + -(k * (l + -r))) + -(k' * (l' + -r')) = ofRat 0 := by
  rw [← h1.eq, ← h2.eq, ← h3.eq, ← h4.eq, ← h5.eq, ← h3'.eq, ← h4'.eq, ← h5'.eq]; exact this
 have h7 : -(ofRat 0) = ofRat 0 := by have := add_neg (ofRat 0); rwa [zero_add] at this
 rw [hl, hl', add_neg, add_neg, mul_comm, zero_mul, mul_comm, zero_mul, h7, add_comm, zero_add, add_comm, zero_add] at h6
 exact sub_zero' h6
example (x y : RR) (p : Rat) : (x + y) * (x - ofRat (p + 2)) = x * x + y * x - (2 * x + p * x) - p * y - 2 * y := ring [x, y, p] (by decide +kernel)
end RR
end Vi
namespace Vi
namespace RR
def pos (x : RR) : Prop := Quotient.liftOn x (fun a => Pst a.f) fun a b h => propext ⟨fun p => by
    have := p.addNul (Nul.neg h)
    have e : (fun n => a.f n + -(a.f n - b.f n)) = b.f := funext fun n => by grind
    rwa [e] at this, fun p => by
    have := p.addNul h
    have e : (fun n => b.f n + (a.f n - b.f n)) = a.f := funext fun n => by grind
    rwa [e] at this⟩
instance : LT RR := ⟨fun x y => pos (y - x)⟩
instance : LE RR := ⟨fun x y => ¬ y < x⟩
theorem lt_iff {x y : RR} : x < y ↔ pos (y - x) := Iff.rfl
theorem pos_add {x y : RR} : pos x → pos y → pos (x + y) := by
 induction x using ind with | h a => induction y using ind with | h b => exact fun h1 h2 => Pst.add h1 h2
theorem pos_mul {x y : RR} : pos x → pos y → pos (x * y) := by
 induction x using ind with | h a => induction y using ind with | h b => exact fun h1 h2 => Pst.mul h1 h2
theorem pos_zero : ¬ pos (ofRat 0) := fun h => Pst.notNul (f := fun _ => 0) h Nul.zero
theorem pos_tri (x : RR) : x = 0 ∨ pos x ∨ pos (-x) := by
 induction x using ind with | h a =>
 rcases a.c.tri with h | h | h
 ·left
  exact sound (by
   have e : (fun n => a.f n - 0) = a.f := funext fun n => by grind
   have : Nul fun n => a.f n - 0 := by rw [e]; exact h
   exact this)
 ·exact .inr (.inl h)
 ·exact .inr (.inr h)
theorem pos_rat (q : Rat) : pos (ofRat q) ↔ 0 < q := by
 constructor
 ·intro h
  obtain ⟨d, h0, N, h1⟩ := (h : Pst fun _ => q)
  have := h1 N (Nat.le_refl _)
  grind
 ·intro h
  exact (⟨q, h, 0, fun _ _ => Rat.le_refl⟩ : Pst fun _ => q)
theorem zero_lt {x : RR} : 0 < x ↔ pos x := by
 rw [lt_iff, ring (x := x - 0) (y := x) [x] (by decide +kernel)]
theorem lt_of_pos {x y : RR} (t : RR) (h : 0 < t) (e : y - x = t) : x < y := by
 rw [lt_iff, e]; exact zero_lt.1 h
theorem lt_zero {x : RR} : x < 0 ↔ 0 < -x := by
 rw [zero_lt, lt_iff, ring (x := 0 - x) (y := -x) [x] (by decide +kernel)]
theorem sub_pos {x y : RR} : 0 < y - x ↔ x < y := by rw [zero_lt]; rfl
theorem lt_irrefl (x : RR) : ¬ x < x := fun h => by
 rw [lt_iff, ring (x := x - x) (y := ofRat 0) [x] (by decide +kernel)] at h
 exact pos_zero h
theorem lt_trans {x y z : RR} (h1 : x < y) (h2 : y < z) : x < z := by
 have := pos_add h1 h2
 rwa [ring (x := y - x + (z - y)) (y := z - x) [x, y, z] (by decide +kernel)] at this
theorem tri (x y : RR) : x < y ∨ x = y ∨ y < x := by
 rcases pos_tri (y - x) with h | h | h
 ·exact .inr (.inl (ring1 [x, y] h (-1) (by decide +kernel)))
 ·exact .inl h
 ·refine .inr (.inr ?_)
  rwa [ring (x := -(y - x)) (y := x - y) [x, y] (by decide +kernel)] at h
theorem le_refl (x : RR) : x ≤ x := lt_irrefl x
theorem le_of_lt {x y : RR} (h : x < y) : x ≤ y := fun h2 => lt_irrefl _ (lt_trans h h2)
theorem le_of_eq {x y : RR} (h : x = y) : x ≤ y := h ▸ le_refl x
theorem lt_or_eq {x y : RR} (h : x ≤ y) : x < y ∨ x = y := by
 rcases tri x y with h1 | h1 | h1
 ·exact .inl h1
 ·exact .inr h1
 ·exact absurd h1 h
theorem le_trans {x y z : RR} (h1 : x ≤ y) (h2 : y ≤ z) : x ≤ z := by
 rcases lt_or_eq h1 with h1 | rfl
 ·rcases lt_or_eq h2 with h2 | rfl
  ·exact le_of_lt (lt_trans h1 h2)
  ·exact le_of_lt h1
 ·exact h2
theorem lt_of_lt_of_le {x y z : RR} (h1 : x < y) (h2 : y ≤ z) : x < z := by
 rcases lt_or_eq h2 with h2 | rfl
 ·exact lt_trans h1 h2
 ·exact h1
theorem lt_of_le_of_lt {x y z : RR} (h1 : x ≤ y) (h2 : y < z) : x < z := by
 rcases lt_or_eq h1 with h1 | rfl
 ·exact lt_trans h1 h2
 ·exact h2
theorem le_antisymm {x y : RR} (h1 : x ≤ y) (h2 : y ≤ x) : x = y := by
 rcases lt_or_eq h1 with h1 | h1
 ·exact absurd h1 h2
 ·exact h1
theorem not_lt {x y : RR} : ¬ x < y ↔ y ≤ x := Iff.rfl
theorem not_le {x y : RR} : ¬ x ≤ y ↔ y < x := Classical.not_not
theorem le_total (x y : RR) : x ≤ y ∨ y ≤ x := by
 rcases tri x y with h | h | h
 ·exact .inl (le_of_lt h)
 ·exact .inl (le_of_eq h)
 ·exact .inr (le_of_lt h)
theorem ne_of_lt {x y : RR} (h : x < y) : x ≠ y := fun e => lt_irrefl x (by rw [← e] at h; exact h)
theorem add_pos {x y : RR} (h1 : 0 < x) (h2 : 0 < y) : 0 < x + y := zero_lt.2 (pos_add (zero_lt.1 h1) (zero_lt.1 h2))
theorem mul_pos {x y : RR} (h1 : 0 < x) (h2 : 0 < y) : 0 < x * y := zero_lt.2 (pos_mul (zero_lt.1 h1) (zero_lt.1 h2))
theorem mul_neg {x y : RR} (h1 : 0 < x) (h2 : y < 0) : x * y < 0 := by
 rw [lt_zero] at *
 have := mul_pos h1 h2
 rwa [ring (x := x * -y) (y := -(x * y)) [x, y] (by decide +kernel)] at this
theorem mul_neg_neg {x y : RR} (h1 : x < 0) (h2 : y < 0) : 0 < x * y := by
 rw [lt_zero] at *
 have := mul_pos h1 h2
 rwa [ring (x := -x * -y) (y := x * y) [x, y] (by decide +kernel)] at this
theorem add_nonneg {x y : RR} (h1 : 0 ≤ x) (h2 : 0 ≤ y) : 0 ≤ x + y := by
 rcases lt_or_eq h1 with h1 | rfl
 ·rcases lt_or_eq h2 with h2 | rfl
  ·exact le_of_lt (add_pos h1 h2)
  ·rw [ring (x := x + 0) (y := x) [x] (by decide +kernel)]; exact le_of_lt h1
 ·rw [ring (x := 0 + y) (y := y) [y] (by decide +kernel)]; exact h2
theorem add_pos_of_nonneg {x y : RR} (h1 : 0 < x) (h2 : 0 ≤ y) : 0 < x + y := by
 rcases lt_or_eq h2 with h2 | rfl
 ·exact add_pos h1 h2
 ·rw [ring (x := x + 0) (y := x) [x] (by decide +kernel)]; exact h1
theorem mul_nonneg {x y : RR} (h1 : 0 ≤ x) (h2 : 0 ≤ y) : 0 ≤ x * y := by
 rcases lt_or_eq h1 with h1 | rfl
 ·rcases lt_or_eq h2 with h2 | rfl
  ·exact le_of_lt (mul_pos h1 h2)
  ·rw [ring (x := x * 0) (y := 0) [x] (by decide +kernel)]; exact le_refl _
 ·rw [ring (x := 0 * y) (y := 0) [y] (by decide +kernel)]; exact le_refl _
theorem sub_nonneg {x y : RR} : 0 ≤ y - x ↔ x ≤ y := by
 rw [← not_lt, ← not_lt, lt_zero, ring (x := -(y - x)) (y := x - y) [x, y] (by decide +kernel), sub_pos]
theorem le_of_nonneg {x y : RR} (t : RR) (h : 0 ≤ t) (e : y - x = t) : x ≤ y := by
 rw [← sub_nonneg, e]; exact h
theorem mul_ne {x y : RR} (hx : x ≠ 0) (hy : y ≠ 0) : x * y ≠ 0 := by
 rcases tri x 0 with h | h | h
 ·rcases tri y 0 with g | g | g
  ·exact (ne_of_lt (mul_neg_neg h g)).symm
  ·exact absurd g hy
  ·rw [mul_comm]; exact ne_of_lt (mul_neg g h)
 ·exact absurd h hx
 ·rcases tri y 0 with g | g | g
  ·exact ne_of_lt (mul_neg h g)
  ·exact absurd g hy
  ·exact (ne_of_lt (mul_pos h g)).symm
theorem rat_lt {p q : Rat} : ofRat p < ofRat q ↔ p < q := by
 rw [lt_iff, ← rat_sub, pos_rat]
 constructor <;> intro h <;> grind
theorem rat_le {p q : Rat} : ofRat p ≤ ofRat q ↔ p ≤ q := by
 rw [← not_lt, rat_lt, Rat.not_lt]
theorem rat_inj {p q : Rat} (h : ofRat p = ofRat q) : p = q := by
 have h1 : ¬ p < q := fun g => ne_of_lt (rat_lt.2 g) h
 have h2 : ¬ q < p := fun g => ne_of_lt (rat_lt.2 g) h.symm
 exact Rat.le_antisymm (Rat.not_lt.1 h2) (Rat.not_lt.1 h1)
end RR
noncomputable def sgR (x : RR) : Int := open Classical in if 0 < x then 1 else if x < 0 then -1 else 0
namespace RR
theorem sg_pos {x : RR} (h : 0 < x) : sgR x = 1 := if_pos h
theorem sg_neg {x : RR} (h : x < 0) : sgR x = -1 := by unfold sgR; rw [if_neg (le_of_lt h), if_pos h]
theorem sg_zero {x : RR} (h : x = 0) : sgR x = 0 := by subst h; unfold sgR; rw [if_neg (lt_irrefl 0), if_neg (lt_irrefl 0)]
theorem sg_cases (x : RR) : (sgR x = -1 ∧ x < 0) ∨ (sgR x = 0 ∧ x = 0) ∨ (sgR x = 1 ∧ 0 < x) := by
 rcases tri x 0 with h | h | h
 ·exact .inl ⟨sg_neg h, h⟩
 ·exact .inr (.inl ⟨sg_zero h, h⟩)
 ·exact .inr (.inr ⟨sg_pos h, h⟩)
theorem sg_mul (x y : RR) : sgR (x * y) = sgR x * sgR y := by
 rcases sg_cases x with ⟨h1, h⟩ | ⟨h1, rfl⟩ | ⟨h1, h⟩ <;> rcases sg_cases y with ⟨g1, g⟩ | ⟨g1, rfl⟩ | ⟨g1, g⟩ <;> simp only [h1, g1]
 ·exact sg_pos (mul_neg_neg h g)
 ·exact sg_zero (ring [x] (by decide +kernel))
 ·rw [mul_comm]; exact sg_neg (mul_neg g h)
 ·exact sg_zero (ring [y] (by decide +kernel))
 ·exact sg_zero (ring [] (by decide +kernel))
 ·exact sg_zero (ring [y] (by decide +kernel))
 ·exact sg_neg (mul_neg h g)
 ·exact sg_zero (ring [x] (by decide +kernel))
 ·exact sg_pos (mul_pos h g)
theorem sg_opp (x : RR) : sgR (-x) = -sgR x := by
 rw [ring (x := -x) (y := ofRat (-1) * x) [x] (by decide +kernel), sg_mul, sg_neg (x := ofRat (-1)) (rat_lt.2 (by decide))]
 omega
theorem sg_iff0 {x : RR} : sgR x = 0 ↔ x = 0 := by
 rcases sg_cases x with ⟨h1, h⟩ | ⟨h1, h⟩ | ⟨h1, h⟩ <;> rw [h1]
 ·exact ⟨fun e => by omega, fun e => absurd e (ne_of_lt h)⟩
 ·exact ⟨fun _ => h, fun _ => rfl⟩
 ·exact ⟨fun e => by omega, fun e => absurd e.symm (ne_of_lt h)⟩
theorem sg_iff1 {x : RR} : sgR x = 1 ↔ 0 < x := by
 rcases sg_cases x with ⟨h1, h⟩ | ⟨h1, rfl⟩ | ⟨h1, h⟩ <;> rw [h1]
 ·exact ⟨fun e => by omega, fun e => absurd e (le_of_lt h)⟩
 ·exact ⟨fun e => by omega, fun e => absurd e (lt_irrefl _)⟩
 ·exact ⟨fun _ => h, fun _ => rfl⟩
theorem sg_iff2 {x : RR} : sgR x = -1 ↔ x < 0 := by
 rcases sg_cases x with ⟨h1, h⟩ | ⟨h1, rfl⟩ | ⟨h1, h⟩ <;> rw [h1]
 ·exact ⟨fun _ => h, fun _ => rfl⟩
 ·exact ⟨fun e => by omega, fun e => absurd e (lt_irrefl _)⟩
 ·exact ⟨fun e => by omega, fun e => absurd e (le_of_lt h)⟩
theorem sg_add_same {x y : RR} (h : sgR x = sgR y ∨ sgR y = 0) : sgR (x + y) = sgR x := by
 rcases h with h | h
 ·rcases sg_cases y with ⟨g1, g⟩ | ⟨g1, g⟩ | ⟨g1, g⟩ <;> rw [g1] at h
  ·have h2 := sg_iff2.1 h
   rw [h]
   refine sg_iff2.2 ?_
   rw [lt_zero] at *
   have := add_pos h2 g
   rwa [ring (x := -x + -y) (y := -(x + y)) [x, y] (by decide +kernel)] at this
  ·obtain rfl := sg_iff0.1 h
   subst g
   rw [ring (x := (0 : RR) + 0) (y := 0) [] (by decide +kernel)]
  ·rw [h]
   exact sg_iff1.2 (add_pos (sg_iff1.1 h) g)
 ·obtain rfl := sg_iff0.1 h
  rw [ring (x := x + 0) (y := x) [x] (by decide +kernel)]
theorem sg_add_diff {x y : RR} (h : sgR x = -sgR y) (h0 : sgR x ≠ 0) : sgR (x + y) = sgR x * sgR (x * x - y * y) := by
 have e : x * x - y * y = (x + y) * (x - y) := ring [x, y] (by decide +kernel)
 have h1 : sgR (x - y) = sgR x := by
  rw [sub_eq]
  refine sg_add_same (.inl ?_)
  rw [sg_opp]; exact h
 rw [e, sg_mul, h1]
 rcases sg_cases x with ⟨g1, _⟩ | ⟨g1, _⟩ | ⟨g1, _⟩ <;> rw [g1] at h0 ⊢ <;> omega
end RR
end Vi
namespace Vi
theorem rsq_ex (r : Rat) (hr : 0 ≤ r) (n : Nat) : ∃ u : Rat, 0 ≤ u ∧ u * u ≤ r ∧ r < (u + 1 / ((n + 1 : Nat) : Rat)) * (u + 1 / ((n + 1 : Nat) : Rat)) := by
 obtain ⟨d, hd⟩ : ∃ d : Rat, d = ((n + 1 : Nat) : Rat) := ⟨_, rfl⟩
 have d0 : 0 < d := by rw [hd]; exact_mod_cast Nat.succ_pos n
 rw [← hd]
 obtain ⟨X, hX⟩ : ∃ X : Rat, X = r * (d * d) := ⟨_, rfl⟩
 have x0 : 0 ≤ X := by rw [hX]; exact Rat.mul_nonneg hr (Rat.le_of_lt (Rat.mul_pos d0 d0))
 have f0 : 0 ≤ X.floor := Rat.le_floor_iff.2 x0
 have root : ∀ N : Nat, ∃ s : Nat, s * s ≤ N ∧ N < (s + 1) * (s + 1) := by
  intro N
  induction N with
  | zero => exact ⟨0, by omega⟩
  | succ N ih =>
   obtain ⟨s, h1, h2⟩ := ih
   by_cases h : N + 1 < (s + 1) * (s + 1)
   ·exact ⟨s, by omega, h⟩
   ·refine ⟨s + 1, by omega, ?_⟩
    have e : (s + 1 + 1) * (s + 1 + 1) = (s + 1) * (s + 1) + 2 * s + 3 := by grind
    omega
 obtain ⟨s, h1, h2⟩ := root X.floor.toNat
 obtain ⟨S, hS⟩ : ∃ S : Rat, S = (s : Rat) := ⟨_, rfl⟩
 have S0 : 0 ≤ S := by rw [hS]; exact_mod_cast Nat.zero_le s
 have a1 : S * S ≤ X := by
  have h3 : ((s * s : Nat) : Int) ≤ X.floor := by omega
  have h4 := Rat.le_floor_iff.1 h3
  rw [hS]
  have h5 : (((s * s : Nat) : Int) : Rat) = (s : Rat) * (s : Rat) := by push_cast; rfl
  rwa [h5] at h4
 have a2 : X < (S + 1) * (S + 1) := by
  have h3 : X.floor < (((s + 1) * (s + 1) : Nat) : Int) := by omega
  have h4 := Rat.floor_lt_iff.1 h3
  have h5 : ((((s + 1) * (s + 1) : Nat) : Int) : Rat) = ((s : Rat) + 1) * ((s : Rat) + 1) := by push_cast; rfl
  rw [h5] at h4
  rw [hS]; exact h4
 have di : d * d⁻¹ = 1 := Rat.mul_inv_cancel _ (by grind)
 have i0 : 0 < d⁻¹ := Rat.inv_pos.2 d0
 have hr2 : r = X * (d⁻¹ * d⁻¹) := by rw [hX]; grind
 refine ⟨S * d⁻¹, Rat.mul_nonneg S0 (Rat.le_of_lt i0), ?_, ?_⟩
 ·have := Rat.mul_nonneg (show 0 ≤ X - S * S by grind) (Rat.le_of_lt (Rat.mul_pos i0 i0))
  grind
 ·have := Rat.mul_pos (show 0 < (S + 1) * (S + 1) - X by grind) (Rat.mul_pos i0 i0)
  have e : (1 : Rat) / d = d⁻¹ := by rw [Rat.div_def, Rat.one_mul]
  rw [e]
  grind
theorem small_inv (e : Rat) (he : 0 < e) : ∃ N : Nat, ∀ n : Nat, N ≤ n → 1 / ((n + 1 : Nat) : Rat) < e := by
 refine ⟨e⁻¹.floor.toNat, fun n hn => ?_⟩
 obtain ⟨d, hd⟩ : ∃ d : Rat, d = ((n + 1 : Nat) : Rat) := ⟨_, rfl⟩
 have d0 : 0 < d := by rw [hd]; exact_mod_cast Nat.succ_pos n
 have h1 : e⁻¹ < d := by
  have : e⁻¹.floor < ((n + 1 : Nat) : Int) := by omega
  have := Rat.floor_lt_iff.1 this
  rw [hd]; exact_mod_cast this
 rw [← hd, Rat.div_def, Rat.one_mul]
 have i0 : 0 < d⁻¹ := Rat.inv_pos.2 d0
 have e0 : 0 < e⁻¹ := Rat.inv_pos.2 he
 have := Rat.mul_pos (show 0 < d - e⁻¹ by grind) (Rat.mul_pos i0 he)
 have x1 : d * d⁻¹ = 1 := Rat.mul_inv_cancel _ (by grind)
 have x2 : e * e⁻¹ = 1 := Rat.mul_inv_cancel _ (by grind)
 generalize e⁻¹ = e' at *
 generalize d⁻¹ = d' at *
 clear hd hn h1
 rw [show (d - e') * (d' * e) = (d * d') * e - (e * e') * d' by grind, x1, x2] at this
 grind
theorem lt_of_sq {a b : Rat} (hb : 0 ≤ b) (h : a * a < b * b) : a < b := by
 apply Rat.not_le.1
 intro hc
 have := Rat.mul_nonneg (show 0 ≤ a - b by grind) (show 0 ≤ a + b by grind)
 grind
noncomputable def sqSeq (r : Rat) (hr : 0 ≤ r) (n : Nat) : Rat := Classical.choose (rsq_ex r hr n)
theorem sqSeq_spec (r : Rat) (hr : 0 ≤ r) (n : Nat) : 0 ≤ sqSeq r hr n ∧ sqSeq r hr n * sqSeq r hr n ≤ r ∧ r < (sqSeq r hr n + 1 / ((n + 1 : Nat) : Rat)) * (sqSeq r hr n + 1 / ((n + 1 : Nat) : Rat)) := Classical.choose_spec (rsq_ex r hr n)
theorem one_div_pos (n : Nat) : 0 < 1 / ((n + 1 : Nat) : Rat) := by
 have d0 : (0 : Rat) < ((n + 1 : Nat) : Rat) := by exact_mod_cast Nat.succ_pos n
 rw [Rat.div_def, Rat.one_mul]; exact Rat.inv_pos.2 d0
theorem sq_cau (r : Rat) (hr : 0 ≤ r) : Cau (sqSeq r hr) := fun e he => by
 obtain ⟨N, hN⟩ := small_inv e he
 refine ⟨N, fun m hm n hn => ?_⟩
 obtain ⟨a0, a1, a2⟩ := sqSeq_spec r hr m
 obtain ⟨b0, b1, b2⟩ := sqSeq_spec r hr n
 have c1 := hN n hn
 have p := one_div_pos n
 have := lt_of_sq (a := sqSeq r hr m) (b := sqSeq r hr n + 1 / ((n + 1 : Nat) : Rat)) (by grind) (by grind)
 grind
namespace RR
open Classical in
noncomputable def sqrt (r : Rat) : RR := if hr : 0 ≤ r then mk ⟨sqSeq r hr, sq_cau r hr⟩ else 0
theorem sqrt_nonneg (r : Rat) : 0 ≤ sqrt r := by
 unfold sqrt
 split
 ·rename_i hr
  rw [← not_lt, lt_zero, zero_lt]
  intro h
  obtain ⟨d, d0, N, hN⟩ := (h : Pst fun n => -(sqSeq r hr n))
  have h1 : d ≤ -(sqSeq r hr N) := hN N (Nat.le_refl _)
  have h2 := (sqSeq_spec r hr N).1
  grind
 ·exact le_refl _
theorem sqrt_sq (r : Rat) (hr : 0 ≤ r) : sqrt r * sqrt r = r := by
 unfold sqrt
 rw [dif_pos hr]
 refine sound (b := ⟨fun _ => r, Cau.const r⟩) ?_
 have goal : Nul fun n => sqSeq r hr n * sqSeq r hr n - r := by
  intro e he
  obtain ⟨B, hB, M, hM⟩ := (sq_cau r hr).bdd
  have hC : 0 < 2 * B + 1 := by grind
  obtain ⟨N, hN⟩ := small_inv (e / (2 * B + 1)) (div_small he hC)
  obtain ⟨N1, hN1⟩ := small_inv 1 (by decide)
  refine ⟨M + N + N1, fun n hn => ?_⟩
  obtain ⟨b0, b1, b2⟩ := sqSeq_spec r hr n
  have c1 := hM n (by omega)
  have c2 := hN n (by omega)
  have c3 := hN1 n (by omega)
  have c4 := one_div_pos n
  have c5 := div_mul (e := e) hC
  show sqSeq r hr n * sqSeq r hr n - r < e ∧ -e < sqSeq r hr n * sqSeq r hr n - r
  generalize sqSeq r hr n = u at *
  generalize 1 / ((n + 1 : Nat) : Rat) = t at *
  generalize e / (2 * B + 1) = q at *
  have d1 := Rat.mul_pos (show 0 < q - t by grind) hC
  have d2 := Rat.mul_pos c4 (show 0 < B - u by grind)
  have d3 := Rat.mul_pos c4 (show 0 < 1 - t by grind)
  constructor <;> grind
 exact goal
theorem sqrt_pos {r : Rat} (h : 0 < r) : 0 < sqrt r := by
 rcases lt_or_eq (sqrt_nonneg r) with h1 | h1
 ·exact h1
 ·exfalso
  have h2 := sqrt_sq r (Rat.le_of_lt h)
  rw [← h1, ring (x := (0 : RR) * 0) (y := ofRat 0) [] (by decide +kernel)] at h2
  have := rat_inj h2
  rw [← this] at h
  exact Rat.lt_irrefl h
theorem sqrt_zero : sqrt 0 = 0 := by
 have h2 := sqrt_sq 0 (by decide)
 rcases tri (sqrt 0) 0 with h | h | h
 ·exact absurd h (sqrt_nonneg 0)
 ·exact h
 ·exact absurd (mul_pos h h) (by rw [h2]; exact lt_irrefl _)
theorem sg_sqrt {r : Rat} (h : 0 ≤ r) : sgR (sqrt r) = sgR (ofRat r) := by
 rcases tri (ofRat r) 0 with g | g | g
 ·exact absurd (rat_lt.1 g) (Rat.not_lt.2 h)
 ·have : r = 0 := rat_inj g
  subst this
  rw [sqrt_zero]; rfl
 ·rw [sg_pos g, sg_pos (sqrt_pos (rat_lt.1 g))]
end RR
end Vi

end
section
/- No program in sight: the numbers p + sqrt r and p - sqrt r: signs, comparison, the canonical form. -/
set_option linter.unusedSimpArgs false
set_option linter.unusedVariables false
namespace Vi
open RR
def sgQ (a : Rat) : Int := if a < 0 then -1 else if a = 0 then 0 else 1
theorem sgQ_cases (a : Rat) : (sgQ a = -1 ∧ a < 0) ∨ (sgQ a = 0 ∧ a = 0) ∨ (sgQ a = 1 ∧ 0 < a) := by
 unfold sgQ
 by_cases h : a < 0
 ·exact .inl ⟨if_pos h, h⟩
 ·rw [if_neg h]
  by_cases h2 : a = 0
  ·exact .inr (.inl ⟨if_pos h2, h2⟩)
  ·exact .inr (.inr ⟨if_neg h2, by grind⟩)
theorem sg_rat (a : Rat) : sgR (ofRat a) = sgQ a := by
 rcases sgQ_cases a with ⟨h1, h⟩ | ⟨h1, rfl⟩ | ⟨h1, h⟩ <;> rw [h1]
 ·exact RR.sg_neg (rat_lt.2 h)
 ·exact RR.sg_zero rfl
 ·exact sg_pos (rat_lt.2 h)
def signF (a b r : Rat) : Int :=
 if sgQ b * sgQ r = 0 ∨ sgQ a = sgQ b * sgQ r then sgQ a else if sgQ a = 0 then sgQ b * sgQ r else sgQ a * sgQ (a * a - b * b * r)
theorem signF_eq (a b r : Rat) (hr : 0 ≤ r) : signF a b r = sgR (ofRat a + ofRat b * sqrt r) := by
 have hn : sgR (ofRat b * sqrt r) = sgQ b * sgQ r := by rw [sg_mul, sg_sqrt hr, sg_rat, sg_rat]
 have hm := sg_rat a
 unfold signF
 rw [← hn, ← hm, ← sg_rat (a * a - b * b * r)]
 split
 ·rename_i h
  rcases h with h | h
  ·exact (sg_add_same (.inr h)).symm
  ·exact (sg_add_same (.inl h)).symm
 ·rename_i h
  split
  ·rename_i h0
   have := sg_iff0.1 h0
   rw [this, ring (x := 0 + ofRat b * sqrt r) (y := ofRat b * sqrt r) [b, sqrt r] (by decide +kernel)]
  ·rename_i h0
   rw [sg_add_diff ?_ h0]
   ·have e : ofRat a * ofRat a - ofRat b * sqrt r * (ofRat b * sqrt r) = ofRat (a * a - b * b * r) :=
      ring1 [a, b, r, sqrt r] (sqrt_sq r hr) (-(b * b)) (by decide +kernel)
    rw [e]
   ·rcases sg_cases (ofRat a) with ⟨g1, _⟩ | ⟨g1, _⟩ | ⟨g1, _⟩ <;> rcases sg_cases (ofRat b * sqrt r) with ⟨g2, _⟩ | ⟨g2, _⟩ | ⟨g2, _⟩ <;> rw [g1, g2] at h ⊢ <;> simp_all
theorem RR.sqrt_unique {r : Rat} (hr : 0 ≤ r) {u : RR} (h0 : 0 ≤ u) (h : u * u = ofRat r) : sqrt r = u := by
 have h2 := sqrt_sq r hr
 have e : (sqrt r - u) * (sqrt r + u) = 0 := by
  have : (sqrt r - u) * (sqrt r + u) = sqrt r * sqrt r - u * u := ring [sqrt r, u] (by decide +kernel)
  rw [this, h2, h]; exact ring [r] (by decide +kernel)
 by_cases h3 : sqrt r - u = 0
 ·exact ring1 [sqrt r, u] h3 1 (by decide +kernel)
 ·by_cases h4 : sqrt r + u = 0
  ·
   rcases lt_or_eq h0 with g | g
   ·have := add_pos_of_nonneg g (sqrt_nonneg r)
    rw [RR.add_comm, h4] at this
    exact absurd this (lt_irrefl 0)
   ·rw [← g] at h4 ⊢
    exact ring1 [sqrt r] h4 1 (by decide +kernel)
  ·exact absurd e (mul_ne h3 h4)
theorem RR.sqrt_mul {p q : Rat} (hp : 0 ≤ p) (hq : 0 ≤ q) : sqrt (p * q) = sqrt p * sqrt q := by
 refine RR.sqrt_unique (Rat.mul_nonneg hp hq) (RR.mul_nonneg (sqrt_nonneg p) (sqrt_nonneg q)) ?_
 exact ring2 [sqrt p, sqrt q, p, q] (sqrt_sq p hp) (sqrt q * sqrt q) (sqrt_sq q hq) p (by decide +kernel)
theorem RR.sqrt_sqr {q : Rat} (hq : 0 ≤ q) : sqrt (q * q) = ofRat q := RR.sqrt_unique (Rat.mul_nonneg hq hq) (rat_le.2 hq) rfl
structure Rl where
 p : Rat
 r : Rat
 neg : Bool
namespace Rl
def s (x : Rl) : Rat := if x.neg then -1 else 1
def Ok (x : Rl) : Prop := (x.r = 0 ∧ x.neg = false) ∨ (0 < x.r ∧ ∀ q : Rat, q * q ≠ x.r)
theorem Ok.nonneg {x : Rl} (h : x.Ok) : 0 ≤ x.r := by
 rcases h with ⟨h, _⟩ | ⟨h, _⟩
 ·rw [h]; exact Rat.le_refl
 ·exact Rat.le_of_lt h
theorem s_sq (x : Rl) : x.s * x.s = 1 := by unfold s; split <;> decide +kernel
theorem s_cases (x : Rl) : (x.neg = true ∧ x.s = -1) ∨ (x.neg = false ∧ x.s = 1) := by
 unfold s; cases x.neg <;> simp
noncomputable def val (x : Rl) : RR := ofRat x.p + ofRat x.s * sqrt x.r
noncomputable def cmp (x y : Rl) : Int := sgR (x.val - y.val)
def rat (q : Rat) : Rl := ⟨q, 0, false⟩
theorem rat_ok (q : Rat) : (rat q).Ok := .inl ⟨rfl, rfl⟩
theorem rat_val (q : Rat) : (rat q).val = ofRat q := by
 unfold val
 show ofRat q + ofRat (rat q).s * sqrt 0 = ofRat q
 rw [sqrt_zero]; exact ring [ofRat q, ofRat (rat q).s] (by decide +kernel)
def cmpF (x y : Rl) : Int :=
 if sgQ (-y.s) * sgQ y.r = 0 ∨ signF (x.p - y.p) x.s x.r = sgQ (-y.s) * sgQ y.r then signF (x.p - y.p) x.s x.r
 else if signF (x.p - y.p) x.s x.r = 0 then sgQ (-y.s) * sgQ y.r
 else signF (x.p - y.p) x.s x.r * signF ((x.p - y.p) * (x.p - y.p) + x.r - y.r) (2 * ((x.p - y.p) * x.s)) x.r
theorem opp_of {x y : RR} (h : ¬ (sgR y = 0 ∨ sgR x = sgR y)) (h0 : ¬ sgR x = 0) : sgR x = -sgR y := by
 rcases sg_cases x with ⟨g1, _⟩ | ⟨g1, _⟩ | ⟨g1, _⟩ <;> rcases sg_cases y with ⟨g2, _⟩ | ⟨g2, _⟩ | ⟨g2, _⟩ <;> rw [g1, g2] at h ⊢ <;> simp_all
theorem cmpF_eq (x y : Rl) (hx : 0 ≤ x.r) (hy : 0 ≤ y.r) : cmpF x y = cmp x y := by
 have hn : sgR (ofRat (-y.s) * sqrt y.r) = sgQ (-y.s) * sgQ y.r := by rw [sg_mul, sg_sqrt hy, sg_rat, sg_rat]
 have hm := signF_eq (x.p - y.p) x.s x.r hx
 unfold cmpF cmp
 have e : x.val - y.val = (ofRat (x.p - y.p) + ofRat x.s * sqrt x.r) + ofRat (-y.s) * sqrt y.r := by
  unfold val
  exact ring [x.p, y.p, x.s, y.s, sqrt x.r, sqrt y.r] (by decide +kernel)
 rw [e, ← hn, hm]
 split
 ·rename_i h
  rcases h with h | h
  ·exact (sg_add_same (.inr h)).symm
  ·exact (sg_add_same (.inl h)).symm
 ·rename_i h
  split
  ·rename_i h0
   have := sg_iff0.1 h0
   rw [this, ring (x := 0 + ofRat (-y.s) * sqrt y.r) (y := ofRat (-y.s) * sqrt y.r) [y.s, sqrt y.r] (by decide +kernel)]
  ·rename_i h0
   rw [sg_add_diff (opp_of h h0) h0, signF_eq _ _ _ hx]
   congr 2
   have s1 : ofRat x.s * ofRat x.s = 1 := by rw [← rat_mul, s_sq]; rfl
   have s2 : ofRat y.s * ofRat y.s = 1 := by rw [← rat_mul, s_sq]; rfl
   have r1 := sqrt_sq x.r hx
   have r2 := sqrt_sq y.r hy
   have t1 : ofRat x.s * sqrt x.r * (ofRat x.s * sqrt x.r) = x.r := ring2 [x.s, sqrt x.r, x.r] s1 (sqrt x.r * sqrt x.r) r1 1 (by decide +kernel)
   have t2 : ofRat y.s * sqrt y.r * (ofRat y.s * sqrt y.r) = y.r := ring2 [y.s, sqrt y.r, y.r] s2 (sqrt y.r * sqrt y.r) r2 1 (by decide +kernel)
   exact ring2 [x.p, y.p, x.s, sqrt x.r, y.s, sqrt y.r, x.r, y.r] t1 (-1) t2 1 (by decide +kernel)
def rootsF (s : Int) (a : Rat) (t : Int) (b : Rat) : Int :=
 if s * sgQ a ≠ t * sgQ b then (if s * sgQ a > t * sgQ b then 1 else -1) else s * sgQ a * sgQ (a - b)
def si (x : Rl) : Int := if x.neg then -1 else 1
theorem si_s (x : Rl) : sgQ x.s = x.si := by unfold s si; cases x.neg <;> decide
theorem si_rat (x : Rl) : ((x.si : Int) : Rat) = x.s := by unfold s si; cases x.neg <;> rfl
theorem sg_sub_cases {u v : RR} : sgR (u - v) = if sgR u ≠ sgR v then (if sgR u > sgR v then 1 else -1) else sgR u * sgR (u * u - v * v) := by
 split
 ·rename_i h
  rcases sg_cases u with ⟨g1, h1⟩ | ⟨g1, h1⟩ | ⟨g1, h1⟩ <;> rcases sg_cases v with ⟨g2, h2⟩ | ⟨g2, h2⟩ | ⟨g2, h2⟩ <;> rw [g1, g2] at h ⊢ <;> simp at h <;> simp
  ·refine sg_iff2.2 ?_
   rw [h2, ring (x := u - 0) (y := u) [u] (by decide +kernel)]; exact h1
  ·refine sg_iff2.2 ?_
   rw [lt_zero] at h1 ⊢
   rw [ring (x := -(u - v)) (y := -u + v) [u, v] (by decide +kernel)]; exact add_pos h1 h2
  ·refine sg_iff1.2 ?_
   rw [lt_zero] at h2
   rw [h1, ring (x := 0 - v) (y := -v) [v] (by decide +kernel)]; exact h2
  ·refine sg_iff2.2 ?_
   rw [lt_zero, h1, ring (x := -(0 - v)) (y := v) [v] (by decide +kernel)]; exact h2
  ·refine sg_iff1.2 ?_
   rw [lt_zero] at h2
   rw [sub_eq]; exact add_pos h1 h2
  ·refine sg_iff1.2 ?_
   rw [h2, ring (x := u - 0) (y := u) [u] (by decide +kernel)]; exact h1
 ·rename_i h
  have h : sgR u = sgR v := Classical.not_not.1 h
  by_cases h0 : sgR u = 0
  ·rw [h0] at h ⊢
   have h1 := sg_iff0.1 h0
   have h2 := sg_iff0.1 h.symm
   rw [h1, h2, ring (x := (0 : RR) - 0) (y := 0) [] (by decide +kernel), sg_zero rfl, Int.zero_mul]
  ·have := sg_add_diff (x := u) (y := -v) (by rw [sg_opp, h]; omega) h0
   rw [← sub_eq] at this
   rw [this, ring (x := -v * -v) (y := v * v) [v] (by decide +kernel)]
theorem sr_sq (x : Rl) (hx : 0 ≤ x.r) : ofRat x.s * sqrt x.r * (ofRat x.s * sqrt x.r) = x.r := by
 have s1 : ofRat x.s * ofRat x.s = 1 := by rw [← rat_mul, s_sq]; rfl
 exact ring2 [x.s, sqrt x.r, x.r] s1 (sqrt x.r * sqrt x.r) (sqrt_sq x.r hx) 1 (by decide +kernel)
theorem sr_sg (x : Rl) (hx : 0 ≤ x.r) : sgR (ofRat x.s * sqrt x.r) = x.si * sgQ x.r := by rw [sg_mul, sg_sqrt hx, sg_rat, sg_rat, si_s]
theorem rootsF_eq (x y : Rl) (hx : 0 ≤ x.r) (hy : 0 ≤ y.r) : rootsF x.si x.r y.si y.r = sgR (ofRat x.s * sqrt x.r - ofRat y.s * sqrt y.r) := by
 rw [sg_sub_cases, sr_sg x hx, sr_sg y hy, sr_sq x hx, sr_sq y hy, ← rat_sub, sg_rat]
 rfl
def cmpF3 (x y : Rl) : Int :=
 if sgQ (x.p - y.p) = rootsF x.si x.r y.si y.r ∨ rootsF x.si x.r y.si y.r = 0 then sgQ (x.p - y.p)
 else if sgQ (x.p - y.p) = 0 then rootsF x.si x.r y.si y.r
 else if signF ((x.p - y.p) * (x.p - y.p) - (x.r + y.r)) ((2 * x.si * y.si : Int) : Rat) (x.r * y.r) > 0 then sgQ (x.p - y.p)
 else if signF ((x.p - y.p) * (x.p - y.p) - (x.r + y.r)) ((2 * x.si * y.si : Int) : Rat) (x.r * y.r) < 0 then rootsF x.si x.r y.si y.r
 else 0
theorem cmpF3_eq (x y : Rl) (hx : 0 ≤ x.r) (hy : 0 ≤ y.r) : cmpF3 x y = cmp x y := by
 have e : x.val - y.val = ofRat (x.p - y.p) + (ofRat x.s * sqrt x.r - ofRat y.s * sqrt y.r) := by
  unfold val
  exact ring [x.p, y.p, x.s, y.s, sqrt x.r, sqrt y.r] (by decide +kernel)
 unfold cmpF3 cmp
 rw [e, rootsF_eq x y hx hy, ← sg_rat (x.p - y.p), signF_eq _ _ _ (Rat.mul_nonneg hx hy)]
 have h2 : ((2 * x.si * y.si : Int) : Rat) = 2 * x.s * y.s := by push_cast; rw [si_rat, si_rat]
 rw [h2]
 have h3 : ofRat (x.p - y.p) * ofRat (x.p - y.p) - (ofRat x.s * sqrt x.r - ofRat y.s * sqrt y.r) * (ofRat x.s * sqrt x.r - ofRat y.s * sqrt y.r) = ofRat ((x.p - y.p) * (x.p - y.p) - (x.r + y.r)) + ofRat (2 * x.s * y.s) * sqrt (x.r * y.r) := by
  rw [sqrt_mul hx hy]
  exact ring2 [x.p, y.p, x.s, y.s, sqrt x.r, sqrt y.r, x.r, y.r] (sr_sq x hx) (-1) (sr_sq y hy) (-1) (by decide +kernel)
 rw [← h3]
 generalize ofRat (x.p - y.p) = d
 generalize ofRat x.s * sqrt x.r - ofRat y.s * sqrt y.r = t
 split
 ·rename_i h
  rcases h with h | h
  ·exact (sg_add_same (.inl h)).symm
  ·exact (sg_add_same (.inr h)).symm
 ·rename_i h
  have h : ¬ (sgR t = 0 ∨ sgR d = sgR t) := fun g => h g.symm
  split
  ·rename_i h0
   rw [sg_iff0.1 h0, ring (x := 0 + t) (y := t) [t] (by decide +kernel)]
  ·rename_i h0
   have ho := opp_of h h0
   rw [sg_add_diff ho h0]
   rcases sg_cases (d * d - t * t) with ⟨g1, _⟩ | ⟨g1, _⟩ | ⟨g1, _⟩ <;> rw [g1] <;> simp <;> omega
theorem inj {x y : Rl} (hx : x.Ok) (hy : y.Ok) (h : x.val = y.val) : x = y := by
 have x0 := hx.nonneg
 have y0 := hy.nonneg
 obtain ⟨d, hd⟩ : ∃ d, d = x.p - y.p := ⟨_, rfl⟩
 have e : ofRat d + ofRat x.s * sqrt x.r = ofRat y.s * sqrt y.r := by
  unfold val at h
  rw [hd]
  exact ring1 [x.p, y.p, x.s, y.s, sqrt x.r, sqrt y.r] h 1 (by decide +kernel)
 have e2 : ofRat d + ofRat x.s * sqrt x.r - ofRat y.s * sqrt y.r = 0 := by rw [e]; exact ring [y.s, sqrt y.r] (by decide +kernel)
 have sq : ofRat (2 * d * x.s) * sqrt x.r = ofRat (y.r - x.r - d * d) := by
  have q1 := sr_sq x x0
  have q2 := sr_sq y y0
  have : (ofRat d + ofRat x.s * sqrt x.r) * (ofRat d + ofRat x.s * sqrt x.r) = y.r := by rw [e, q2]
  exact ring2 [d, x.s, sqrt x.r, x.r, y.r] this 1 q1 (-1) (by decide +kernel)
 by_cases hd0 : d = 0
 ·subst hd0
  have hp : x.p = y.p := by grind
  have hr : x.r = y.r := by
   have q1 := sr_sq x x0
   have q2 := sr_sq y y0
   rw [← e, ring (x := (ofRat 0 + ofRat x.s * sqrt x.r) * (ofRat 0 + ofRat x.s * sqrt x.r)) (y := ofRat x.s * sqrt x.r * (ofRat x.s * sqrt x.r)) [x.s, sqrt x.r] (by decide +kernel), q1] at q2
   exact rat_inj q2
  have hn : x.neg = y.neg := by
   rcases hx with ⟨a, b⟩ | ⟨a, b⟩
   ·rcases hy with ⟨c, d⟩ | ⟨c, d⟩
    ·rw [b, d]
    ·rw [← hr, a] at c; exact absurd c Rat.lt_irrefl
   ·have hs := sqrt_pos a
    rw [← hr] at e
    have : (ofRat x.s - ofRat y.s) * sqrt x.r = 0 := ring1 [x.s, y.s, sqrt x.r] e 1 (by decide +kernel)
    have hxy : ofRat x.s - ofRat y.s = 0 := by
     apply Classical.byContradiction
     intro hc
     exact mul_ne hc (ne_of_lt hs).symm this
    rw [← rat_sub] at hxy
    have hxy := rat_inj (q := 0) hxy
    rcases s_cases x with ⟨a1, a2⟩ | ⟨a1, a2⟩ <;> rcases s_cases y with ⟨b1, b2⟩ | ⟨b1, b2⟩ <;> rw [a2, b2] at hxy <;> rw [a1, b1]
    ·exact absurd hxy (by decide +kernel)
    ·exact absurd hxy (by decide +kernel)
  cases x; cases y
  simp_all
 ·
  exfalso
  have hc : 2 * d * x.s ≠ 0 := by
   have := s_sq x
   intro h0
   have : 2 * d * (x.s * x.s) = 0 := by grind
   grind
  obtain ⟨w, hw⟩ : ∃ w : Rat, w = (y.r - x.r - d * d) / (2 * d * x.s) := ⟨_, rfl⟩
  have hw2 : 2 * d * x.s * w = y.r - x.r - d * d := by
   rw [hw, Rat.div_def, Rat.mul_comm, Rat.mul_assoc, Rat.inv_mul_cancel _ hc, Rat.mul_one]
  have hs : sqrt x.r = ofRat w := by
   have h1 : ofRat (2 * d * x.s) * (sqrt x.r - ofRat w) = 0 := by
    rw [← hw2] at sq
    exact ring1 [d, x.s, w, sqrt x.r] sq 1 (by decide +kernel)
   apply Classical.byContradiction
   intro hne
   refine mul_ne (fun h => hc (rat_inj h)) (fun h => hne ?_) h1
   exact ring1 [sqrt x.r, w] h 1 (by decide +kernel)
  have hww : w * w = x.r := by
   have := sqrt_sq x.r x0
   rw [hs] at this
   exact rat_inj this
  rcases hx with ⟨a, b⟩ | ⟨a, b⟩
  ·
   rw [a] at hww
   have w0 : w = 0 := by rcases Rat.mul_eq_zero.1 hww with h | h <;> exact h
   have hyr : y.r = d * d := by rw [w0, a] at hw2; grind
   rcases hy with ⟨c, _⟩ | ⟨c, f⟩
   ·have : d * d = 0 := by rw [← hyr, c]
    rcases Rat.mul_eq_zero.1 this with h | h <;> exact hd0 h
   ·exact f d hyr.symm
  ·exact b w hww
end Rl
end Vi

end
section
/- No program in sight: whole parts of numbers with a root. -/
set_option linter.unusedSimpArgs false
set_option linter.unusedVariables false
namespace Vi
open RR
namespace RR
theorem sq_lt {u v : RR} (hu : 0 ≤ u) (hv : 0 ≤ v) (h : u * u < v * v) : u < v := by
 have hu := hu
 rw [← not_le]
 intro hc
 refine absurd h (not_lt.2 (le_of_nonneg ((u - v) * (u + v)) (mul_nonneg (sub_nonneg.2 hc) (add_nonneg hu hv)) (ring [u, v] (by decide +kernel))))
theorem sq_le {u v : RR} (hu : 0 ≤ u) (hv : 0 ≤ v) (h : u * u ≤ v * v) : u ≤ v := by
 rw [← not_lt]
 intro hc
 have h1 := sub_pos.2 hc
 have h2 : 0 < u + v := lt_of_lt_of_le (lt_of_le_of_lt hv hc) (le_of_nonneg v hv (ring [u, v] (by decide +kernel)))
 exact absurd h (not_le.2 (lt_of_pos ((u - v) * (u + v)) (mul_pos h1 h2) (ring [u, v] (by decide +kernel))))
theorem mul_lt_iff {d u v : RR} (hd : 0 < d) : d * u < d * v ↔ u < v := by
 rw [← sub_pos, ← sub_pos (x := u), ring (x := d * v - d * u) (y := d * (v - u)) [d, u, v] (by decide +kernel)]
 constructor
 ·intro h
  rcases tri (v - u) 0 with g | g | g
  ·exact absurd h (le_of_lt (mul_neg hd g))
  ·rw [g, ring (x := d * 0) (y := 0) [d] (by decide +kernel)] at h; exact absurd h (lt_irrefl 0)
  ·exact g
 ·exact mul_pos hd
theorem mul_le_iff {d u v : RR} (hd : 0 < d) : d * u ≤ d * v ↔ u ≤ v := by
 rw [← not_lt, ← not_lt, mul_lt_iff hd]
def IsFl (v : RR) (n : Int) : Prop := ofRat n ≤ v ∧ v < ofRat ((n + 1 : Int) : Rat)
theorem IsFl.unique {v : RR} {m n : Int} (h1 : IsFl v m) (h2 : IsFl v n) : m = n := by
 have a := rat_lt.1 (lt_of_le_of_lt h1.1 h2.2)
 have b := rat_lt.1 (lt_of_le_of_lt h2.1 h1.2)
 have a : m < n + 1 := by exact_mod_cast a
 have b : n < m + 1 := by exact_mod_cast b
 omega
end RR
theorem rat_mul_den (p : Rat) : p * (p.den : Rat) = (p.num : Rat) := by
 have h := Rat.num_divInt_den p
 rw [Rat.divInt_eq_div] at h
 have hd : ((p.den : Int) : Rat) ≠ 0 := by have := p.den_nz; exact_mod_cast this
 have e : ((p.den : Int) : Rat) = (p.den : Rat) := rfl
 rw [e] at h hd
 generalize (p.den : Rat) = d at *
 generalize (p.num : Rat) = n at *
 rw [← h, Rat.div_def, Rat.mul_assoc, Rat.inv_mul_cancel _ hd, Rat.mul_one]
theorem isq_real (X r : Nat) (h1 : r * r ≤ X) (h2 : X < (r + 1) * (r + 1)) : ofRat (r : Rat) ≤ RR.sqrt (X : Rat) ∧ RR.sqrt (X : Rat) < ofRat ((r : Rat) + 1) := by
 have hX : (0 : Rat) ≤ (X : Rat) := by exact_mod_cast Nat.zero_le X
 have hr : (0 : Rat) ≤ (r : Rat) := by exact_mod_cast Nat.zero_le r
 constructor
 ·refine sq_le (rat_le.2 hr) (sqrt_nonneg _) ?_
  rw [sqrt_sq _ hX, ← rat_mul, rat_le]
  exact_mod_cast h1
 ·refine sq_lt (sqrt_nonneg _) (rat_le.2 (by grind)) ?_
  rw [sqrt_sq _ hX, ← rat_mul, rat_lt]
  exact_mod_cast h2
namespace Rl
noncomputable def topI (isq : Nat → Nat) (x : Rl) : Int :=
 if x.neg then x.p.num * x.r.den - ((isq ((x.p.den * x.p.den : Int) * (x.r.num * x.r.den)).toNat : Nat) + 1 : Int) else x.p.num * x.r.den + (isq ((x.p.den * x.p.den : Int) * (x.r.num * x.r.den)).toNat : Nat)
noncomputable def flI (isq : Nat → Nat) (x : Rl) : Int := topI isq x / (x.p.den * x.r.den)
theorem flI_ok (isq : Nat → Nat) (hq : ∀ X, isq X * isq X ≤ X ∧ X < (isq X + 1) * (isq X + 1)) (x : Rl) (hx : x.Ok) : IsFl x.val (flI isq x) := by
 have hd : (0 : Int) < x.p.den := by have := x.p.den_nz; omega
 have hb : (0 : Int) < x.r.den := by have := x.r.den_nz; omega
 have hr := hx.nonneg
 have ha : 0 ≤ x.r.num := Rat.num_nonneg.2 hr
 obtain ⟨D, hD⟩ : ∃ D : Int, D = x.p.den * x.r.den := ⟨_, rfl⟩
 have hD0 : 0 < D := by rw [hD]; exact Int.mul_pos hd hb
 obtain ⟨X, hX⟩ : ∃ X : Nat, X = ((x.p.den * x.p.den : Int) * (x.r.num * x.r.den)).toNat := ⟨_, rfl⟩
 have hXi : (X : Int) = (x.p.den * x.p.den : Int) * (x.r.num * x.r.den) := by
  rw [hX]; exact Int.toNat_of_nonneg (Int.mul_nonneg (Int.le_of_lt (Int.mul_pos hd hd)) (Int.mul_nonneg ha (Int.le_of_lt hb)))
 obtain ⟨g1, g2⟩ := hq X
 obtain ⟨r, hrt⟩ : ∃ r, r = isq X := ⟨_, rfl⟩
 rw [← hrt] at g1 g2
 obtain ⟨w1, w2⟩ := isq_real X r g1 g2
 have hpe : x.p * (x.p.den : Rat) = (x.p.num : Rat) := rat_mul_den x.p
 have hre : x.r * (x.r.den : Rat) = (x.r.num : Rat) := rat_mul_den x.r
 have hDr : ((D : Int) : Rat) = (x.p.den : Rat) * (x.r.den : Rat) := by rw [hD]; push_cast; rfl
 have hXr : (X : Rat) = ((x.p.den : Rat) * (x.r.den : Rat)) * ((x.p.den : Rat) * (x.r.den : Rat)) * x.r := by
  have : ((X : Int) : Rat) = ((x.p.den * x.p.den : Int) * (x.r.num * x.r.den) : Int) := by rw [hXi]
  have e2 : ((X : Int) : Rat) = (X : Rat) := rfl
  rw [← e2, this]
  push_cast
  rw [← hre]
  grind
 have hDq : (0 : Rat) < ((D : Int) : Rat) := by exact_mod_cast hD0
 have hW : RR.sqrt (X : Rat) = ofRat ((D : Int) : Rat) * sqrt x.r := by
  rw [hXr, ← hDr, RR.sqrt_mul (Rat.mul_nonneg (Rat.le_of_lt hDq) (Rat.le_of_lt hDq)) hr, RR.sqrt_sqr (Rat.le_of_lt hDq)]
 have hN : ofRat ((D : Int) : Rat) * ofRat x.p = ofRat ((x.p.num * x.r.den : Int) : Rat) := by
  rw [← rat_mul, hDr]
  congr 1
  push_cast
  rw [← hpe]
  grind
 have hDv : ofRat ((D : Int) : Rat) * x.val = ofRat ((x.p.num * x.r.den : Int) : Rat) + ofRat x.s * RR.sqrt (X : Rat) := by
  unfold val
  rw [hW, ← hN]
  exact ring [((D : Int) : Rat), x.p, x.s, sqrt x.r] (by decide +kernel)
 have key : ofRat ((topI isq x : Int) : Rat) ≤ ofRat ((D : Int) : Rat) * x.val ∧ ofRat ((D : Int) : Rat) * x.val < ofRat ((topI isq x + 1 : Int) : Rat) := by
  rw [hDv]
  unfold topI
  rw [← hX, ← hrt]
  rcases s_cases x with ⟨n1, n2⟩ | ⟨n1, n2⟩
  ·rw [n1, n2, if_pos rfl]
   have hstrict : ofRat (r : Rat) < RR.sqrt (X : Rat) := by
    rcases lt_or_eq w1 with h | h
    ·exact h
    ·exfalso
     rcases hx with ⟨_, h2⟩ | ⟨h1, h2⟩
     ·rw [n1] at h2; cases h2
     ·refine h2 ((r : Rat) * ((D : Int) : Rat)⁻¹) ?_
      have h3 := sqrt_sq (X : Rat) (by exact_mod_cast Nat.zero_le X)
      rw [← h, ← rat_mul] at h3
      have h4 := rat_inj h3
      rw [hXr, ← hDr] at h4
      have e1 : ((D : Int) : Rat) * ((D : Int) : Rat)⁻¹ = 1 := Rat.mul_inv_cancel _ (by grind)
      generalize ((D : Int) : Rat)⁻¹ = i at *
      generalize ((D : Int) : Rat) = q at *
      generalize (r : Rat) = z at *
      have : z * i * (z * i) = (z * z) * (i * i) := by grind
      rw [this, h4]
      have : q * q * x.r * (i * i) = (q * i) * (q * i) * x.r := by grind
      rw [this, e1]; grind
   constructor
   ·refine le_of_lt (lt_of_pos (ofRat ((r : Rat) + 1) - RR.sqrt (X : Rat)) (sub_pos.2 w2) ?_)
    have e : ((x.p.num * x.r.den - ((r : Int) + 1) : Int) : Rat) = ((x.p.num * x.r.den : Int) : Rat) - ((r : Rat) + 1) := by push_cast; rfl
    rw [e]
    generalize ((x.p.num * x.r.den : Int) : Rat) = y1
    generalize RR.sqrt (X : Rat) = y2
    generalize (r : Rat) = y3
    exact ring [y1, y3, y2] (by decide +kernel)
   ·refine lt_of_pos (RR.sqrt (X : Rat) - ofRat (r : Rat)) (sub_pos.2 hstrict) ?_
    have e : ((x.p.num * x.r.den - ((r : Int) + 1) + 1 : Int) : Rat) = ((x.p.num * x.r.den : Int) : Rat) - (r : Rat) := by push_cast; grind
    rw [e]
    generalize ((x.p.num * x.r.den : Int) : Rat) = y1
    generalize RR.sqrt (X : Rat) = y2
    generalize (r : Rat) = y3
    exact ring [y1, y3, y2] (by decide +kernel)
  ·rw [n1, n2, if_neg (by simp)]
   constructor
   ·refine le_of_nonneg (RR.sqrt (X : Rat) - ofRat (r : Rat)) (sub_nonneg.2 w1) ?_
    have e : ((x.p.num * x.r.den + (r : Int) : Int) : Rat) = ((x.p.num * x.r.den : Int) : Rat) + (r : Rat) := by push_cast; rfl
    rw [e]
    generalize ((x.p.num * x.r.den : Int) : Rat) = y1
    generalize RR.sqrt (X : Rat) = y2
    generalize (r : Rat) = y3
    exact ring [y1, y3, y2] (by decide +kernel)
   ·refine lt_of_pos (ofRat ((r : Rat) + 1) - RR.sqrt (X : Rat)) (sub_pos.2 w2) ?_
    have e : ((x.p.num * x.r.den + (r : Int) + 1 : Int) : Rat) = ((x.p.num * x.r.den : Int) : Rat) + ((r : Rat) + 1) := by push_cast; grind
    rw [e]
    generalize ((x.p.num * x.r.den : Int) : Rat) = y1
    generalize RR.sqrt (X : Rat) = y2
    generalize (r : Rat) = y3
    exact ring [y1, y3, y2] (by decide +kernel)
 have hDR : 0 < ofRat ((D : Int) : Rat) := rat_lt.2 hDq
 unfold flI
 rw [← hD]
 generalize topI isq x = t at *
 have d1 := Int.mul_ediv_add_emod t D
 have d2 := Int.emod_nonneg t (show D ≠ 0 by omega)
 have d3 := Int.emod_lt_of_pos t hD0
 generalize t / D = q at *
 constructor
 ·refine (mul_le_iff hDR).1 (le_trans ?_ key.1)
  rw [← rat_mul, rat_le]
  have : D * q ≤ t := by omega
  exact_mod_cast this
 ·refine (mul_lt_iff hDR).1 (lt_of_lt_of_le key.2 ?_)
  rw [← rat_mul, rat_le]
  have : t + 1 ≤ D * (q + 1) := by rw [Int.mul_add, Int.mul_one]; omega
  exact_mod_cast this
end Rl
end Vi
namespace Vi
open RR
def Rl.ngR (x : Rl) : Rl := ⟨-x.p, x.r, !decide (x.r = 0) && !x.neg⟩
def Rl.scR (x : Rl) (q : Rat) : Rl := ⟨x.p * q, q * q * x.r, !decide (q * q * x.r = 0) && (x.neg != decide (q < 0))⟩
namespace Rl
theorem ngR_ok {x : Rl} (h : x.Ok) : x.ngR.Ok := by
 rcases h with ⟨h1, h2⟩ | ⟨h1, h2⟩
 ·exact .inl ⟨h1, by unfold ngR; simp [h1]⟩
 ·exact .inr ⟨h1, h2⟩
theorem ngR_val {x : Rl} (h : x.Ok) : x.ngR.val = -x.val := by
 rcases h with ⟨h1, h2⟩ | ⟨h1, h2⟩
 ·unfold val
  show ofRat (-x.p) + ofRat x.ngR.s * sqrt x.r = _
  rw [h1, sqrt_zero]
  exact ring [x.p, x.ngR.s, x.s] (by decide +kernel)
 ·have h3 : ¬ x.r = 0 := by grind
  have h4 : ofRat x.ngR.s = -ofRat x.s := by
   unfold ngR s
   rw [decide_eq_false h3]
   cases x.neg <;> simp [← rat_neg]
  unfold val
  rw [h4]
  show ofRat (-x.p) + -ofRat x.s * sqrt x.r = _
  exact ring [x.p, x.s, sqrt x.r] (by decide +kernel)
theorem scR_ok {x : Rl} (h : x.Ok) (q : Rat) : (x.scR q).Ok := by
 by_cases h0 : q * q * x.r = 0
 ·left
  unfold scR
  exact ⟨h0, by simp [h0]⟩
 ·right
  have hr := h.nonneg
  have hq : q ≠ 0 := fun e => h0 (by rw [e]; grind)
  have hr0 : x.r ≠ 0 := fun e => h0 (by rw [e]; grind)
  have hqq : 0 < q * q := by
   rcases sgQ_cases q with ⟨_, g⟩ | ⟨_, g⟩ | ⟨_, g⟩
   ·have := Rat.mul_pos (a := -q) (b := -q) (by grind) (by grind); grind
   ·exact absurd g hq
   ·exact Rat.mul_pos g g
  refine ⟨Rat.mul_pos hqq (by grind), fun z hz => ?_⟩
  rcases h with ⟨g, _⟩ | ⟨_, g⟩
  ·exact hr0 g
  ·refine g (z * q⁻¹) ?_
   have e1 : q * q⁻¹ = 1 := Rat.mul_inv_cancel _ hq
   have hz : z * z = q * q * x.r := hz
   have : z * q⁻¹ * (z * q⁻¹) = (z * z) * (q⁻¹ * q⁻¹) := by grind
   rw [this, hz]
   have : q * q * x.r * (q⁻¹ * q⁻¹) = (q * q⁻¹) * (q * q⁻¹) * x.r := by grind
   rw [this, e1]; grind
theorem scR_val {x : Rl} (h : x.Ok) (q : Rat) : (x.scR q).val = ofRat q * x.val := by
 have hr := h.nonneg
 by_cases h0 : q * q * x.r = 0
 ·have h1 : ofRat q * sqrt x.r = 0 := by
    rcases Rat.mul_eq_zero.1 h0 with g | g
    ·have : q = 0 := by rcases Rat.mul_eq_zero.1 g with g | g <;> exact g
     rw [this]; exact ring [sqrt x.r] (by decide +kernel)
    ·rw [g, sqrt_zero]; exact ring [q] (by decide +kernel)
  unfold val
  show ofRat (x.p * q) + ofRat (x.scR q).s * sqrt (q * q * x.r) = _
  rw [h0, sqrt_zero]
  exact ring1 [x.p, q, (x.scR q).s, x.s, sqrt x.r] h1 (-ofRat x.s) (by decide +kernel)
 ·have hs : sqrt (q * q * x.r) * ofRat (x.scR q).s = ofRat q * ofRat x.s * sqrt x.r := by
    by_cases hq : q < 0
    ·have e1 : sqrt (q * q * x.r) = ofRat (-q) * sqrt x.r := by
       rw [show q * q * x.r = (-q * -q) * x.r by grind, RR.sqrt_mul (Rat.mul_nonneg (by grind) (by grind)) hr, RR.sqrt_sqr (by grind)]
     have e2 : (x.scR q).s = -x.s := by
      unfold s scR
      rw [decide_eq_false h0, decide_eq_true hq]
      cases x.neg <;> simp
     rw [e1, e2]
     exact ring [q, x.s, sqrt x.r] (by decide +kernel)
    ·have e1 : sqrt (q * q * x.r) = ofRat q * sqrt x.r := by
       rw [RR.sqrt_mul (Rat.mul_nonneg (by grind) (by grind)) hr, RR.sqrt_sqr (by grind)]
     have e2 : (x.scR q).s = x.s := by
      unfold s scR
      rw [decide_eq_false h0, decide_eq_false hq]
      cases x.neg <;> simp
     rw [e1, e2]
     exact ring [q, x.s, sqrt x.r] (by decide +kernel)
  unfold val
  show ofRat (x.p * q) + ofRat (x.scR q).s * sqrt (q * q * x.r) = _
  exact ring1 [x.p, q, (x.scR q).s, x.s, sqrt x.r, sqrt (q * q * x.r)] hs 1 (by decide +kernel)
theorem shift_ok {x : Rl} (h : x.Ok) (q : Rat) : (⟨x.p + q, x.r, x.neg⟩ : Rl).Ok := h
theorem shift_val (x : Rl) (q : Rat) : (⟨x.p + q, x.r, x.neg⟩ : Rl).val = x.val + ofRat q := by
 unfold val s
 exact ring [x.p, q, ofRat (if x.neg = true then (-1 : Rat) else 1), sqrt x.r] (by decide +kernel)
theorem irr {x : Rl} (h : x.Ok) (h0 : x.r ≠ 0) (q : Rat) : x.val ≠ ofRat q := by
 intro e
 have := inj h (rat_ok q) (by rw [e, rat_val])
 rw [this] at h0
 exact h0 rfl
end Rl
end Vi
namespace Vi
open RR
end Vi

end
section
/- No program in sight: a region that draws its order, walked by what is known of each operation's value: of the value of operation i a fact T i holds, in its world and in every later one; each operation is shown once, from the facts of those that it waits for. Values may hang on the world. -/
namespace Go
open Go.RowKit
section
variable {P : Program} {ops : Array Oper}
theorem filter_drop_one : ∀ (L : List Nat) (p q : Nat → Bool) (i : Nat), L.Nodup → i ∈ L → p i = true → q i = false → (∀ j, j ≠ i → q j = p j) → (L.filter q).length + 1 = (L.filter p).length
 | [], _, _, _, _, hi, _, _, _ => by cases hi
 | a :: L, p, q, i, hnd, hi, hp, hq, h => by
  rw [List.nodup_cons] at hnd
  by_cases ha : a = i
  ·subst ha
   rw [List.filter_cons_of_neg (by simp [hq]), List.filter_cons_of_pos hp, List.length_cons]
   congr 2
   apply List.filter_congr
   intro j hj
   exact h j (fun e => hnd.1 (e ▸ hj))
  ·have hi2 : i ∈ L := by
     rcases List.mem_cons.1 hi with e | e
     ·exact absurd e.symm ha
     ·exact e
   have ih := filter_drop_one L p q i hnd.2 hi2 hp hq h
   by_cases hpa : p a = true
   ·rw [List.filter_cons_of_pos (by rw [h a ha]; exact hpa), List.filter_cons_of_pos hpa, List.length_cons, List.length_cons, ih]
   ·rw [List.filter_cons_of_neg (by rw [h a ha]; exact hpa), List.filter_cons_of_neg hpa, ih]
def unlisted (n : Nat) (listed : Array Bool) : Nat := ((List.range n).filter fun i => !listed.getD i true).length
theorem unlisted_set {n i : Nat} {listed : Array Bool} (hi : i < n) (hs : i < listed.size) (h : listed.getD i true = false) : unlisted n (listed.setIfInBounds i true) + 1 = unlisted n listed := by
 refine filter_drop_one _ _ _ i List.nodup_range (List.mem_range.2 hi) (by simp [h]) ?_ (fun j hj => ?_)
 ·simp [hs]
 ·show (!(listed.setIfInBounds i true).getD j true) = !listed.getD j true
  rw [getD_set_ne true (Ne.symm hj)]
theorem unlisted_zero {n : Nat} {listed : Array Bool} (h : unlisted n listed = 0) (i : Nat) (hi : i < n) : listed.getD i true = true := by
 have h1 : (List.range n).filter (fun i => !listed.getD i true) = [] := List.eq_nil_of_length_eq_zero h
 have h2 := List.filter_eq_nil_iff.1 h1 i (List.mem_range.2 hi)
 simpa using h2
theorem unlisted_pos {n : Nat} {listed : Array Bool} (h : 0 < unlisted n listed) : ∃ i, i < n ∧ listed.getD i true = false ∧ ∀ j, j < i → listed.getD j true = true := by
 have h1 : ∃ i, i < n ∧ listed.getD i true = false := by
  apply Decidable.byContradiction
  intro hne
  have : (List.range n).filter (fun i => !listed.getD i true) = [] := by
   rw [List.filter_eq_nil_iff]
   intro i hi
   have hlt := List.mem_range.1 hi
   cases hc : listed.getD i true
   ·exact absurd ⟨i, hlt, hc⟩ hne
   ·simp
  unfold unlisted at h
  rw [this] at h
  simp at h
 obtain ⟨i, hi⟩ := h1
 induction i using Nat.strongRecOn with
 | _ i ih =>
  by_cases hall : ∀ j, j < i → listed.getD j true = true
  ·exact ⟨i, hi.1, hi.2, hall⟩
  ·have ⟨j, hj⟩ : ∃ j, ¬ (j < i → listed.getD j true = true) := Classical.not_forall.1 hall
   have h2 : j < i ∧ listed.getD j true = false := by
    cases hc : listed.getD j true
    ·exact ⟨Decidable.byContradiction fun hn => hj fun hlt => absurd hlt hn, rfl⟩
    ·exact absurd (fun _ => hc) hj
   exact ih j h2.1 ⟨by omega, h2.2⟩
def Region.earlierB (md : Region.Mode) (ops : Array Oper) : Bool := (List.range ops.size).all fun i => ((ops[i]?).map fun o => o.after.all fun e => !Region.binds md e || decide (e.on < i)).getD true
theorem Region.earlier_spec {md : Region.Mode} (h : Region.earlierB md ops = true) {i : Nat} {o : Oper} (hi : ops[i]? = some o) : ∀ e ∈ o.after, Region.binds md e = true → e.on < i := by
 unfold Region.earlierB at h
 rw [List.all_eq_true] at h
 have h1 := h i (List.mem_range.2 (Array.getElem?_eq_some_iff.1 hi).1)
 rw [hi] at h1
 simp only [Option.map_some, Option.getD_some, Array.all_eq_true_iff_forall_mem] at h1
 intro e he hb
 have h2 := h1 e he
 rw [hb] at h2
 simpa using h2
def Region.head (size n : Nat) : Array Bool := (Array.range size).map fun i => decide (i < n)
theorem head_eq {md : Region.Mode} {n : Nat} {listed : Array Bool} (inv : HeadInv md ops n listed) (h : unlisted n listed = 0) : listed = Region.head ops.size n := by
 apply Array.ext_getElem?
 intro i
 unfold Region.head
 by_cases hs : i < ops.size
 ·have hs2 : i < listed.size := by rw [inv.size]; exact hs
  rw [Array.getElem?_eq_getElem hs2]
  simp only [Array.getElem?_map, Array.getElem?_range, hs, if_true, Option.map_some]
  by_cases hn : i < n
  ·have := unlisted_zero h i hn
   simp [hs2] at this
   simp [this, hn]
  ·have := inv.tail i (by omega) hs
   simp [hs2] at this
   simp [this, hn]
 ·rw [Array.getElem?_eq_none (by rw [inv.size]; omega), Array.getElem?_eq_none (by simp; omega)]
theorem Oper.wp_of_list {o : Oper} {a : Act} {w : World} {R : Act → World → Prop} {K' : Act → World → Prop} {Q' : Exit → Act → World → Prop} (hK : ∀ a w, R a w → K' a w)
    (h : o.wp P a w (fun a' w' => (Exit.normal = Exit.normal) ∧ R a' w') (fun ex a' w' => ex = .normal ∧ R a' w')) : o.wp P a w K' Q' := by
 unfold Oper.wp at *
 generalize (execOp a.eval o).run P w = r at *
 cases r with
 | ok n w' =>
  cases n <;> simp only [Oper.upon] at h ⊢
  case value => exact hK _ _ h.2
  case skip => exact hK _ _ h.2
  case defer => exact hK _ _ h.2
  case enter f args =>
   refine Calls.mono h fun e w'' he => ?_
   cases e with
   | returned v => exact hK _ _ he.2
   | panicked c => exact absurd he.1 (by simp)
   | outgrown => obtain ⟨a, w, he, _⟩ := he; cases he
  case row row args => exact Rows.mono h fun u w'' he => hK _ _ he.2
 | halt x w' =>
  cases x <;> simp only [Oper.upon] at h ⊢
  case panic u => exact absurd h.1 (by simp)
theorem wpOp_of_list {i : Nat} {o : Oper} (hi : ops[i]? = some o) {a : Act} {w : World} {R K' : Act → World → Prop} {Q' : Exit → Act → World → Prop} (hK : ∀ a w, R a w → K' a w)
    (h : wpList P ops (fun ex a' w' => ex = .normal ∧ R a' w') [o] a w) : wpOp P ops Q' i K' a w := by
 unfold wpOp
 simp only [hi]
 unfold wpList at h
 split
 ·rename_i hw
  rw [if_pos hw] at h
  rcases h with h | ⟨_, a', w', he, _⟩
  ·exact .inl (Oper.wp_of_list hK h)
  ·cases he
 ·rename_i hw
  rw [if_neg hw] at h
  exact hK _ _ h.2
theorem wpAny_inv {md : Region.Mode} {n g : Nat} {Q' : Exit → Act → World → Prop} {Inv : Array Bool → Act → World → Prop} (hn : n ≤ ops.size) (hlow : Region.earlierB md ops = true)
    (hwait : ∀ listed, HeadInv md ops n listed → 0 < unlisted n listed → ∀ j ∈ Region.ready md ops listed, j < n)
    (hstep : ∀ i, i < n → ∀ listed a w, HeadInv md ops n listed → Inv listed a w → i ∈ Region.ready md ops listed → wpOp P ops Q' i (Inv (listed.setIfInBounds i true)) a w)
    (hL : ∀ a w, Inv (Region.head ops.size n) a w → wpAny P md ops Q' g (Region.head ops.size n) a w) :
    ∀ (f : Nat) (listed : Array Bool) (a : Act) (w : World), unlisted n listed = f → HeadInv md ops n listed → Inv listed a w → wpAny P md ops Q' (f + g) listed a w
 | 0, listed, a, w, hf, inv, h => by
  rw [Nat.zero_add]
  have e := head_eq inv hf
  subst e
  exact hL a w h
 | f + 1, listed, a, w, hf, inv, h => by
  rw [show f + 1 + g = (f + g) + 1 by omega]
  refine ⟨fun h0 => ?_, fun j hj => ?_⟩
  ·exfalso
   obtain ⟨i, hi, hun, hall⟩ := unlisted_pos (n := n) (listed := listed) (by omega)
   have hlt : i < ops.size := by omega
   have hr : i ∈ Region.ready md ops listed := mem_ready.2 ⟨hun, ops[i], Array.getElem?_eq_getElem hlt, fun e he hbind => by
    have hei := Region.earlier_spec hlow (Array.getElem?_eq_getElem hlt) e he hbind
    have h1 := hall e.on hei
    have h2 : e.on < listed.size := by rw [inv.size]; omega
    simp [h2] at h1 ⊢
    exact h1⟩
   rw [h0] at hr
   cases hr
  ·have hjn := hwait listed inv (by omega) j hj
   have hun := (mem_ready.1 hj).1
   refine wpOp_mono (fun a' w' h' => ?_) (hstep j hjn listed a w inv h hj)
   exact wpAny_inv hn hlow hwait hstep hL f _ a' w' (by have := unlisted_set hjn (by rw [inv.size]; omega) hun; omega) (inv.set hj hjn) h'
theorem head_getD (m n j : Nat) (d : Bool) (h : j < m) : (Region.head m n).getD j d = decide (j < n) := by
 unfold Region.head
 simp [h]
def KindSteps (P : Program) (ops : Array Oper) (A : (Nat → Value) → Act) (C : World → Prop) (T : Nat → Value → World → Prop) : List Oper → Nat → Prop
 | [], _ => True
 | o :: l, i => (∀ xs w', C w' → (∀ j, (o.after.any fun e => Region.binds .any e && e.on == j) = true → T j (xs j) w') →
     wpList P ops (fun ex a' w'' => ex = .normal ∧ Below w'.heap.size w' w'' ∧ ∃ v, a' = A (fun j => if j = i then v else xs j) ∧ T i v w'') [o] (A xs) w') ∧ KindSteps P ops A C T l (i + 1)
theorem KindSteps.at {A : (Nat → Value) → Act} {C : World → Prop} {T : Nat → Value → World → Prop} : ∀ {l : List Oper} {k i : Nat} {o : Oper}, KindSteps P ops A C T l k → l[i]? = some o →
    ∀ xs w', C w' → (∀ j, (o.after.any fun e => Region.binds .any e && e.on == j) = true → T j (xs j) w') →
     wpList P ops (fun ex a' w'' => ex = .normal ∧ Below w'.heap.size w' w'' ∧ ∃ v, a' = A (fun j => if j = k + i then v else xs j) ∧ T (k + i) v w'') [o] (A xs) w'
 | [], _, _, _, _, h => by cases h
 | o :: l, k, 0, o', hs, h => by
  have e : o = o' := by simpa using h
  subst e
  exact hs.1
 | o :: l, k, i + 1, o', hs, h => by
  have := KindSteps.at hs.2 (i := i) (o := o') (by simpa using h)
  rw [show k + 1 + i = k + (i + 1) by omega] at this
  exact this
theorem kinds_any {l : List Oper} {n g : Nat} {Q' : Exit → Act → World → Prop} {A : (Nat → Value) → Act} {T : Nat → Value → World → Prop} {w w1 : World} {xs0 : Nat → Value} (hn : n ≤ l.toArray.size)
    (hlow : Region.earlierB .any l.toArray = true) (hT : ∀ i v w1 w2, Below w1.heap.size w1 w2 → T i v w1 → T i v w2)
    (hwait : ∀ listed, HeadInv .any l.toArray n listed → 0 < unlisted n listed → ∀ j ∈ Region.ready .any l.toArray listed, j < n)
    (hs : KindSteps P l.toArray A (fun w' => Below w.heap.size w w') T (l.take n) 0) (h1 : Below w.heap.size w w1)
    (hL : ∀ xs w', Below w.heap.size w w' → (∀ i, i < n → T i (xs i) w') → wpAny P .any l.toArray Q' g (Region.head l.toArray.size n) (A xs) w') :
    wpAny P .any l.toArray Q' (unlisted n (Array.replicate l.toArray.size false) + g) (Array.replicate l.toArray.size false) (A xs0) w1 := by
 refine wpAny_inv (Inv := fun listed a w' => Below w.heap.size w w' ∧ ∃ xs, a = A xs ∧ ∀ i, i < n → listed.getD i false = true → T i (xs i) w') hn hlow hwait ?_ ?_ _ _ _ _ rfl
  ⟨by simp, fun j oj _ hl => (by rw [getD_replicate_false] at hl; cases hl), fun t _ ht => getD_in (by simpa using ht) (getD_replicate_false _ _)⟩ ⟨h1, xs0, rfl, fun i _ hl => by rw [getD_replicate_false] at hl; cases hl⟩
 ·intro i hi listed a w' inv ⟨hw, xs, hax, hfacts⟩ hr
  subst hax
  obtain ⟨hun, o, ho, hall⟩ := mem_ready.1 hr
  have hlo : (l.take n)[i]? = some o := by
   rw [List.getElem?_take_of_lt hi]; simpa using ho
  have h := hs.at hlo xs w' hw (fun j hj => by
   rw [Array.any_eq_true] at hj
   obtain ⟨k, hk, hj⟩ := hj
   simp only [Bool.and_eq_true, beq_iff_eq] at hj
   obtain ⟨hb, rfl⟩ := hj
   have hlt := Region.earlier_spec hlow ho _ (Array.getElem_mem hk) hb
   exact hfacts _ (by omega) (hall _ (Array.getElem_mem hk) hb))
  rw [Nat.zero_add] at h
  refine wpOp_of_list ho (R := fun a' w'' => Below w'.heap.size w' w'' ∧ ∃ v, a' = A (fun j => if j = i then v else xs j) ∧ T i v w'') ?_ h
  rintro a' w'' ⟨hb, v, rfl, ht⟩
  refine ⟨hw.trans (hb.mono hw.size), _, rfl, fun j hj hl => ?_⟩
  show T j (if j = i then v else xs j) w''
  by_cases hji : j = i
  ·subst hji; rw [if_pos rfl]; exact ht
  ·rw [if_neg hji]
   rw [getD_set_ne false (Ne.symm hji)] at hl
   exact hT j _ _ _ hb (hfacts j hj hl)
 ·rintro a w' ⟨hw, xs, rfl, hfacts⟩
  refine hL xs w' hw fun i hi => hfacts i hi ?_
  have hsz : i < l.toArray.size := by omega
  rw [head_getD _ _ _ _ hsz]
  simpa using hi
theorem unlisted_all (n m : Nat) (h : n ≤ m) : unlisted n (Array.replicate m false) = n := by
 unfold unlisted
 have : (List.range n).filter (fun i => !(Array.replicate m false).getD i true) = List.range n := by
  rw [List.filter_eq_self]
  intro i hi
  have := List.mem_range.1 hi
  have h2 : i < m := by omega
  simp [h2]
 rw [this, List.length_range]
theorem wp_region_kinds {id : Nat} {Q : Exit → Act → World → Prop} {a : Act} {w : World} {l : List Oper} (A : (Nat → Value) → Act) (T : Nat → Value → World → Prop) (xs0 : Nat → Value) (hm : P.follows .mixedOrders = true)
    (hB : Region.earlierB .any l.toArray = true) (ha : a = A xs0) (hT : ∀ i v w1 w2, Below w1.heap.size w1 w2 → T i v w1 → T i v w2)
    (hs : KindSteps P l.toArray A (fun w' => Below w.heap.size w w') T l 0)
    (hend : ∀ xs w', Below w.heap.size w w' → (∀ i, i < l.length → T i (xs i) w') → Q .normal (A xs) w') : (Code.region id l.toArray true).wp P Q a w := by
 subst ha
 refine wp_region_any hm ?_
 have h := kinds_any (P := P) (l := l) (n := l.toArray.size) (g := 0) (Q' := Q) (A := A) (T := T) (w := w) (w1 := { w with drawn := w.drawn + 1 }) (xs0 := xs0) (Nat.le_refl _) hB hT
  (fun listed _ _ j hj => by obtain ⟨_, o, ho, _⟩ := mem_ready.1 hj; exact (Array.getElem?_eq_some_iff.1 ho).1)
  (by simpa using hs) ⟨rfl, rfl, rfl, Nat.le_refl _, fun _ _ => rfl⟩
  (fun xs w' hw hf => by
   refine ⟨?_, hend xs w' hw (fun i hi => hf i (by simpa using hi))⟩
   apply List.eq_nil_iff_forall_not_mem.2
   intro j hj
   obtain ⟨hun, o, ho, _⟩ := mem_ready.1 hj
   have hlt := (Array.getElem?_eq_some_iff.1 ho).1
   rw [head_getD _ _ _ _ hlt] at hun
   simp at hun hlt
   omega)
 rw [unlisted_all _ _ (Nat.le_refl _), Nat.add_zero] at h
 exact h
theorem wp_region_kinds_t {id : Nat} {Q : Exit → Act → World → Prop} {a : Act} {w : World} {l : List Oper} (n : Nat) (A : (Nat → Value) → Act) (T : Nat → Value → World → Prop) (xs0 : Nat → Value) (hm : P.follows .mixedOrders = true)
    (hB : (Region.earlierB .any l.toArray && decide (n < l.toArray.size) && Region.sinkB .any l.toArray n && Region.chainB .any l.toArray n && Region.seqB .any l.toArray (l.toArray.size - n) n (Region.head l.toArray.size n)) = true) (ha : a = A xs0)
    (hT : ∀ i v w1 w2, Below w1.heap.size w1 w2 → T i v w1 → T i v w2)
    (hs : KindSteps P l.toArray A (fun w' => Below w.heap.size w w') T (l.take n) 0)
    (hend : ∀ xs w', Below w.heap.size w w' → (∀ i, i < n → T i (xs i) w') → wpList P l.toArray Q (l.drop n) (A xs) w') : (Code.region id l.toArray true).wp P Q a w := by
 subst ha
 simp only [Bool.and_eq_true, decide_eq_true_eq] at hB
 obtain ⟨⟨⟨⟨hlow, hn⟩, hsk⟩, hc⟩, hseq⟩ := hB
 refine wp_region_any hm ?_
 have hdl : (l.drop n).length = l.toArray.size - n := by simp
 have h := kinds_any (P := P) (l := l) (n := n) (g := l.toArray.size - n) (Q' := Q) (A := A) (T := T) (w := w) (w1 := { w with drawn := w.drawn + 1 }) (xs0 := xs0) (Nat.le_of_lt hn) hlow hT
  (fun listed inv hpos j hj => by
   obtain ⟨i, hi, hun, _⟩ := unlisted_pos hpos
   exact Nat.lt_of_not_le fun h => tail_waits hsk hc hn inv _ i rfl hi hun j h hj)
  hs ⟨rfl, rfl, rfl, Nat.le_refl _, fun _ _ => rfl⟩
  (fun xs w' hw hf => by
   have h3 := wpAny_of_seq (P := P) (md := .any) (ops := l.toArray) (Q' := Q) (l.drop n) n (Region.head l.toArray.size n) (A xs) w' (fun j => by simp [List.getElem?_drop]) (by rw [hdl]; exact hseq) (hend xs w' hw hf)
   rwa [hdl] at h3)
 rw [unlisted_all _ _ (Nat.le_of_lt hn), show n + (l.toArray.size - n) = l.toArray.size by omega] at h
 exact h
def fill (a : Act) (xs : Nat → Value) : List Oper → Nat → Act
 | [], _ => a
 | o :: l, i => fill (a.put o.dst (xs i)) xs l (i + 1)
def readDst (a : Act) (o : Oper) : Value := match o.dst with
 | none => undef
 | some t => a.tmps.getD t undef
theorem put_read (a : Act) (o : Oper) : a.put o.dst (readDst a o) = a := by
 unfold readDst Act.put
 cases o.dst with
 | none => rfl
 | some t =>
  obtain ⟨tmps, defers⟩ := a
  simp only [Act.mk.injEq, and_true]
  apply Array.ext_getElem?
  intro i
  rw [Array.getElem?_setIfInBounds]
  split
  ·rename_i h
   subst h
   by_cases hlt : t < tmps.size
   ·simp [hlt]
   ·simp [hlt]
  ·rfl
theorem fill_self (a : Act) : ∀ (l : List Oper) (i : Nat), fill a (fun j => ((l[j - i]?).map (readDst a)).getD undef) l i = a
 | [], _ => rfl
 | o :: l, i => by
  unfold fill
  simp only [Nat.sub_self, List.getElem?_cons_zero, Option.map_some, Option.getD_some]
  rw [put_read]
  have := fill_self a l (i + 1)
  refine Eq.trans ?_ this
  have hx : ∀ (l' : List Oper) (k : Nat) (b : Act) (f g : Nat → Value), (∀ j, k ≤ j → f j = g j) → fill b f l' k = fill b g l' k := by
   intro l'
   induction l' with
   | nil => intros; rfl
   | cons o' l' ih =>
    intro k b f g h
    unfold fill
    rw [h k (Nat.le_refl _)]
    exact ih (k + 1) _ f g fun j hj => h j (by omega)
  refine hx l (i + 1) a _ _ fun j hj => ?_
  rw [show j - i = (j - (i + 1)) + 1 by omega, List.getElem?_cons_succ]
theorem wp_region_facts {id : Nat} {Q : Exit → Act → World → Prop} {a : Act} {w : World} {l : List Oper} (T : Nat → Value → World → Prop) (hm : P.follows .mixedOrders = true)
    (hB : Region.earlierB .any l.toArray = true) (hT : ∀ i v w1 w2, Below w1.heap.size w1 w2 → T i v w1 → T i v w2)
    (hs : KindSteps P l.toArray (fun xs => fill a xs l 0) (fun w' => Below w.heap.size w w') T l 0)
    (hend : ∀ xs w', Below w.heap.size w w' → (∀ i, i < l.length → T i (xs i) w') → Q .normal (fill a xs l 0) w') : (Code.region id l.toArray true).wp P Q a w :=
 wp_region_kinds (fun xs => fill a xs l 0) T _ hm hB (fill_self a l 0).symm hT hs hend
theorem wp_region_facts_t {id : Nat} {Q : Exit → Act → World → Prop} {a : Act} {w : World} {l : List Oper} (n : Nat) (T : Nat → Value → World → Prop) (hm : P.follows .mixedOrders = true)
    (hB : (Region.earlierB .any l.toArray && decide (n < l.toArray.size) && Region.sinkB .any l.toArray n && Region.chainB .any l.toArray n && Region.seqB .any l.toArray (l.toArray.size - n) n (Region.head l.toArray.size n)) = true)
    (hT : ∀ i v w1 w2, Below w1.heap.size w1 w2 → T i v w1 → T i v w2)
    (hs : KindSteps P l.toArray (fun xs => fill a xs (l.take n) 0) (fun w' => Below w.heap.size w w') T (l.take n) 0)
    (hend : ∀ xs w', Below w.heap.size w w' → (∀ i, i < n → T i (xs i) w') → wpList P l.toArray Q (l.drop n) (fill a xs (l.take n) 0) w') : (Code.region id l.toArray true).wp P Q a w :=
 wp_region_kinds_t n (fun xs => fill a xs (l.take n) 0) T _ hm hB (fill_self a (l.take n) 0).symm hT hs hend
theorem KindSteps.cons {A : (Nat → Value) → Act} {C : World → Prop} {T : Nat → Value → World → Prop} {o : Oper} {l : List Oper} {i : Nat}
    (h : ∀ xs w', C w' → (∀ j, (o.after.any fun e => Region.binds .any e && e.on == j) = true → T j (xs j) w') →
     wpList P ops (fun ex a' w'' => ex = .normal ∧ Below w'.heap.size w' w'' ∧ ∃ v, a' = A (fun j => if j = i then v else xs j) ∧ T i v w'') [o] (A xs) w') (t : KindSteps P ops A C T l (i + 1)) : KindSteps P ops A C T (o :: l) i := ⟨h, t⟩
theorem KindSteps.nil {A : (Nat → Value) → Act} {C : World → Prop} {T : Nat → Value → World → Prop} {i : Nat} : KindSteps P ops A C T [] i := trivial
end
end Go

end
