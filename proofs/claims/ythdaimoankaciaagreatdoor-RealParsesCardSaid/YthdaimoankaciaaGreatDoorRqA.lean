/- Part 1 of the proof; what it holds is said text by text. -/
import Derived.Test.YthdaimoankaciaaGreatDoorCards
import Derived.Test.YthdaimoankaciaaGreatDoorTie
import Derived.ProofKit
import Derived.OpenShut
import Derived.Deep.DeepHandedRow
import Derived.Lib.LaidTab
import Derived.Lib.SmallJoins
import Derived.ShutString
import Derived.StillTail
import Derived.Deep.QuietTactic
import Derived.WalkKit
import Derived.Below
section
/- The cards of this seat: a witness world, the arguments opened, the post of a call that leaves old memory alone. -/
set_option linter.unusedSimpArgs false
set_option linter.unusedVariables false
namespace Go.Proofs.YthdaimoankaciaaGreatDoor
open Go.ChangeShapes Go.WideShapes Go.ChangeAt Go.RowKit
open Go
theorem own : ownKnob Tryz.prog.godebug = none := by kernel_rfl
def layFirst : Obj → Obj
 | .cells _ t frozen => .cells (Go.Pinned.utf8FirstZ.map fun n : Nat => Value.int .u8 (n : Int)).toArray t frozen
 | o => o
def layAccept : Obj → Obj
 | .cells _ t frozen => .cells #[.int .u8 128, .int .u8 191, .int .u8 160, .int .u8 191, .int .u8 128, .int .u8 159, .int .u8 144, .int .u8 191, .int .u8 128, .int .u8 143, .int .u8 0, .int .u8 0, .int .u8 0, .int .u8 0, .int .u8 0, .int .u8 0, .int .u8 0, .int .u8 0, .int .u8 0, .int .u8 0, .int .u8 0, .int .u8 0, .int .u8 0, .int .u8 0, .int .u8 0, .int .u8 0, .int .u8 0, .int .u8 0, .int .u8 0, .int .u8 0, .int .u8 0, .int .u8 0] t frozen
 | o => o
noncomputable def laidWorld (os : Os) : World :=
 { World.holding Tryz.prog os ⟨#[], #[], []⟩ with heap := ((World.holding Tryz.prog os ⟨#[], #[], []⟩).heap.modify 1 layFirst).modify 2 layAccept }
section
variable {H : Type} {enc : TypeId × Value → H}
end
section
variable {H : Type} {enc : TypeId × Value → H} {P : Program}
theorem post_placeless {f : Func} {s : ChangeSpec} {W W' : World} {args : Array Value} {v : Value} {ds gs : List (DataW H)}
    (hW : DataW.Whole enc P f.params.toList s.vars false W args.toList ds gs [])
    (hres : ∀ (b : Nat) (sp : Nat → Bool) (hd : Bool), DataW.TrodAll enc P W' b sp hd f.resultTypes.toList (v.resultList f.resultTypes.size) (s.fn H (ds ++ gs)).results [])
    (hargs : ∀ sp : Nat → Bool, DataW.TrodAll enc P W' 0 sp true f.params.toList args.toList (s.fn H (ds ++ gs)).args [])
    (hvars : ∀ sp : Nat → Bool, DataW.TrodVars enc P W' sp s.vars (s.fn H (ds ++ gs)).vars [])
    (hb : Below W.heap.size W W') : s.post enc P f false true false false W args v W' := by
 refine ⟨ds, gs, [], [], [], [], hW, hres _ _ _, hargs _, hvars _, hb.frame _, fun h => by cases h⟩
end
end Go.Proofs.YthdaimoankaciaaGreatDoor

end
section
/- No program in sight: values without places (structs and arrays of bools, ints and strings, one in another): what their cells are, and that they read alike in every world. -/
set_option linter.unusedSimpArgs false
set_option linter.unusedVariables false
namespace Go.Flat
open Go
inductive Leaf where
 | b
 | i (k : IntKind)
 | s
def leafOk : Leaf → Value → Prop
 | .b, v => ∃ x, v = .bool x
 | .i k, v => ∃ n, v = .int k n ∧ (Lit.int k n).wf = true
 | .s, v => ∃ s, v = .string s ∧ s.size ≤ maxLen
def fits : List Leaf → List Value → Prop
 | [], [] => True
 | l :: ls, v :: vs => leafOk l v ∧ fits ls vs
 | _, _ => False
def leavesF (r : TypeId → Option (List Leaf)) (C : TypeId → Nat) : List Field → Nat → Option (List Leaf)
 | [], _ => some []
 | f :: fs, off => match r f.type, leavesF r C fs (off + C f.type) with
  | some l, some l' => if f.offset = off ∧ l.length = C f.type then some (l ++ l') else none
  | _, _ => none
def leavesA (l : List Leaf) : Nat → List Leaf
 | 0 => []
 | n + 1 => leavesA l n ++ l
def leaves (P : Program) : Nat → TypeId → Option (List Leaf)
 | 0, _ => none
 | n + 1, t => match P.underlying t with
  | some .bool => some [.b]
  | some (.int k) => some [.i k]
  | some .string => some [.s]
  | some (.struct fs) => match leavesF (leaves P n) P.cellsOf fs.toList 0 with
   | some l => if l.length = P.cellsOf t then some l else none
   | none => none
  | some (.array m e) => match leaves P n e with
   | some l => if l.length = P.cellsOf e ∧ m * P.cellsOf e = P.cellsOf t then some (leavesA l m) else none
   | none => none
  | _ => none
section
variable {H : Type} {enc : TypeId × Value → H} {P : Program}
end
section
variable {H : Type} {enc : TypeId × Value → H} {P : Program}
end
end Go.Flat

end
section
/- The cards: what they share; closed facts of the program, each once. -/
set_option linter.unusedSimpArgs false
set_option linter.unusedVariables false
namespace Go.Proofs.YthdaimoankaciaaGreatDoor
open Go.ChangeShapes Go.WideShapes Go.ChangeAt Go.RowKit
open Go
theorem and2 {a b : Bool} (h1 : a = true) (h2 : b = true) : (a && b) = true := by rw [h1, h2]; rfl
set_option maxRecDepth 100000
theorem jf1 : laidOutB Tryz.pinned.checked.prog = true := by kernel_rfl
theorem jf2 : mapsRowed Tryz.pinned.checked.prog = true := by kernel_rfl
theorem jf3 : (Tryz.pinned.checked.prog.stops == []) = true := by kernel_rfl
theorem jf4 : (Tryz.pinned.checked.prog.stopKnobs == []) = true := by kernel_rfl
theorem jf5 : Tryz.pinned.checked.prog.plainKeys = Rows.realPrintsRow.plainKeys := by kernel_rfl
theorem jf6 : Tryz.pinned.checked.prog.stopsHeard = true := by kernel_rfl
theorem jf7 : Tryz.pinned.checked.prog.mayEnter = true := by kernel_rfl
theorem jf8 : Tryz.pinned.checked.prog.liftsFinal = Rows.realPrintsRow.lifted := by kernel_rfl
theorem jf9 : Tryz.pinned.checked.prog.make = some Rows.realPrintsRow.make := by kernel_rfl
theorem jf0 : false = Tryz.pinned.checked.prog.looks [] := by kernel_rfl
end Go.Proofs.YthdaimoankaciaaGreatDoor

end
section
/- No program in sight: a region that draws its order, walked by what is known of each operation's value: of the value of operation i a fact T i holds, in its world and in every later one; each operation is shown once, from the facts of those that it waits for. Values may hang on the world. -/
namespace Go
open Go.RowKit
section
variable {P : Program} {ops : Array Oper}
theorem filter_drop_one : ∀ (L : List Nat) (p q : Nat → Bool) (i : Nat), L.Nodup → i ∈ L → p i = true → q i = false → (∀ j, j ≠ i → q j = p j) → (L.filter q).length + 1 = (L.filter p).length
 | [], _, _, _, _, hi, _, _, _ => by cases hi
 | a :: L, p, q, i, hnd, hi, hp, hq, h => by
  rw [List.nodup_cons] at hnd
  by_cases ha : a = i
  ·subst ha
   rw [List.filter_cons_of_neg (by simp [hq]), List.filter_cons_of_pos hp, List.length_cons]
   congr 2
   apply List.filter_congr
   intro j hj
   exact h j (fun e => hnd.1 (e ▸ hj))
  ·have hi2 : i ∈ L := by
     rcases List.mem_cons.1 hi with e | e
     ·exact absurd e.symm ha
     ·exact e
   have ih := filter_drop_one L p q i hnd.2 hi2 hp hq h
   by_cases hpa : p a = true
   ·rw [List.filter_cons_of_pos (by rw [h a ha]; exact hpa), List.filter_cons_of_pos hpa, List.length_cons, List.length_cons, ih]
   ·rw [List.filter_cons_of_neg (by rw [h a ha]; exact hpa), List.filter_cons_of_neg hpa, ih]
def unlisted (n : Nat) (listed : Array Bool) : Nat := ((List.range n).filter fun i => !listed.getD i true).length
theorem unlisted_set {n i : Nat} {listed : Array Bool} (hi : i < n) (hs : i < listed.size) (h : listed.getD i true = false) : unlisted n (listed.setIfInBounds i true) + 1 = unlisted n listed := by
 refine filter_drop_one _ _ _ i List.nodup_range (List.mem_range.2 hi) (by simp [h]) ?_ (fun j hj => ?_)
 ·simp [hs]
 ·show (!(listed.setIfInBounds i true).getD j true) = !listed.getD j true
  rw [getD_set_ne true (Ne.symm hj)]
theorem unlisted_zero {n : Nat} {listed : Array Bool} (h : unlisted n listed = 0) (i : Nat) (hi : i < n) : listed.getD i true = true := by
 have h1 : (List.range n).filter (fun i => !listed.getD i true) = [] := List.eq_nil_of_length_eq_zero h
 have h2 := List.filter_eq_nil_iff.1 h1 i (List.mem_range.2 hi)
 simpa using h2
theorem unlisted_pos {n : Nat} {listed : Array Bool} (h : 0 < unlisted n listed) : ∃ i, i < n ∧ listed.getD i true = false ∧ ∀ j, j < i → listed.getD j true = true := by
 have h1 : ∃ i, i < n ∧ listed.getD i true = false := by
  apply Decidable.byContradiction
  intro hne
  have : (List.range n).filter (fun i => !listed.getD i true) = [] := by
   rw [List.filter_eq_nil_iff]
   intro i hi
   have hlt := List.mem_range.1 hi
   cases hc : listed.getD i true
   ·exact absurd ⟨i, hlt, hc⟩ hne
   ·simp
  unfold unlisted at h
  rw [this] at h
  simp at h
 obtain ⟨i, hi⟩ := h1
 induction i using Nat.strongRecOn with
 | _ i ih =>
  by_cases hall : ∀ j, j < i → listed.getD j true = true
  ·exact ⟨i, hi.1, hi.2, hall⟩
  ·have ⟨j, hj⟩ : ∃ j, ¬ (j < i → listed.getD j true = true) := Classical.not_forall.1 hall
   have h2 : j < i ∧ listed.getD j true = false := by
    cases hc : listed.getD j true
    ·exact ⟨Decidable.byContradiction fun hn => hj fun hlt => absurd hlt hn, rfl⟩
    ·exact absurd (fun _ => hc) hj
   exact ih j h2.1 ⟨by omega, h2.2⟩
def Region.earlierB (md : Region.Mode) (ops : Array Oper) : Bool := (List.range ops.size).all fun i => ((ops[i]?).map fun o => o.after.all fun e => !Region.binds md e || decide (e.on < i)).getD true
theorem Region.earlier_spec {md : Region.Mode} (h : Region.earlierB md ops = true) {i : Nat} {o : Oper} (hi : ops[i]? = some o) : ∀ e ∈ o.after, Region.binds md e = true → e.on < i := by
 unfold Region.earlierB at h
 rw [List.all_eq_true] at h
 have h1 := h i (List.mem_range.2 (Array.getElem?_eq_some_iff.1 hi).1)
 rw [hi] at h1
 simp only [Option.map_some, Option.getD_some, Array.all_eq_true_iff_forall_mem] at h1
 intro e he hb
 have h2 := h1 e he
 rw [hb] at h2
 simpa using h2
def Region.head (size n : Nat) : Array Bool := (Array.range size).map fun i => decide (i < n)
theorem head_eq {md : Region.Mode} {n : Nat} {listed : Array Bool} (inv : HeadInv md ops n listed) (h : unlisted n listed = 0) : listed = Region.head ops.size n := by
 apply Array.ext_getElem?
 intro i
 unfold Region.head
 by_cases hs : i < ops.size
 ·have hs2 : i < listed.size := by rw [inv.size]; exact hs
  rw [Array.getElem?_eq_getElem hs2]
  simp only [Array.getElem?_map, Array.getElem?_range, hs, if_true, Option.map_some]
  by_cases hn : i < n
  ·have := unlisted_zero h i hn
   simp [hs2] at this
   simp [this, hn]
  ·have := inv.tail i (by omega) hs
   simp [hs2] at this
   simp [this, hn]
 ·rw [Array.getElem?_eq_none (by rw [inv.size]; omega), Array.getElem?_eq_none (by simp; omega)]
theorem Oper.wp_of_list {o : Oper} {a : Act} {w : World} {R : Act → World → Prop} {K' : Act → World → Prop} {Q' : Exit → Act → World → Prop} (hK : ∀ a w, R a w → K' a w)
    (h : o.wp P a w (fun a' w' => (Exit.normal = Exit.normal) ∧ R a' w') (fun ex a' w' => ex = .normal ∧ R a' w')) : o.wp P a w K' Q' := by
 unfold Oper.wp at *
 generalize (execOp a.eval o).run P w = r at *
 cases r with
 | ok n w' =>
  cases n <;> simp only [Oper.upon] at h ⊢
  case value => exact hK _ _ h.2
  case skip => exact hK _ _ h.2
  case defer => exact hK _ _ h.2
  case enter f args =>
   refine Calls.mono h fun e w'' he => ?_
   cases e with
   | returned v => exact hK _ _ he.2
   | panicked c => exact absurd he.1 (by simp)
   | outgrown => obtain ⟨a, w, he, _⟩ := he; cases he
  case row row args => exact Rows.mono h fun u w'' he => hK _ _ he.2
 | halt x w' =>
  cases x <;> simp only [Oper.upon] at h ⊢
  case panic u => exact absurd h.1 (by simp)
theorem wpOp_of_list {i : Nat} {o : Oper} (hi : ops[i]? = some o) {a : Act} {w : World} {R K' : Act → World → Prop} {Q' : Exit → Act → World → Prop} (hK : ∀ a w, R a w → K' a w)
    (h : wpList P ops (fun ex a' w' => ex = .normal ∧ R a' w') [o] a w) : wpOp P ops Q' i K' a w := by
 unfold wpOp
 simp only [hi]
 unfold wpList at h
 split
 ·rename_i hw
  rw [if_pos hw] at h
  rcases h with h | ⟨_, a', w', he, _⟩
  ·exact .inl (Oper.wp_of_list hK h)
  ·cases he
 ·rename_i hw
  rw [if_neg hw] at h
  exact hK _ _ h.2
theorem wpAny_inv {md : Region.Mode} {n g : Nat} {Q' : Exit → Act → World → Prop} {Inv : Array Bool → Act → World → Prop} (hn : n ≤ ops.size) (hlow : Region.earlierB md ops = true)
    (hwait : ∀ listed, HeadInv md ops n listed → 0 < unlisted n listed → ∀ j ∈ Region.ready md ops listed, j < n)
    (hstep : ∀ i, i < n → ∀ listed a w, HeadInv md ops n listed → Inv listed a w → i ∈ Region.ready md ops listed → wpOp P ops Q' i (Inv (listed.setIfInBounds i true)) a w)
    (hL : ∀ a w, Inv (Region.head ops.size n) a w → wpAny P md ops Q' g (Region.head ops.size n) a w) :
    ∀ (f : Nat) (listed : Array Bool) (a : Act) (w : World), unlisted n listed = f → HeadInv md ops n listed → Inv listed a w → wpAny P md ops Q' (f + g) listed a w
 | 0, listed, a, w, hf, inv, h => by
  rw [Nat.zero_add]
  have e := head_eq inv hf
  subst e
  exact hL a w h
 | f + 1, listed, a, w, hf, inv, h => by
  rw [show f + 1 + g = (f + g) + 1 by omega]
  refine ⟨fun h0 => ?_, fun j hj => ?_⟩
  ·exfalso
   obtain ⟨i, hi, hun, hall⟩ := unlisted_pos (n := n) (listed := listed) (by omega)
   have hlt : i < ops.size := by omega
   have hr : i ∈ Region.ready md ops listed := mem_ready.2 ⟨hun, ops[i], Array.getElem?_eq_getElem hlt, fun e he hbind => by
    have hei := Region.earlier_spec hlow (Array.getElem?_eq_getElem hlt) e he hbind
    have h1 := hall e.on hei
    have h2 : e.on < listed.size := by rw [inv.size]; omega
    simp [h2] at h1 ⊢
    exact h1⟩
   rw [h0] at hr
   cases hr
  ·have hjn := hwait listed inv (by omega) j hj
   have hun := (mem_ready.1 hj).1
   refine wpOp_mono (fun a' w' h' => ?_) (hstep j hjn listed a w inv h hj)
   exact wpAny_inv hn hlow hwait hstep hL f _ a' w' (by have := unlisted_set hjn (by rw [inv.size]; omega) hun; omega) (inv.set hj hjn) h'
theorem head_getD (m n j : Nat) (d : Bool) (h : j < m) : (Region.head m n).getD j d = decide (j < n) := by
 unfold Region.head
 simp [h]
def KindSteps (P : Program) (ops : Array Oper) (A : (Nat → Value) → Act) (C : World → Prop) (T : Nat → Value → World → Prop) : List Oper → Nat → Prop
 | [], _ => True
 | o :: l, i => (∀ xs w', C w' → (∀ j, (o.after.any fun e => Region.binds .any e && e.on == j) = true → T j (xs j) w') →
     wpList P ops (fun ex a' w'' => ex = .normal ∧ Below w'.heap.size w' w'' ∧ ∃ v, a' = A (fun j => if j = i then v else xs j) ∧ T i v w'') [o] (A xs) w') ∧ KindSteps P ops A C T l (i + 1)
theorem KindSteps.at {A : (Nat → Value) → Act} {C : World → Prop} {T : Nat → Value → World → Prop} : ∀ {l : List Oper} {k i : Nat} {o : Oper}, KindSteps P ops A C T l k → l[i]? = some o →
    ∀ xs w', C w' → (∀ j, (o.after.any fun e => Region.binds .any e && e.on == j) = true → T j (xs j) w') →
     wpList P ops (fun ex a' w'' => ex = .normal ∧ Below w'.heap.size w' w'' ∧ ∃ v, a' = A (fun j => if j = k + i then v else xs j) ∧ T (k + i) v w'') [o] (A xs) w'
 | [], _, _, _, _, h => by cases h
 | o :: l, k, 0, o', hs, h => by
  have e : o = o' := by simpa using h
  subst e
  exact hs.1
 | o :: l, k, i + 1, o', hs, h => by
  have := KindSteps.at hs.2 (i := i) (o := o') (by simpa using h)
  rw [show k + 1 + i = k + (i + 1) by omega] at this
  exact this
theorem kinds_any {l : List Oper} {n g : Nat} {Q' : Exit → Act → World → Prop} {A : (Nat → Value) → Act} {T : Nat → Value → World → Prop} {w w1 : World} {xs0 : Nat → Value} (hn : n ≤ l.toArray.size)
    (hlow : Region.earlierB .any l.toArray = true) (hT : ∀ i v w1 w2, Below w1.heap.size w1 w2 → T i v w1 → T i v w2)
    (hwait : ∀ listed, HeadInv .any l.toArray n listed → 0 < unlisted n listed → ∀ j ∈ Region.ready .any l.toArray listed, j < n)
    (hs : KindSteps P l.toArray A (fun w' => Below w.heap.size w w') T (l.take n) 0) (h1 : Below w.heap.size w w1)
    (hL : ∀ xs w', Below w.heap.size w w' → (∀ i, i < n → T i (xs i) w') → wpAny P .any l.toArray Q' g (Region.head l.toArray.size n) (A xs) w') :
    wpAny P .any l.toArray Q' (unlisted n (Array.replicate l.toArray.size false) + g) (Array.replicate l.toArray.size false) (A xs0) w1 := by
 refine wpAny_inv (Inv := fun listed a w' => Below w.heap.size w w' ∧ ∃ xs, a = A xs ∧ ∀ i, i < n → listed.getD i false = true → T i (xs i) w') hn hlow hwait ?_ ?_ _ _ _ _ rfl
  ⟨by simp, fun j oj _ hl => (by rw [getD_replicate_false] at hl; cases hl), fun t _ ht => getD_in (by simpa using ht) (getD_replicate_false _ _)⟩ ⟨h1, xs0, rfl, fun i _ hl => by rw [getD_replicate_false] at hl; cases hl⟩
 ·intro i hi listed a w' inv ⟨hw, xs, hax, hfacts⟩ hr
  subst hax
  obtain ⟨hun, o, ho, hall⟩ := mem_ready.1 hr
  have hlo : (l.take n)[i]? = some o := by
   rw [List.getElem?_take_of_lt hi]; simpa using ho
  have h := hs.at hlo xs w' hw (fun j hj => by
   rw [Array.any_eq_true] at hj
   obtain ⟨k, hk, hj⟩ := hj
   simp only [Bool.and_eq_true, beq_iff_eq] at hj
   obtain ⟨hb, rfl⟩ := hj
   have hlt := Region.earlier_spec hlow ho _ (Array.getElem_mem hk) hb
   exact hfacts _ (by omega) (hall _ (Array.getElem_mem hk) hb))
  rw [Nat.zero_add] at h
  refine wpOp_of_list ho (R := fun a' w'' => Below w'.heap.size w' w'' ∧ ∃ v, a' = A (fun j => if j = i then v else xs j) ∧ T i v w'') ?_ h
  rintro a' w'' ⟨hb, v, rfl, ht⟩
  refine ⟨hw.trans (hb.mono hw.size), _, rfl, fun j hj hl => ?_⟩
  show T j (if j = i then v else xs j) w''
  by_cases hji : j = i
  ·subst hji; rw [if_pos rfl]; exact ht
  ·rw [if_neg hji]
   rw [getD_set_ne false (Ne.symm hji)] at hl
   exact hT j _ _ _ hb (hfacts j hj hl)
 ·rintro a w' ⟨hw, xs, rfl, hfacts⟩
  refine hL xs w' hw fun i hi => hfacts i hi ?_
  have hsz : i < l.toArray.size := by omega
  rw [head_getD _ _ _ _ hsz]
  simpa using hi
theorem unlisted_all (n m : Nat) (h : n ≤ m) : unlisted n (Array.replicate m false) = n := by
 unfold unlisted
 have : (List.range n).filter (fun i => !(Array.replicate m false).getD i true) = List.range n := by
  rw [List.filter_eq_self]
  intro i hi
  have := List.mem_range.1 hi
  have h2 : i < m := by omega
  simp [h2]
 rw [this, List.length_range]
theorem wp_region_kinds {id : Nat} {Q : Exit → Act → World → Prop} {a : Act} {w : World} {l : List Oper} (A : (Nat → Value) → Act) (T : Nat → Value → World → Prop) (xs0 : Nat → Value) (hm : P.follows .mixedOrders = true)
    (hB : Region.earlierB .any l.toArray = true) (ha : a = A xs0) (hT : ∀ i v w1 w2, Below w1.heap.size w1 w2 → T i v w1 → T i v w2)
    (hs : KindSteps P l.toArray A (fun w' => Below w.heap.size w w') T l 0)
    (hend : ∀ xs w', Below w.heap.size w w' → (∀ i, i < l.length → T i (xs i) w') → Q .normal (A xs) w') : (Code.region id l.toArray true).wp P Q a w := by
 subst ha
 refine wp_region_any hm ?_
 have h := kinds_any (P := P) (l := l) (n := l.toArray.size) (g := 0) (Q' := Q) (A := A) (T := T) (w := w) (w1 := { w with drawn := w.drawn + 1 }) (xs0 := xs0) (Nat.le_refl _) hB hT
  (fun listed _ _ j hj => by obtain ⟨_, o, ho, _⟩ := mem_ready.1 hj; exact (Array.getElem?_eq_some_iff.1 ho).1)
  (by simpa using hs) ⟨rfl, rfl, rfl, Nat.le_refl _, fun _ _ => rfl⟩
  (fun xs w' hw hf => by
   refine ⟨?_, hend xs w' hw (fun i hi => hf i (by simpa using hi))⟩
   apply List.eq_nil_iff_forall_not_mem.2
   intro j hj
   obtain ⟨hun, o, ho, _⟩ := mem_ready.1 hj
   have hlt := (Array.getElem?_eq_some_iff.1 ho).1
   rw [head_getD _ _ _ _ hlt] at hun
   simp at hun hlt
   omega)
 rw [unlisted_all _ _ (Nat.le_refl _), Nat.add_zero] at h
 exact h
def fill (a : Act) (xs : Nat → Value) : List Oper → Nat → Act
 | [], _ => a
 | o :: l, i => fill (a.put o.dst (xs i)) xs l (i + 1)
def readDst (a : Act) (o : Oper) : Value := match o.dst with
 | none => undef
 | some t => a.tmps.getD t undef
theorem put_read (a : Act) (o : Oper) : a.put o.dst (readDst a o) = a := by
 unfold readDst Act.put
 cases o.dst with
 | none => rfl
 | some t =>
  obtain ⟨tmps, defers⟩ := a
  simp only [Act.mk.injEq, and_true]
  apply Array.ext_getElem?
  intro i
  rw [Array.getElem?_setIfInBounds]
  split
  ·rename_i h
   subst h
   by_cases hlt : t < tmps.size
   ·simp [hlt]
   ·simp [hlt]
  ·rfl
theorem fill_self (a : Act) : ∀ (l : List Oper) (i : Nat), fill a (fun j => ((l[j - i]?).map (readDst a)).getD undef) l i = a
 | [], _ => rfl
 | o :: l, i => by
  unfold fill
  simp only [Nat.sub_self, List.getElem?_cons_zero, Option.map_some, Option.getD_some]
  rw [put_read]
  have := fill_self a l (i + 1)
  refine Eq.trans ?_ this
  have hx : ∀ (l' : List Oper) (k : Nat) (b : Act) (f g : Nat → Value), (∀ j, k ≤ j → f j = g j) → fill b f l' k = fill b g l' k := by
   intro l'
   induction l' with
   | nil => intros; rfl
   | cons o' l' ih =>
    intro k b f g h
    unfold fill
    rw [h k (Nat.le_refl _)]
    exact ih (k + 1) _ f g fun j hj => h j (by omega)
  refine hx l (i + 1) a _ _ fun j hj => ?_
  rw [show j - i = (j - (i + 1)) + 1 by omega, List.getElem?_cons_succ]
theorem wp_region_facts {id : Nat} {Q : Exit → Act → World → Prop} {a : Act} {w : World} {l : List Oper} (T : Nat → Value → World → Prop) (hm : P.follows .mixedOrders = true)
    (hB : Region.earlierB .any l.toArray = true) (hT : ∀ i v w1 w2, Below w1.heap.size w1 w2 → T i v w1 → T i v w2)
    (hs : KindSteps P l.toArray (fun xs => fill a xs l 0) (fun w' => Below w.heap.size w w') T l 0)
    (hend : ∀ xs w', Below w.heap.size w w' → (∀ i, i < l.length → T i (xs i) w') → Q .normal (fill a xs l 0) w') : (Code.region id l.toArray true).wp P Q a w :=
 wp_region_kinds (fun xs => fill a xs l 0) T _ hm hB (fill_self a l 0).symm hT hs hend
theorem KindSteps.cons {A : (Nat → Value) → Act} {C : World → Prop} {T : Nat → Value → World → Prop} {o : Oper} {l : List Oper} {i : Nat}
    (h : ∀ xs w', C w' → (∀ j, (o.after.any fun e => Region.binds .any e && e.on == j) = true → T j (xs j) w') →
     wpList P ops (fun ex a' w'' => ex = .normal ∧ Below w'.heap.size w' w'' ∧ ∃ v, a' = A (fun j => if j = i then v else xs j) ∧ T i v w'') [o] (A xs) w') (t : KindSteps P ops A C T l (i + 1)) : KindSteps P ops A C T (o :: l) i := ⟨h, t⟩
theorem KindSteps.nil {A : (Nat → Value) → Act} {C : World → Prop} {T : Nat → Value → World → Prop} {i : Nat} : KindSteps P ops A C T [] i := trivial
end
end Go

end
