/- No program in sight: values without places (structs and arrays of bools, ints and strings, one in another): what their cells are, and that they read alike in every world. -/
import Derived.ProofKit
import Derived.OpenShut
import Derived.Lib.SmallJoins
set_option linter.unusedSimpArgs false
set_option linter.unusedVariables false
namespace Go.Flat
open Go
inductive Leaf where
 | b
 | i (k : IntKind)
 | s
def leafOk : Leaf → Value → Prop
 | .b, v => ∃ x, v = .bool x
 | .i k, v => ∃ n, v = .int k n ∧ (Lit.int k n).wf = true
 | .s, v => ∃ s, v = .string s ∧ s.size ≤ maxLen
def fits : List Leaf → List Value → Prop
 | [], [] => True
 | l :: ls, v :: vs => leafOk l v ∧ fits ls vs
 | _, _ => False
theorem fits_append : ∀ {l1 l2 : List Leaf} {c1 c2 : List Value}, fits l1 c1 → fits l2 c2 → fits (l1 ++ l2) (c1 ++ c2)
 | [], _, [], _, _, h => h
 | _ :: _, _, _ :: _, _, h1, h2 => ⟨h1.1, fits_append h1.2 h2⟩
 | [], _, _ :: _, _, h, _ => h.elim
 | _ :: _, _, [], _, h, _ => h.elim
def leavesF (r : TypeId → Option (List Leaf)) (C : TypeId → Nat) : List Field → Nat → Option (List Leaf)
 | [], _ => some []
 | f :: fs, off => match r f.type, leavesF r C fs (off + C f.type) with
  | some l, some l' => if f.offset = off ∧ l.length = C f.type then some (l ++ l') else none
  | _, _ => none
def leavesA (l : List Leaf) : Nat → List Leaf
 | 0 => []
 | n + 1 => leavesA l n ++ l
def leaves (P : Program) : Nat → TypeId → Option (List Leaf)
 | 0, _ => none
 | n + 1, t => match P.underlying t with
  | some .bool => some [.b]
  | some (.int k) => some [.i k]
  | some .string => some [.s]
  | some (.struct fs) => match leavesF (leaves P n) P.cellsOf fs.toList 0 with
   | some l => if l.length = P.cellsOf t then some l else none
   | none => none
  | some (.array m e) => match leaves P n e with
   | some l => if l.length = P.cellsOf e ∧ m * P.cellsOf e = P.cellsOf t then some (leavesA l m) else none
   | none => none
  | _ => none
section
variable {H : Type} {enc : TypeId × Value → H} {P : Program}
def Same (enc : TypeId × Value → H) (P : Program) (fuel : Nat) (t : TypeId) (cs : List Value) (x : DataW H × List MemPlace) : Prop :=
 x.2 = [] ∧ ∀ (w : World) (base : Nat) (sp : Nat → Bool) (held : Bool), DataW.trod enc P w base sp held fuel t cs = some x
theorem leavesA_len (l : List Leaf) : ∀ n, (leavesA l n).length = n * l.length
 | 0 => by simp [leavesA]
 | n + 1 => by rw [leavesA, List.length_append, leavesA_len l n, Nat.succ_mul]
theorem mapM_some {α β : Type} {f : α → Option β} : ∀ {l : List α} {ys : List β}, l.mapM f = some ys → ∀ a ∈ l, ∃ y, f a = some y
 | [], _, _, a, ha => by cases ha
 | x :: l, ys, h, a, ha => by
  rw [List.mapM_cons] at h
  cases hx : f x with
  | none => rw [hx] at h; cases h
  | some y =>
   rw [hx] at h
   cases hl : l.mapM f with
   | none => rw [hl] at h; cases h
   | some ys' =>
    rcases List.mem_cons.1 ha with rfl | ha
    ·exact ⟨y, hx⟩
    ·exact mapM_some hl a ha
theorem mapM_congr' {α β : Type} {f g : α → Option β} : ∀ {l : List α}, (∀ a ∈ l, f a = g a) → l.mapM f = l.mapM g
 | [], _ => rfl
 | x :: l, h => by
  rw [List.mapM_cons, List.mapM_cons, h x List.mem_cons_self, mapM_congr' fun a ha => h a (List.mem_cons_of_mem _ ha)]
theorem mapM_all {α β : Type} {f : α → Option β} (p : β → Prop) : ∀ {l : List α} {ys : List β}, l.mapM f = some ys → (∀ a ∈ l, ∀ y, f a = some y → p y) → ∀ y ∈ ys, p y
 | [], ys, h, _, y, hy => by
  rw [List.mapM_nil] at h
  obtain rfl : [] = ys := Option.some.inj h
  cases hy
 | x :: l, ys, h, hp, y, hy => by
  rw [List.mapM_cons] at h
  cases hx : f x with
  | none => rw [hx] at h; cases h
  | some z =>
   rw [hx] at h
   cases hl : l.mapM f with
   | none => rw [hl] at h; cases h
   | some ys' =>
    rw [hl] at h
    obtain rfl : z :: ys' = ys := Option.some.inj h
    rcases List.mem_cons.1 hy with rfl | hy
    ·exact hp x List.mem_cons_self _ hx
    ·exact mapM_all p hl (fun a ha => hp a (List.mem_cons_of_mem _ ha)) y hy
theorem flatF {w : World} {base : Nat} {sp : Nat → Bool} {held : Bool} {fuel n : Nat} {cs : List Value}
    (ih : ∀ {t : TypeId} {ls : List Leaf} {cs : List Value} {x : DataW H × List MemPlace}, leaves P n t = some ls → DataW.trod enc P w base sp held fuel t cs = some x → fits ls cs ∧ Same enc P fuel t cs x) :
    ∀ (fs : List Field) (off : Nat) (l : List Leaf), leavesF (leaves P n) P.cellsOf fs off = some l → (∀ f ∈ fs, ∃ y, DataW.trod enc P w base sp held fuel f.type ((cs.drop f.offset).take (P.cellsOf f.type)) = some y) →
     fits l ((cs.drop off).take l.length) ∧ ∀ f ∈ fs, ∀ y, DataW.trod enc P w base sp held fuel f.type ((cs.drop f.offset).take (P.cellsOf f.type)) = some y → Same enc P fuel f.type ((cs.drop f.offset).take (P.cellsOf f.type)) y
 | [], off, l, h, _ => by
  obtain rfl : [] = l := Option.some.inj h
  exact ⟨trivial, fun f hf => by cases hf⟩
 | f :: fs, off, l, h, hy => by
  unfold leavesF at h
  split at h
  ·rename_i lf l' hf hfs
   split at h
   ·rename_i ho
    obtain ⟨rfl, hlen⟩ := ho
    obtain rfl : lf ++ l' = l := Option.some.inj h
    obtain ⟨y, hy0⟩ := hy f List.mem_cons_self
    obtain ⟨h1, h2⟩ := ih hf hy0
    obtain ⟨h3, h4⟩ := flatF ih fs _ l' hfs fun g hg => hy g (List.mem_cons_of_mem _ hg)
    refine ⟨?_, fun g hg z hz => ?_⟩
    ·rw [List.length_append, List.take_add, hlen, List.drop_drop]
     exact fits_append h1 h3
    ·rcases List.mem_cons.1 hg with rfl | hg
     ·rw [hz] at hy0
      obtain rfl := Option.some.inj hy0
      exact h2
     ·exact h4 g hg z hz
   ·cases h
  ·cases h
theorem flatA {l : List Leaf} {C : Nat} {cs : List Value} (hl : l.length = C) : ∀ m, (∀ i, i < m → fits l ((cs.drop (i * C)).take C)) → fits (leavesA l m) (cs.take (m * C))
 | 0, _ => by simp [leavesA, fits]
 | m + 1, h => by
  rw [leavesA, Nat.succ_mul, List.take_add]
  exact fits_append (flatA hl m fun i hi => h i (by omega)) (h m (by omega))
theorem flat {w : World} {base : Nat} {sp : Nat → Bool} {held : Bool} : ∀ (fuel n : Nat) {t : TypeId} {ls : List Leaf} {cs : List Value} {x : DataW H × List MemPlace},
    leaves P n t = some ls → DataW.trod enc P w base sp held fuel t cs = some x → fits ls cs ∧ Same enc P fuel t cs x
 | 0, _, _, _, _, _, _, h => by simp [DataW.trod] at h
 | _, 0, _, _, _, _, h, _ => by cases h
 | fuel + 1, n + 1, t, ls, cs, x, hl, h => by
  have ih : ∀ {t : TypeId} {ls : List Leaf} {cs : List Value} {x : DataW H × List MemPlace}, leaves P n t = some ls → DataW.trod enc P w base sp held fuel t cs = some x → fits ls cs ∧ Same enc P fuel t cs x := fun h1 h2 => flat fuel n h1 h2
  unfold leaves at hl
  cases hu : P.underlying t with
  | none => rw [hu] at hl; cases hl
  | some u =>
   rw [hu] at hl
   cases u with
   | bool =>
    simp only [Option.some.injEq] at hl
    subst hl
    obtain ⟨b, rfl, rfl⟩ := DataW.trod_bool hu h
    exact ⟨⟨⟨b, rfl⟩, trivial⟩, rfl, fun w base sp held => by simp [DataW.trod, hu]⟩
   | int k =>
    simp only [Option.some.injEq] at hl
    subst hl
    obtain ⟨m, rfl, rfl, h1⟩ := DataW.trod_int hu h
    exact ⟨⟨⟨m, rfl, h1⟩, trivial⟩, rfl, fun w base sp held => by simp [DataW.trod, hu, h1]⟩
   | string =>
    simp only [Option.some.injEq] at hl
    subst hl
    obtain ⟨s, rfl, rfl, h1⟩ := DataW.trod_string hu h
    exact ⟨⟨⟨s, rfl, h1⟩, trivial⟩, rfl, fun w base sp held => by simp [DataW.trod, hu, h1]⟩
   | struct fs =>
    simp only at hl
    split at hl
    ·rename_i l hf
     split at hl
     ·rename_i hlen
      obtain rfl : l = ls := Option.some.inj hl
      have h0 := h
      unfold DataW.trod at h
      simp only [hu] at h
      split at h
      ·rename_i hcs
       cases hm : fs.toList.mapM fun f => DataW.trod enc P w base sp held fuel f.type ((cs.drop f.offset).take (P.cellsOf f.type)) with
       | none => rw [hm] at h; cases h
       | some xs =>
        rw [hm] at h
        obtain rfl : (DataW.agg (xs.map (·.1)), xs.flatMap (·.2)) = x := Option.some.inj h
        obtain ⟨h1, h2⟩ := flatF ih fs.toList 0 l hf (mapM_some hm)
        refine ⟨?_, ?_, fun w' base' sp' held' => ?_⟩
        ·rw [List.drop_zero, List.take_of_length_le (by omega)] at h1
         exact h1
        ·show xs.flatMap (·.2) = []
         rw [List.flatMap_eq_nil_iff]
         exact mapM_all (fun y => y.2 = []) hm fun f hf y hy => (h2 f hf y hy).1
        ·unfold DataW.trod
         simp only [hu]
         rw [if_pos hcs]
         have e2 : (fs.toList.mapM fun f => DataW.trod enc P w' base' sp' held' fuel f.type ((cs.drop f.offset).take (P.cellsOf f.type))) = some xs := by
          rw [← hm]
          exact mapM_congr' fun f hf => by
           obtain ⟨y, hy⟩ := mapM_some hm f hf
           rw [hy]
           exact (h2 f hf y hy).2 _ _ _ _
         rw [e2]
         rfl
      ·cases h
     ·cases hl
    ·cases hl
   | array m e =>
    simp only at hl
    split at hl
    ·rename_i l hf
     split at hl
     ·rename_i hlen
      obtain rfl : leavesA l m = ls := Option.some.inj hl
      unfold DataW.trod at h
      simp only [hu] at h
      split at h
      ·rename_i hcs
       cases hm : (List.range m).mapM fun i => DataW.trod enc P w base sp held fuel e ((cs.drop (i * P.cellsOf e)).take (P.cellsOf e)) with
       | none => rw [hm] at h; cases h
       | some xs =>
        rw [hm] at h
        obtain rfl : (DataW.agg (xs.map (·.1)), xs.flatMap (·.2)) = x := Option.some.inj h
        refine ⟨?_, ?_, fun w' base' sp' held' => ?_⟩
        ·have := flatA (cs := cs) hlen.1 m fun i hi => by
           obtain ⟨y, hy⟩ := mapM_some hm i (List.mem_range.2 hi)
           exact (ih hf hy).1
         rw [hlen.2, List.take_of_length_le (by omega)] at this
         exact this
        ·show xs.flatMap (·.2) = []
         rw [List.flatMap_eq_nil_iff]
         exact mapM_all (fun y => y.2 = []) hm fun i hi y hy => (ih hf hy).2.1
        ·unfold DataW.trod
         simp only [hu]
         rw [if_pos hcs]
         have e2 : ((List.range m).mapM fun i => DataW.trod enc P w' base' sp' held' fuel e ((cs.drop (i * P.cellsOf e)).take (P.cellsOf e))) = some xs := by
          rw [← hm]
          exact mapM_congr' fun i hi => by
           obtain ⟨y, hy⟩ := mapM_some hm i hi
           rw [hy]
           exact (ih hf hy).2.2 _ _ _ _
         rw [e2]
         rfl
      ·cases h
     ·cases hl
    ·cases hl
   | _ => simp at hl
end
theorem fits_cons {l : Leaf} {ls : List Leaf} {cs : List Value} (h : fits (l :: ls) cs) : ∃ v vs, cs = v :: vs ∧ leafOk l v ∧ fits ls vs := by
 cases cs with
 | nil => exact h.elim
 | cons v vs => exact ⟨v, vs, rfl, h.1, h.2⟩
theorem fits_nil {cs : List Value} (h : fits [] cs) : cs = [] := by
 cases cs with
 | nil => rfl
 | cons v vs => exact h.elim
def isAggT (P : Program) (t : TypeId) : Bool := match P.underlying t with
 | some (.struct _) | some (.array _ _) => true
 | _ => false
theorem open_flat {H : Type} {enc : TypeId × Value → H} {P : Program} {W : World} {r : Reach} {base : Nat} {sp0 : Nat → Bool} {t : TypeId} {v : Value} {d : DataW H} {p : List MemPlace} {ls : List Leaf} (n : Nat)
    (hl : leaves P n t = some ls) (ha : isAggT P t = true) (hv : Value.okWide P W r base t v) (h : DataW.Trod enc P W 0 sp0 true t v d p) :
    ∃ cs : List Value, v = .agg ⟨cs⟩ ∧ p = [] ∧ fits ls cs ∧ ∀ (W' : World) (sp : Nat → Bool), DataW.Trod enc P W' 0 sp true t (.agg ⟨cs⟩) d [] := by
 have hv' : ∃ cs, v = .agg cs := by
  unfold Value.okWide at hv
  unfold isAggT at ha
  split at ha
  ·rename_i hu; rw [hu] at hv; exact ⟨_, hv.choose_spec.1⟩
  ·rename_i hu; rw [hu] at hv; exact ⟨_, hv.choose_spec.1⟩
  ·cases ha
 obtain ⟨⟨cs⟩, rfl⟩ := hv'
 obtain ⟨fuel, hf⟩ := h
 obtain ⟨h1, h2, h3⟩ := flat fuel n hl hf
 refine ⟨cs, rfl, h2, h1, fun W' sp => ⟨fuel, ?_⟩⟩
 have := h3 W' 0 sp true
 rw [show d = (d, p).1 from rfl, show ([] : List MemPlace) = (d, p).2 from h2.symm]
 exact this
theorem bounds_i16 {n : Int} (h : (Lit.int .i16 n).wf = true) : -32768 ≤ n ∧ n ≤ 32767 := by
 simp [Lit.wf, IntKind.min, IntKind.max, IntKind.signed, IntKind.bits] at h
 omega
theorem bounds_i32 {n : Int} (h : (Lit.int .i32 n).wf = true) : -2147483648 ≤ n ∧ n ≤ 2147483647 := by
 simp [Lit.wf, IntKind.min, IntKind.max, IntKind.signed, IntKind.bits] at h
 omega
theorem bounds_u16 {n : Int} (h : (Lit.int .u16 n).wf = true) : 0 ≤ n ∧ n ≤ 65535 := by
 simp [Lit.wf, IntKind.min, IntKind.max, IntKind.signed, IntKind.bits] at h
 omega
theorem bounds_i8 {n : Int} (h : (Lit.int .i8 n).wf = true) : -128 ≤ n ∧ n ≤ 127 := by
 simp [Lit.wf, IntKind.min, IntKind.max, IntKind.signed, IntKind.bits] at h
 omega
def leafB (B : Nat) : Leaf → Value → Prop
 | .b, v => ∃ x, v = .bool x
 | .i k, v => ∃ n, v = .int k n ∧ (Lit.int k n).wf = true
 | .s, v => ∃ s, v = .string s ∧ s.size ≤ B
def fitsB (B : Nat) : List Leaf → List Value → Prop
 | [], [] => True
 | l :: ls, v :: vs => leafB B l v ∧ fitsB B ls vs
 | _, _ => False
theorem fitsB_append {B : Nat} : ∀ {l1 l2 : List Leaf} {c1 c2 : List Value}, fitsB B l1 c1 → fitsB B l2 c2 → fitsB B (l1 ++ l2) (c1 ++ c2)
 | [], _, [], _, _, h => h
 | _ :: _, _, _ :: _, _, h1, h2 => ⟨h1.1, fitsB_append h1.2 h2⟩
 | [], _, _ :: _, _, h, _ => h.elim
 | _ :: _, _, [], _, h, _ => h.elim
theorem fitsB_cons {B : Nat} {l : Leaf} {ls : List Leaf} {cs : List Value} (h : fitsB B (l :: ls) cs) : ∃ v vs, cs = v :: vs ∧ leafB B l v ∧ fitsB B ls vs := by
 cases cs with
 | nil => exact h.elim
 | cons v vs => exact ⟨v, vs, rfl, h.1, h.2⟩
theorem fitsB_nil {B : Nat} {cs : List Value} (h : fitsB B [] cs) : cs = [] := by
 cases cs with
 | nil => rfl
 | cons v vs => exact h.elim
section
variable {H : Type} {enc : TypeId × Value → H} {P : Program}
theorem each_bound {B : Nat} {g : Field → Option (DataW H × List MemPlace)} : ∀ {fs : List Field} {xs : List (DataW H × List MemPlace)}, fs.mapM g = some xs →
    (∀ m ∈ DataW.weightsEach P (fs.map (·.type)) (xs.map (·.1)), m ≤ B) → ∀ f ∈ fs, ∃ y, g f = some y ∧ ∀ m ∈ y.1.weights P f.type, m ≤ B
 | [], _, _, _, f, hf => by cases hf
 | a :: fs, xs, h, hb, f, hf => by
  rw [List.mapM_cons] at h
  cases hx : g a with
  | none => rw [hx] at h; cases h
  | some z =>
   rw [hx] at h
   cases hl : fs.mapM g with
   | none => rw [hl] at h; cases h
   | some ys =>
    rw [hl] at h
    obtain rfl : z :: ys = xs := Option.some.inj h
    simp only [List.map_cons, DataW.weightsEach, List.mem_append] at hb
    rcases List.mem_cons.1 hf with rfl | hf
    ·exact ⟨z, hx, fun m hm => hb m (.inl hm)⟩
    ·exact each_bound hl (fun m hm => hb m (.inr hm)) f hf
theorem all_bound {B : Nat} {e : TypeId} {g : Nat → Option (DataW H × List MemPlace)} : ∀ {l : List Nat} {xs : List (DataW H × List MemPlace)}, l.mapM g = some xs →
    (∀ m ∈ DataW.weightsAll P e (xs.map (·.1)), m ≤ B) → ∀ i ∈ l, ∃ y, g i = some y ∧ ∀ m ∈ y.1.weights P e, m ≤ B
 | [], _, _, _, f, hf => by cases hf
 | a :: fs, xs, h, hb, f, hf => by
  rw [List.mapM_cons] at h
  cases hx : g a with
  | none => rw [hx] at h; cases h
  | some z =>
   rw [hx] at h
   cases hl : fs.mapM g with
   | none => rw [hl] at h; cases h
   | some ys =>
    rw [hl] at h
    obtain rfl : z :: ys = xs := Option.some.inj h
    simp only [List.map_cons, DataW.weightsAll, List.mem_append] at hb
    rcases List.mem_cons.1 hf with rfl | hf
    ·exact ⟨z, hx, fun m hm => hb m (.inl hm)⟩
    ·exact all_bound hl (fun m hm => hb m (.inr hm)) f hf
theorem flatFB {B : Nat} {w : World} {base : Nat} {sp : Nat → Bool} {held : Bool} {fuel n : Nat} {cs : List Value}
    (ih : ∀ {t : TypeId} {ls : List Leaf} {cs : List Value} {x : DataW H × List MemPlace}, leaves P n t = some ls → DataW.trod enc P w base sp held fuel t cs = some x → (∀ m ∈ x.1.weights P t, m ≤ B) → fitsB B ls cs) :
    ∀ (fs : List Field) (off : Nat) (l : List Leaf), leavesF (leaves P n) P.cellsOf fs off = some l → (∀ f ∈ fs, ∃ y, DataW.trod enc P w base sp held fuel f.type ((cs.drop f.offset).take (P.cellsOf f.type)) = some y ∧ ∀ m ∈ y.1.weights P f.type, m ≤ B) →
     fitsB B l ((cs.drop off).take l.length)
 | [], off, l, h, _ => by
  obtain rfl : [] = l := Option.some.inj h
  exact trivial
 | f :: fs, off, l, h, hy => by
  unfold leavesF at h
  split at h
  ·rename_i lf l' hf hfs
   split at h
   ·rename_i ho
    obtain ⟨rfl, hlen⟩ := ho
    obtain rfl : lf ++ l' = l := Option.some.inj h
    obtain ⟨y, hy0, hb⟩ := hy f List.mem_cons_self
    have h1 := ih hf hy0 hb
    have h3 := flatFB ih fs _ l' hfs fun g hg => hy g (List.mem_cons_of_mem _ hg)
    rw [List.length_append, List.take_add, hlen, List.drop_drop]
    exact fitsB_append h1 h3
   ·cases h
  ·cases h
theorem flatAB {B : Nat} {l : List Leaf} {C : Nat} {cs : List Value} (hl : l.length = C) : ∀ m, (∀ i, i < m → fitsB B l ((cs.drop (i * C)).take C)) → fitsB B (leavesA l m) (cs.take (m * C))
 | 0, _ => by simp [leavesA, fitsB]
 | m + 1, h => by
  rw [leavesA, Nat.succ_mul, List.take_add]
  exact fitsB_append (flatAB hl m fun i hi => h i (by omega)) (h m (by omega))
theorem flatB {B : Nat} {w : World} {base : Nat} {sp : Nat → Bool} {held : Bool} : ∀ (fuel n : Nat) {t : TypeId} {ls : List Leaf} {cs : List Value} {x : DataW H × List MemPlace},
    leaves P n t = some ls → DataW.trod enc P w base sp held fuel t cs = some x → (∀ m ∈ x.1.weights P t, m ≤ B) → fitsB B ls cs
 | 0, _, _, _, _, _, _, h, _ => by simp [DataW.trod] at h
 | _, 0, _, _, _, _, h, _, _ => by cases h
 | fuel + 1, n + 1, t, ls, cs, x, hl, h, hb => by
  have ih : ∀ {t : TypeId} {ls : List Leaf} {cs : List Value} {x : DataW H × List MemPlace}, leaves P n t = some ls → DataW.trod enc P w base sp held fuel t cs = some x → (∀ m ∈ x.1.weights P t, m ≤ B) → fitsB B ls cs := fun h1 h2 h3 => flatB fuel n h1 h2 h3
  unfold leaves at hl
  cases hu : P.underlying t with
  | none => rw [hu] at hl; cases hl
  | some u =>
   rw [hu] at hl
   cases u with
   | bool =>
    simp only [Option.some.injEq] at hl
    subst hl
    obtain ⟨b, rfl, rfl⟩ := DataW.trod_bool hu h
    exact ⟨⟨b, rfl⟩, trivial⟩
   | int k =>
    simp only [Option.some.injEq] at hl
    subst hl
    obtain ⟨m, rfl, rfl, h1⟩ := DataW.trod_int hu h
    exact ⟨⟨m, rfl, h1⟩, trivial⟩
   | string =>
    simp only [Option.some.injEq] at hl
    subst hl
    obtain ⟨s, rfl, rfl, h1⟩ := DataW.trod_string hu h
    have := hb s.data.toList.length (by simp [DataW.weights])
    exact ⟨⟨s, rfl, by simpa using this⟩, trivial⟩
   | struct fs =>
    simp only at hl
    split at hl
    ·rename_i l hf
     split at hl
     ·rename_i hlen
      obtain rfl : l = ls := Option.some.inj hl
      unfold DataW.trod at h
      simp only [hu] at h
      split at h
      ·rename_i hcs
       cases hm : fs.toList.mapM fun f => DataW.trod enc P w base sp held fuel f.type ((cs.drop f.offset).take (P.cellsOf f.type)) with
       | none => rw [hm] at h; cases h
       | some xs =>
        rw [hm] at h
        obtain rfl : (DataW.agg (xs.map (·.1)), xs.flatMap (·.2)) = x := Option.some.inj h
        have hb' : ∀ m ∈ DataW.weightsEach P (fs.toList.map (·.type)) (xs.map (·.1)), m ≤ B := fun m hm' => hb m (by simpa [DataW.weights, hu] using hm')
        have h1 := flatFB ih fs.toList 0 l hf (each_bound hm hb')
        rw [List.drop_zero, List.take_of_length_le (by omega)] at h1
        exact h1
      ·cases h
     ·cases hl
    ·cases hl
   | array m e =>
    simp only at hl
    split at hl
    ·rename_i l hf
     split at hl
     ·rename_i hlen
      obtain rfl : leavesA l m = ls := Option.some.inj hl
      unfold DataW.trod at h
      simp only [hu] at h
      split at h
      ·rename_i hcs
       cases hm : (List.range m).mapM fun i => DataW.trod enc P w base sp held fuel e ((cs.drop (i * P.cellsOf e)).take (P.cellsOf e)) with
       | none => rw [hm] at h; cases h
       | some xs =>
        rw [hm] at h
        obtain rfl : (DataW.agg (xs.map (·.1)), xs.flatMap (·.2)) = x := Option.some.inj h
        have hb' : ∀ m ∈ DataW.weightsAll P e (xs.map (·.1)), m ≤ B := fun m hm' => hb m (by simpa [DataW.weights, hu] using hm')
        have := flatAB (B := B) (cs := cs) hlen.1 m fun i hi => by
            obtain ⟨y, hy, hy2⟩ := all_bound hm hb' i (List.mem_range.2 hi)
            exact ih hf hy hy2
        rw [hlen.2, List.take_of_length_le (by omega)] at this
        exact this
      ·cases h
     ·cases hl
    ·cases hl
   | _ => simp at hl
theorem open_flatB {W : World} {r : Reach} {base : Nat} {sp0 : Nat → Bool} {t : TypeId} {v : Value} {d : DataW H} {p : List MemPlace} {ls : List Leaf} {ts : List TypeId} {ds : List (DataW H)} {j : Nat} (n : Nat)
    (hl : leaves P n t = some ls) (ha : isAggT P t = true) (hR : (DataW.weightsEach P ts ds).all (· ≤ reachBytes) = true) (ht : ts[j]? = some t) (hd : ds[j]? = some d) (hv : Value.okWide P W r base t v) (h : DataW.Trod enc P W 0 sp0 true t v d p) :
    ∃ cs : List Value, v = .agg ⟨cs⟩ ∧ p = [] ∧ fitsB reachBytes ls cs ∧ ∀ (W' : World) (sp : Nat → Bool), DataW.Trod enc P W' 0 sp true t (.agg ⟨cs⟩) d [] := by
 obtain ⟨cs, rfl, hp, _, hs⟩ := open_flat n hl ha hv h
 refine ⟨cs, rfl, hp, ?_, hs⟩
 obtain ⟨fuel, hf⟩ := h
 refine flatB fuel n hl hf fun m hm => ?_
 have := List.all_eq_true.1 hR _ (DataW.weights_mem_each ht hd m hm)
 simpa using this
end
end Go.Flat
