/- No program in sight: a region that draws its order, one of whose stores may come ahead of reads: a relation between worlds that lets one block k turn into a known object takes the place of 'all old blocks alike'; the store is a step of its own. -/
import Derived.Test.YthdaimoankaciaaGreatDoorKinds
import Derived.Test.YthdaimoankaciaaGreatDoorRow
namespace Go
open Go.RowKit
section
variable {P : Program} {ops : Array Oper}
def RSteps (P : Program) (ops : Array Oper) (Rel : World → World → Prop) (A : (Nat → Value) → Act) (C : World → Prop) (T : Nat → Value → World → Prop) : List Oper → Nat → Prop
 | [], _ => True
 | o :: l, i => (∀ xs w', C w' → (∀ j, (o.after.any fun e => Region.binds .any e && e.on == j) = true → T j (xs j) w') →
     wpList P ops (fun ex a' w'' => ex = .normal ∧ Rel w' w'' ∧ ∃ v, a' = A (fun j => if j = i then v else xs j) ∧ T i v w'') [o] (A xs) w') ∧ RSteps P ops Rel A C T l (i + 1)
theorem RSteps.at {Rel : World → World → Prop} {A : (Nat → Value) → Act} {C : World → Prop} {T : Nat → Value → World → Prop} : ∀ {l : List Oper} {k i : Nat} {o : Oper}, RSteps P ops Rel A C T l k → l[i]? = some o →
    ∀ xs w', C w' → (∀ j, (o.after.any fun e => Region.binds .any e && e.on == j) = true → T j (xs j) w') →
     wpList P ops (fun ex a' w'' => ex = .normal ∧ Rel w' w'' ∧ ∃ v, a' = A (fun j => if j = k + i then v else xs j) ∧ T (k + i) v w'') [o] (A xs) w'
 | [], _, _, _, _, h => by cases h
 | o :: l, k, 0, o', hs, h => by
  have e : o = o' := by simpa using h
  subst e
  exact hs.1
 | o :: l, k, i + 1, o', hs, h => by
  have := RSteps.at hs.2 (i := i) (o := o') (by simpa using h)
  rw [show k + 1 + i = k + (i + 1) by omega] at this
  exact this
theorem RSteps.cons {Rel : World → World → Prop} {A : (Nat → Value) → Act} {C : World → Prop} {T : Nat → Value → World → Prop} {o : Oper} {l : List Oper} {i : Nat}
    (h : ∀ xs w', C w' → (∀ j, (o.after.any fun e => Region.binds .any e && e.on == j) = true → T j (xs j) w') →
     wpList P ops (fun ex a' w'' => ex = .normal ∧ Rel w' w'' ∧ ∃ v, a' = A (fun j => if j = i then v else xs j) ∧ T i v w'') [o] (A xs) w') (t : RSteps P ops Rel A C T l (i + 1)) : RSteps P ops Rel A C T (o :: l) i := ⟨h, t⟩
theorem rsteps_any {Rel : World → World → Prop} {l : List Oper} {n g : Nat} {Q' : Exit → Act → World → Prop} {A : (Nat → Value) → Act} {T : Nat → Value → World → Prop} {w w1 : World} {xs0 : Nat → Value} (hn : n ≤ l.toArray.size)
    (htr : ∀ a b c, Rel a b → Rel b c → Rel a c)
    (hlow : Region.earlierB .any l.toArray = true) (hT : ∀ i v w1 w2, Rel w1 w2 → T i v w1 → T i v w2)
    (hwait : ∀ listed, HeadInv .any l.toArray n listed → 0 < unlisted n listed → ∀ j ∈ Region.ready .any l.toArray listed, j < n)
    (hs : RSteps P l.toArray Rel A (fun w' => Rel w w') T (l.take n) 0) (h1 : Rel w w1)
    (hL : ∀ xs w', Rel w w' → (∀ i, i < n → T i (xs i) w') → wpAny P .any l.toArray Q' g (Region.head l.toArray.size n) (A xs) w') :
    wpAny P .any l.toArray Q' (unlisted n (Array.replicate l.toArray.size false) + g) (Array.replicate l.toArray.size false) (A xs0) w1 := by
 refine wpAny_inv (Inv := fun listed a w' => Rel w w' ∧ ∃ xs, a = A xs ∧ ∀ i, i < n → listed.getD i false = true → T i (xs i) w') hn hlow hwait ?_ ?_ _ _ _ _ rfl
  ⟨by simp, fun j oj _ hl => (by rw [getD_replicate_false] at hl; cases hl), fun t _ ht => getD_in (by simpa using ht) (getD_replicate_false _ _)⟩ ⟨h1, xs0, rfl, fun i _ hl => by rw [getD_replicate_false] at hl; cases hl⟩
 ·intro i hi listed a w' inv ⟨hw, xs, hax, hfacts⟩ hr
  subst hax
  obtain ⟨hun, o, ho, hall⟩ := mem_ready.1 hr
  have hlo : (l.take n)[i]? = some o := by
   rw [List.getElem?_take_of_lt hi]; simpa using ho
  have h := hs.at hlo xs w' hw (fun j hj => by
   rw [Array.any_eq_true] at hj
   obtain ⟨k, hk, hj⟩ := hj
   simp only [Bool.and_eq_true, beq_iff_eq] at hj
   obtain ⟨hb, rfl⟩ := hj
   have hlt := Region.earlier_spec hlow ho _ (Array.getElem_mem hk) hb
   exact hfacts _ (by omega) (hall _ (Array.getElem_mem hk) hb))
  rw [Nat.zero_add] at h
  refine wpOp_of_list ho (R := fun a' w'' => Rel w' w'' ∧ ∃ v, a' = A (fun j => if j = i then v else xs j) ∧ T i v w'') ?_ h
  rintro a' w'' ⟨hb, v, rfl, ht⟩
  refine ⟨htr _ _ _ hw hb, _, rfl, fun j hj hl => ?_⟩
  show T j (if j = i then v else xs j) w''
  by_cases hji : j = i
  ·subst hji; rw [if_pos rfl]; exact ht
  ·rw [if_neg hji]
   rw [getD_set_ne false (Ne.symm hji)] at hl
   exact hT j _ _ _ hb (hfacts j hj hl)
 ·rintro a w' ⟨hw, xs, rfl, hfacts⟩
  refine hL xs w' hw fun i hi => hfacts i hi ?_
  have hsz : i < l.toArray.size := by omega
  rw [head_getD _ _ _ _ hsz]
  simpa using hi
theorem wp_region_rel_t {Rel : World → World → Prop} {id : Nat} {Q : Exit → Act → World → Prop} {a : Act} {w : World} {l : List Oper} (n : Nat) (T : Nat → Value → World → Prop) (hm : P.follows .mixedOrders = true)
    (hB : (Region.earlierB .any l.toArray && decide (n < l.toArray.size) && Region.sinkB .any l.toArray n && Region.chainB .any l.toArray n && Region.seqB .any l.toArray (l.toArray.size - n) n (Region.head l.toArray.size n)) = true)
    (htr : ∀ a b c, Rel a b → Rel b c → Rel a c) (h0 : Rel w { w with drawn := w.drawn + 1 })
    (hT : ∀ i v w1 w2, Rel w1 w2 → T i v w1 → T i v w2)
    (hs : RSteps P l.toArray Rel (fun xs => fill a xs (l.take n) 0) (fun w' => Rel w w') T (l.take n) 0)
    (hend : ∀ xs w', Rel w w' → (∀ i, i < n → T i (xs i) w') → wpList P l.toArray Q (l.drop n) (fill a xs (l.take n) 0) w') : (Code.region id l.toArray true).wp P Q a w := by
 have ha := (fill_self a (l.take n) 0).symm
 simp only [Bool.and_eq_true, decide_eq_true_eq] at hB
 obtain ⟨⟨⟨⟨hlow, hn⟩, hsk⟩, hc⟩, hseq⟩ := hB
 refine wp_region_any hm ?_
 have hdl : (l.drop n).length = l.toArray.size - n := by simp
 have h := rsteps_any (P := P) (l := l) (n := n) (g := l.toArray.size - n) (Q' := Q) (A := fun xs => fill a xs (l.take n) 0) (T := T) (w := w) (w1 := { w with drawn := w.drawn + 1 }) (xs0 := fun j => (((l.take n)[j - 0]?).map (readDst a)).getD undef) (Nat.le_of_lt hn) htr hlow hT
  (fun listed inv hpos j hj => by
   obtain ⟨i, hi, hun, _⟩ := unlisted_pos hpos
   exact Nat.lt_of_not_le fun h => tail_waits hsk hc hn inv _ i rfl hi hun j h hj)
  hs h0
  (fun xs w' hw hf => by
   have h3 := wpAny_of_seq (P := P) (md := .any) (ops := l.toArray) (Q' := Q) (l.drop n) n (Region.head l.toArray.size n) (fill a xs (l.take n) 0) w' (fun j => by simp [List.getElem?_drop]) (by rw [hdl]; exact hseq) (hend xs w' hw hf)
   rwa [hdl] at h3)
 rw [unlisted_all _ _ (Nat.le_of_lt hn), show n + (l.toArray.size - n) = l.toArray.size by omega] at h
 rw [← ha] at h
 exact h
end
def SR (k : Nat) (O : Obj) (w w' : World) : Prop := w'.os = w.os ∧ w'.tape = w.tape ∧ w'.output = w.output ∧ w.heap.size ≤ w'.heap.size ∧ (∀ j, j < w.heap.size → j ≠ k → w'.heap[j]? = w.heap[j]?) ∧ (k < w.heap.size → w'.heap[k]? = w.heap[k]? ∨ w'.heap[k]? = some O)
theorem SR.of_below {k : Nat} {O : Obj} {w w' : World} (h : Below w.heap.size w w') : SR k O w w' := ⟨h.os, h.tape, h.output, h.size, fun j hj _ => h.block j hj, fun hk => .inl (h.block k hk)⟩
theorem SR.refl (k : Nat) (O : Obj) (w : World) : SR k O w w := SR.of_below (Below.refl _ _)
theorem SR.trans {k : Nat} {O : Obj} {a b c : World} (h1 : SR k O a b) (h2 : SR k O b c) : SR k O a c := by
 obtain ⟨a1, a2, a3, a4, a5, a6⟩ := h1
 obtain ⟨b1, b2, b3, b4, b5, b6⟩ := h2
 refine ⟨b1.trans a1, b2.trans a2, b3.trans a3, Nat.le_trans a4 b4, fun j hj hne => (b5 j (by omega) hne).trans (a5 j hj hne), fun hk => ?_⟩
 rcases b6 (by omega) with h | h
 ·rcases a6 hk with h' | h'
  ·exact .inl (h.trans h')
  ·exact .inr (h.trans h')
 ·exact .inr h
theorem SR.split {k : Nat} {ty : TypeId} {c0 c1 : Array Value} {W w' : World} (hk : k < W.heap.size) (h : SR k (.cells c1 ty (0, 0)) (W.row k ty c0) w') : (∃ u, w' = (W.row k ty c0).plus u) ∨ (∃ u, w' = (W.row k ty c1).plus u) := by
 obtain ⟨a1, a2, a3, a4, a5, a6⟩ := h
 rw [World.size_row] at a4 a5 a6
 rcases a6 hk with h' | h'
 ·refine .inl (World.plus_of_below ⟨a1, a2, a3, by rw [World.size_row]; exact a4, fun j hj => ?_⟩)
  rw [World.size_row] at hj
  by_cases e : j = k
  ·subst e; exact h'
  ·exact a5 j hj e
 ·refine .inr (World.plus_of_below ⟨a1, a2, a3, by rw [World.size_row]; exact a4, fun j hj => ?_⟩)
  rw [World.size_row] at hj
  by_cases e : j = k
  ·subst e; rw [h', World.heap_row_same _ _ _ _ hk]
  ·rw [a5 j hj e, World.heap_row_other _ _ _ _ _ e, World.heap_row_other _ _ _ _ _ e]
theorem SR.store {k : Nat} {ty : TypeId} {c c1 : Array Value} {W u : World} (hk : k < W.heap.size) : SR k (.cells c1 ty (0, 0)) ((W.row k ty c).plus u) ((W.row k ty c1).plus u) ∧ ((W.row k ty c1).plus u).heap[k]? = some (.cells c1 ty (0, 0)) := by
 have hs : ∀ cs, ((W.row k ty cs).plus u).heap.size = (W.plus u).heap.size := fun cs => by
  show ((W.row k ty cs).heap ++ u.heap.extract (W.row k ty cs).heap.size u.heap.size).size = (W.heap ++ u.heap.extract W.heap.size u.heap.size).size
  rw [Array.size_append, Array.size_append, World.size_row]
 have hat : ((W.row k ty c1).plus u).heap[k]? = some (.cells c1 ty (0, 0)) := by rw [World.heap_plus _ _ _ (by rw [World.size_row]; exact hk), World.heap_row_same _ _ _ _ hk]
 refine ⟨⟨rfl, rfl, rfl, by rw [hs, hs]; exact Nat.le_refl _, fun j hj hne => ?_, fun _ => .inr hat⟩, hat⟩
 show ((W.row k ty c1).heap ++ u.heap.extract (W.row k ty c1).heap.size u.heap.size)[j]? = ((W.row k ty c).heap ++ u.heap.extract (W.row k ty c).heap.size u.heap.size)[j]?
 rw [World.size_row, World.size_row]
 by_cases hlt : j < W.heap.size
 ·rw [Array.getElem?_append_left (by rw [World.size_row]; exact hlt), Array.getElem?_append_left (by rw [World.size_row]; exact hlt), World.heap_row_other _ _ _ _ _ hne, World.heap_row_other _ _ _ _ _ hne]
 ·rw [Array.getElem?_append_right (by rw [World.size_row]; omega), Array.getElem?_append_right (by rw [World.size_row]; omega), World.size_row, World.size_row]
end Go
