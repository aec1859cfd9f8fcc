/- No program in sight: as XKinds' law; a step also knows what the slots hold that later operations write. -/
import Derived.Test.YthdaimoankaciaaGreatDoorRelB
namespace Go
open Go.RowKit
section
variable {P : Program} {ops : Array Oper}
def USteps (P : Program) (w : World) (A : (Nat → Value) → Act) (T : Nat → Value → World → Prop) (xs0 : Nat → Value) : List Oper → Nat → Prop
 | [], _ => True
 | o :: l, i => (∀ xs w', Below w.heap.size w w' → (∀ j, waitsB o j = true → T j (xs j) w') → (∀ j oj, ops[j]? = some oj → waitsB oj i = true → xs j = xs0 j) →
     wpList P ops (fun ex a' w'' => ex = .normal ∧ Below w'.heap.size w' w'' ∧ ∃ v, a' = A (fun j => if j = i then v else xs j) ∧ T i v w'') [o] (A xs) w') ∧ USteps P w A T xs0 l (i + 1)
theorem USteps.cons {w : World} {A : (Nat → Value) → Act} {T : Nat → Value → World → Prop} {xs0 : Nat → Value} {o : Oper} {l : List Oper} {i : Nat}
    (h : ∀ xs w', Below w.heap.size w w' → (∀ j, waitsB o j = true → T j (xs j) w') → (∀ j oj, ops[j]? = some oj → waitsB oj i = true → xs j = xs0 j) →
     wpList P ops (fun ex a' w'' => ex = .normal ∧ Below w'.heap.size w' w'' ∧ ∃ v, a' = A (fun j => if j = i then v else xs j) ∧ T i v w'') [o] (A xs) w') (t : USteps (ops := ops) P w A T xs0 l (i + 1)) : USteps (ops := ops) P w A T xs0 (o :: l) i := ⟨h, t⟩
theorem USteps.nil {w : World} {A : (Nat → Value) → Act} {T : Nat → Value → World → Prop} {xs0 : Nat → Value} {i : Nat} : USteps (ops := ops) P w A T xs0 [] i := trivial
theorem USteps.at {w : World} {A : (Nat → Value) → Act} {T : Nat → Value → World → Prop} {xs0 : Nat → Value} : ∀ {l : List Oper} {k i : Nat} {o : Oper}, USteps (ops := ops) P w A T xs0 l k → l[i]? = some o →
    ∀ xs w', Below w.heap.size w w' → (∀ j, waitsB o j = true → T j (xs j) w') → (∀ j oj, ops[j]? = some oj → waitsB oj (k + i) = true → xs j = xs0 j) →
     wpList P ops (fun ex a' w'' => ex = .normal ∧ Below w'.heap.size w' w'' ∧ ∃ v, a' = A (fun j => if j = k + i then v else xs j) ∧ T (k + i) v w'') [o] (A xs) w'
 | [], _, _, _, _, h => by cases h
 | o :: l, k, 0, o', hs, h => by
  have e : o = o' := by simpa using h
  subst e
  exact hs.1
 | o :: l, k, i + 1, o', hs, h => by
  have := USteps.at hs.2 (i := i) (o := o') (by simpa using h)
  rw [show k + 1 + i = k + (i + 1) by omega] at this
  exact this
theorem usteps_any {l : List Oper} {n g : Nat} {Q' : Exit → Act → World → Prop} {A : (Nat → Value) → Act} {T : Nat → Value → World → Prop} {w w1 : World} {xs0 : Nat → Value} (hn : n ≤ l.toArray.size)
    (hlow : Region.earlierB .any l.toArray = true) (hT : ∀ i v w1 w2, Below w1.heap.size w1 w2 → T i v w1 → T i v w2)
    (hwait : ∀ listed, HeadInv .any l.toArray n listed → 0 < unlisted n listed → ∀ j ∈ Region.ready .any l.toArray listed, j < n)
    (hs : USteps (ops := l.toArray) P w A T xs0 (l.take n) 0) (h1 : Below w.heap.size w w1)
    (hL : ∀ xs w', Below w.heap.size w w' → (∀ i, i < n → T i (xs i) w') → wpAny P .any l.toArray Q' g (Region.head l.toArray.size n) (A xs) w') :
    wpAny P .any l.toArray Q' (unlisted n (Array.replicate l.toArray.size false) + g) (Array.replicate l.toArray.size false) (A xs0) w1 := by
 refine wpAny_inv (Inv := fun listed a w' => Below w.heap.size w w' ∧ ∃ xs, a = A xs ∧ (∀ i, i < n → listed.getD i false = true → T i (xs i) w') ∧ ∀ j, listed.getD j false = false → xs j = xs0 j) hn hlow hwait ?_ ?_ _ _ _ _ rfl
  ⟨by simp, fun j oj _ hl => (by rw [getD_replicate_false] at hl; cases hl), fun t _ ht => getD_in (by simpa using ht) (getD_replicate_false _ _)⟩ ⟨h1, xs0, rfl, (fun i _ hl => by rw [getD_replicate_false] at hl; cases hl), fun _ _ => rfl⟩
 ·intro i hi listed a w' inv ⟨hw, xs, hax, hfacts, hun0⟩ hr
  subst hax
  obtain ⟨hun, o, ho, hall⟩ := mem_ready.1 hr
  have hlo : (l.take n)[i]? = some o := by
   rw [List.getElem?_take_of_lt hi]; simpa using ho
  have h := hs.at hlo xs w' hw (fun j hj => by
   unfold waitsB at hj
   rw [Array.any_eq_true] at hj
   obtain ⟨k, hk, hj⟩ := hj
   simp only [Bool.and_eq_true, beq_iff_eq] at hj
   obtain ⟨hb, rfl⟩ := hj
   have hlt := Region.earlier_spec hlow ho _ (Array.getElem_mem hk) hb
   exact hfacts _ (by omega) (hall _ (Array.getElem_mem hk) hb)) (fun j oj hoj hwb => by
   rw [Nat.zero_add] at hwb
   apply hun0
   unfold waitsB at hwb
   rw [Array.any_eq_true] at hwb
   obtain ⟨k, hk, hj⟩ := hwb
   simp only [Bool.and_eq_true, beq_iff_eq] at hj
   obtain ⟨hb1, hb2⟩ := hj
   cases hl : listed.getD j false with
   | false => rfl
   | true =>
    have h3 := inv.closed j oj hoj hl _ (Array.getElem_mem hk) hb1
    rw [hb2] at h3
    have h4 := getD_both hun
    rw [h3] at h4
    cases h4)
  rw [Nat.zero_add] at h
  refine wpOp_of_list ho (R := fun a' w'' => Below w'.heap.size w' w'' ∧ ∃ v, a' = A (fun j => if j = i then v else xs j) ∧ T i v w'') ?_ h
  rintro a' w'' ⟨hb, v, rfl, ht⟩
  refine ⟨hw.trans (hb.mono hw.size), _, rfl, fun j hj hl => ?_, fun j hl => ?_⟩
  ·show T j (if j = i then v else xs j) w''
   by_cases hji : j = i
   ·subst hji; rw [if_pos rfl]; exact ht
   ·rw [if_neg hji]
    rw [getD_set_ne false (Ne.symm hji)] at hl
    exact hT j _ _ _ hb (hfacts j hj hl)
  ·show (if j = i then v else xs j) = xs0 j
   by_cases hji : j = i
   ·subst hji
    have hlt : j < listed.size := by rw [inv.size]; omega
    rw [Array.getD_eq_getD_getElem?, Array.getElem?_setIfInBounds, if_pos rfl, if_pos hlt] at hl
    cases hl
   ·rw [if_neg hji]
    rw [getD_set_ne false (Ne.symm hji)] at hl
    exact hun0 j hl
 ·rintro a w' ⟨hw, xs, rfl, hfacts, _⟩
  refine hL xs w' hw fun i hi => hfacts i hi ?_
  have hsz : i < l.toArray.size := by omega
  rw [head_getD _ _ _ _ hsz]
  simpa using hi
theorem wp_region_ufacts_t {id : Nat} {Q : Exit → Act → World → Prop} {a : Act} {w : World} {l : List Oper} (n : Nat) (T : Nat → Value → World → Prop) (hm : P.follows .mixedOrders = true)
    (hB : (Region.earlierB .any l.toArray && decide (n < l.toArray.size) && Region.sinkB .any l.toArray n && Region.chainB .any l.toArray n && Region.seqB .any l.toArray (l.toArray.size - n) n (Region.head l.toArray.size n)) = true)
    (hT : ∀ i v w1 w2, Below w1.heap.size w1 w2 → T i v w1 → T i v w2)
    (hs : USteps (ops := l.toArray) P w (fun xs => fill a xs (l.take n) 0) T (fun j => (((l.take n)[j - 0]?).map (readDst a)).getD undef) (l.take n) 0)
    (hend : ∀ xs w', Below w.heap.size w w' → (∀ i, i < n → T i (xs i) w') → wpList P l.toArray Q (l.drop n) (fill a xs (l.take n) 0) w') : (Code.region id l.toArray true).wp P Q a w := by
 have ha := (fill_self a (l.take n) 0).symm
 simp only [Bool.and_eq_true, decide_eq_true_eq] at hB
 obtain ⟨⟨⟨⟨hlow, hn⟩, hsk⟩, hc⟩, hseq⟩ := hB
 refine wp_region_any hm ?_
 have hdl : (l.drop n).length = l.toArray.size - n := by simp
 have h := usteps_any (P := P) (l := l) (n := n) (g := l.toArray.size - n) (Q' := Q) (A := fun xs => fill a xs (l.take n) 0) (T := T) (w := w) (w1 := { w with drawn := w.drawn + 1 }) (xs0 := fun j => (((l.take n)[j - 0]?).map (readDst a)).getD undef) (Nat.le_of_lt hn) hlow hT
  (fun listed inv hpos j hj => by
   obtain ⟨i, hi, hun, _⟩ := unlisted_pos hpos
   exact Nat.lt_of_not_le fun h => tail_waits hsk hc hn inv _ i rfl hi hun j h hj)
  hs ⟨rfl, rfl, rfl, Nat.le_refl _, fun _ _ => rfl⟩
  (fun xs w' hw hf => by
   have h3 := wpAny_of_seq (P := P) (md := .any) (ops := l.toArray) (Q' := Q) (l.drop n) n (Region.head l.toArray.size n) (fill a xs (l.take n) 0) w' (fun j => by simp [List.getElem?_drop]) (by rw [hdl]; exact hseq) (hend xs w' hw hf)
   rwa [hdl] at h3)
 rw [unlisted_all _ _ (Nat.le_of_lt hn), show n + (l.toArray.size - n) = l.toArray.size by omega] at h
 rw [← ha] at h
 exact h
end
end Go
