/- No program in sight: as XRel's law, for a region with one store s among its head: an operation that s waits for still meets the world unstored (Rel0), any other one either world (Rel). -/
import Derived.Test.YthdaimoankaciaaGreatDoorRel
namespace Go
open Go.RowKit
section
variable {P : Program} {ops : Array Oper}
def waitsB (os : Oper) (i : Nat) : Bool := os.after.any fun e => Region.binds .any e && e.on == i
def SSteps (P : Program) (Rel0 Rel : World → World → Prop) (w : World) (A : (Nat → Value) → Act) (T : Nat → Value → World → Prop) (s : Nat) (bs : List Nat) : List Oper → Nat → Prop
 | [], _ => True
 | o :: l, i => (∀ xs w', Rel w w' → ((i = s ∨ bs.contains i = true) → Rel0 w w') → (∀ j, waitsB o j = true → T j (xs j) w') →
     wpList P ops (fun ex a' w'' => ex = .normal ∧ (if i = s then Rel w' w'' else Rel0 w' w'') ∧ ∃ v, a' = A (fun j => if j = i then v else xs j) ∧ T i v w'') [o] (A xs) w') ∧ SSteps P Rel0 Rel w A T s bs l (i + 1)
theorem SSteps.mk {Rel0 Rel : World → World → Prop} {w : World} {A : (Nat → Value) → Act} {T : Nat → Value → World → Prop} {s : Nat} {bs : List Nat} {o : Oper} {l : List Oper} {i : Nat}
    (h : ∀ xs w', Rel w w' → ((i = s ∨ bs.contains i = true) → Rel0 w w') → (∀ j, waitsB o j = true → T j (xs j) w') →
     wpList P ops (fun ex a' w'' => ex = .normal ∧ (if i = s then Rel w' w'' else Rel0 w' w'') ∧ ∃ v, a' = A (fun j => if j = i then v else xs j) ∧ T i v w'') [o] (A xs) w') (t : SSteps (ops := ops) P Rel0 Rel w A T s bs l (i + 1)) : SSteps (ops := ops) P Rel0 Rel w A T s bs (o :: l) i := ⟨h, t⟩
theorem SSteps.at {Rel0 Rel : World → World → Prop} {w : World} {A : (Nat → Value) → Act} {T : Nat → Value → World → Prop} {s : Nat} {bs : List Nat} : ∀ {l : List Oper} {k i : Nat} {o : Oper}, SSteps (ops := ops) P Rel0 Rel w A T s bs l k → l[i]? = some o →
    ∀ xs w', Rel w w' → ((k + i = s ∨ bs.contains (k + i) = true) → Rel0 w w') → (∀ j, waitsB o j = true → T j (xs j) w') →
     wpList P ops (fun ex a' w'' => ex = .normal ∧ (if k + i = s then Rel w' w'' else Rel0 w' w'') ∧ ∃ v, a' = A (fun j => if j = k + i then v else xs j) ∧ T (k + i) v w'') [o] (A xs) w'
 | [], _, _, _, _, h => by cases h
 | o :: l, k, 0, o', hs, h => by
  have e : o = o' := by simpa using h
  subst e
  exact hs.1
 | o :: l, k, i + 1, o', hs, h => by
  have := SSteps.at hs.2 (i := i) (o := o') (by simpa using h)
  rw [show k + 1 + i = k + (i + 1) by omega] at this
  exact this
theorem ssteps_any {Rel0 Rel : World → World → Prop} {l : List Oper} {n g s : Nat} {os : Oper} {bs : List Nat} {Q' : Exit → Act → World → Prop} {A : (Nat → Value) → Act} {T : Nat → Value → World → Prop} {w w1 : World} {xs0 : Nat → Value} (hn : n ≤ l.toArray.size)
    (htr : ∀ a b c, Rel a b → Rel b c → Rel a c) (htr0 : ∀ a b c, Rel0 a b → Rel0 b c → Rel0 a c) (h01 : ∀ a b, Rel0 a b → Rel a b)
    (hlow : Region.earlierB .any l.toArray = true) (hT : ∀ i v w1 w2, Rel w1 w2 → T i v w1 → T i v w2)
    (hos : l.toArray[s]? = some os) (hbs : bs.all (waitsB os) = true)
    (hwait : ∀ listed, HeadInv .any l.toArray n listed → 0 < unlisted n listed → ∀ j ∈ Region.ready .any l.toArray listed, j < n)
    (hs : SSteps (ops := l.toArray) P Rel0 Rel w A T s bs (l.take n) 0) (h1 : Rel0 w w1)
    (hL : ∀ xs w', Rel w w' → (∀ i, i < n → T i (xs i) w') → wpAny P .any l.toArray Q' g (Region.head l.toArray.size n) (A xs) w') :
    wpAny P .any l.toArray Q' (unlisted n (Array.replicate l.toArray.size false) + g) (Array.replicate l.toArray.size false) (A xs0) w1 := by
 refine wpAny_inv (Inv := fun listed a w' => Rel w w' ∧ (listed.getD s false = false → Rel0 w w') ∧ ∃ xs, a = A xs ∧ ∀ i, i < n → listed.getD i false = true → T i (xs i) w') hn hlow hwait ?_ ?_ _ _ _ _ rfl
  ⟨by simp, fun j oj _ hl => (by rw [getD_replicate_false] at hl; cases hl), fun t _ ht => getD_in (by simpa using ht) (getD_replicate_false _ _)⟩ ⟨h01 _ _ h1, fun _ => h1, xs0, rfl, fun i _ hl => by rw [getD_replicate_false] at hl; cases hl⟩
 ·intro i hi listed a w' inv ⟨hw, hw0, xs, hax, hfacts⟩ hr
  subst hax
  obtain ⟨hun, o, ho, hall⟩ := mem_ready.1 hr
  have hlo : (l.take n)[i]? = some o := by
   rw [List.getElem?_take_of_lt hi]; simpa using ho
  have h := hs.at hlo xs w' hw (fun hb => by
   rw [Nat.zero_add] at hb
   apply hw0
   rcases hb with hb | hb
   ·rw [← hb]; exact getD_both hun
   have hwb : waitsB os i = true := by
    rw [List.all_eq_true] at hbs
    exact hbs i (by simpa using hb)
   unfold waitsB at hwb
   rw [Array.any_eq_true] at hwb
   obtain ⟨k, hk, hj⟩ := hwb
   simp only [Bool.and_eq_true, beq_iff_eq] at hj
   obtain ⟨hb1, hb2⟩ := hj
   cases hl : listed.getD s false with
   | false => rfl
   | true =>
    have h3 := inv.closed s os hos hl _ (Array.getElem_mem hk) hb1
    rw [hb2] at h3
    have h4 := getD_both hun
    rw [h3] at h4
    cases h4) (fun j hj => by
   unfold waitsB at hj
   rw [Array.any_eq_true] at hj
   obtain ⟨k, hk, hj⟩ := hj
   simp only [Bool.and_eq_true, beq_iff_eq] at hj
   obtain ⟨hb, rfl⟩ := hj
   have hlt := Region.earlier_spec hlow ho _ (Array.getElem_mem hk) hb
   exact hfacts _ (by omega) (hall _ (Array.getElem_mem hk) hb))
  rw [Nat.zero_add] at h
  refine wpOp_of_list ho (R := fun a' w'' => (if i = s then Rel w' w'' else Rel0 w' w'') ∧ ∃ v, a' = A (fun j => if j = i then v else xs j) ∧ T i v w'') ?_ h
  rintro a' w'' ⟨hb, v, rfl, ht⟩
  have hb1 : Rel w' w'' := by
   by_cases e : i = s
   ·rw [if_pos e] at hb; exact hb
   ·rw [if_neg e] at hb; exact h01 _ _ hb
  refine ⟨htr _ _ _ hw hb1, fun hl => ?_, _, rfl, fun j hj hl => ?_⟩
  ·by_cases e : i = s
   ·subst e
    have hlt : i < listed.size := by
     rw [inv.size]; omega
    rw [Array.getD_eq_getD_getElem?, Array.getElem?_setIfInBounds, if_pos rfl, if_pos hlt] at hl
    cases hl
   ·rw [if_neg e] at hb
    rw [getD_set_ne false e] at hl
    exact htr0 _ _ _ (hw0 hl) hb
  show T j (if j = i then v else xs j) w''
  by_cases hji : j = i
  ·subst hji; rw [if_pos rfl]; exact ht
  ·rw [if_neg hji]
   rw [getD_set_ne false (Ne.symm hji)] at hl
   exact hT j _ _ _ hb1 (hfacts j hj hl)
 ·rintro a w' ⟨hw, _, xs, rfl, hfacts⟩
  refine hL xs w' hw fun i hi => hfacts i hi ?_
  have hsz : i < l.toArray.size := by omega
  rw [head_getD _ _ _ _ hsz]
  simpa using hi
theorem wp_region_sto_t {Rel0 Rel : World → World → Prop} {id : Nat} {Q : Exit → Act → World → Prop} {a : Act} {w : World} {l : List Oper} (n s : Nat) (bs : List Nat) (T : Nat → Value → World → Prop) (hm : P.follows .mixedOrders = true)
    (hB : (Region.earlierB .any l.toArray && decide (n < l.toArray.size) && Region.sinkB .any l.toArray n && Region.chainB .any l.toArray n && Region.seqB .any l.toArray (l.toArray.size - n) n (Region.head l.toArray.size n)) = true)
    (hbs : (match l[s]? with | some os => bs.all (waitsB os) | none => false) = true)
    (htr : ∀ a b c, Rel a b → Rel b c → Rel a c) (htr0 : ∀ a b c, Rel0 a b → Rel0 b c → Rel0 a c) (h01 : ∀ a b, Rel0 a b → Rel a b) (h0 : Rel0 w { w with drawn := w.drawn + 1 })
    (hT : ∀ i v w1 w2, Rel w1 w2 → T i v w1 → T i v w2)
    (hs : SSteps (ops := l.toArray) P Rel0 Rel w (fun xs => fill a xs (l.take n) 0) T s bs (l.take n) 0)
    (hend : ∀ xs w', Rel w w' → (∀ i, i < n → T i (xs i) w') → wpList P l.toArray Q (l.drop n) (fill a xs (l.take n) 0) w') : (Code.region id l.toArray true).wp P Q a w := by
 have ha := (fill_self a (l.take n) 0).symm
 simp only [Bool.and_eq_true, decide_eq_true_eq] at hB
 obtain ⟨⟨⟨⟨hlow, hn⟩, hsk⟩, hc⟩, hseq⟩ := hB
 refine wp_region_any hm ?_
 have hdl : (l.drop n).length = l.toArray.size - n := by simp
 cases hos : l[s]? with
 | none => rw [hos] at hbs; cases hbs
 | some os =>
 rw [hos] at hbs
 have h := ssteps_any (P := P) (l := l) (n := n) (g := l.toArray.size - n) (s := s) (os := os) (bs := bs) (Q' := Q) (A := fun xs => fill a xs (l.take n) 0) (T := T) (w := w) (w1 := { w with drawn := w.drawn + 1 }) (xs0 := fun j => (((l.take n)[j - 0]?).map (readDst a)).getD undef) (Nat.le_of_lt hn) htr htr0 h01 hlow hT (by simpa using hos) hbs
  (fun listed inv hpos j hj => by
   obtain ⟨i, hi, hun, _⟩ := unlisted_pos hpos
   exact Nat.lt_of_not_le fun h => tail_waits hsk hc hn inv _ i rfl hi hun j h hj)
  hs h0
  (fun xs w' hw hf => by
   have h3 := wpAny_of_seq (P := P) (md := .any) (ops := l.toArray) (Q' := Q) (l.drop n) n (Region.head l.toArray.size n) (fill a xs (l.take n) 0) w' (fun j => by simp [List.getElem?_drop]) (by rw [hdl]; exact hseq) (hend xs w' hw hf)
   rwa [hdl] at h3)
 rw [unlisted_all _ _ (Nat.le_of_lt hn), show n + (l.toArray.size - n) = l.toArray.size by omega] at h
 rw [← ha] at h
 exact h
end
def BR (w w' : World) : Prop := Below w.heap.size w w'
theorem BR.refl (w : World) : BR w w := Below.refl _ _
theorem BR.trans {a b c : World} (h1 : BR a b) (h2 : BR b c) : BR a c := Below.trans (show Below a.heap.size a b from h1) (Below.mono (show Below b.heap.size b c from h2) (Below.size h1))
theorem BR.split {w w' : World} (h : BR w w') : ∃ u, w' = w.plus u := World.plus_of_below h
end Go
