/- No program in sight: a region that draws its order, whose operations read old cells, reckon, and call functions that leave all old blocks as they were, is walked once, in the order of the text; the last operations (stores) may follow in their one order.
   The world behind such a call is 'w.plus u': the blocks of w, and behind them whatever u holds there. -/
import Derived.StillTail
import Derived.Deep.QuietTactic
import Derived.BigQuiet
import Derived.WalkKit
namespace Go
open Go.RowKit
def World.plus (w u : World) : World :=
 { heap := w.heap ++ u.heap.extract w.heap.size u.heap.size, tape := w.tape, drawn := u.drawn, os := w.os, output := w.output }
section
variable (w u : World)
theorem World.heap_plus (k : Nat) (h : k < w.heap.size) : (w.plus u).heap[k]? = w.heap[k]? := by
 show (w.heap ++ _)[k]? = _
 rw [Array.getElem?_append_left h]
theorem World.size_plus : w.heap.size ≤ (w.plus u).heap.size := by
 show _ ≤ (w.heap ++ _).size
 rw [Array.size_append]; omega
theorem World.below_plus : Below w.heap.size w (w.plus u) :=
 ⟨rfl, rfl, rfl, World.size_plus w u, fun k hk => World.heap_plus w u k hk⟩
theorem World.plus_of_below {w w' : World} (h : Below w.heap.size w w') : ∃ u, w' = w.plus u := by
 refine ⟨w', ?_⟩
 obtain ⟨h1, h2, h3, h4, h5⟩ := h
 have e : w'.heap = w.heap ++ w'.heap.extract w.heap.size w'.heap.size := by
  apply Array.ext_getElem?
  intro k
  by_cases hk : k < w.heap.size
  ·rw [Array.getElem?_append_left hk]; exact h5 k hk
  ·rw [Array.getElem?_append_right (by omega)]
   rw [Array.getElem?_extract]
   by_cases hk2 : k < w'.heap.size
   ·rw [if_pos (by omega)]; congr 1; omega
   ·rw [if_neg (by omega), Array.getElem?_eq_none (by omega)]
 unfold World.plus
 rw [← e, ← h1, ← h2, ← h3]
@[go_sem] theorem World.cell?_plus (n i : Nat) (h : n < w.heap.size) : (w.plus u).cell? ⟨n, i, none⟩ = w.cell? ⟨n, i, none⟩ :=
 World.cell?_of_block (World.heap_plus w u n h)
@[go_sem] theorem World.frozen?_plus (n i : Nat) (h : n < w.heap.size) : (w.plus u).frozen? ⟨n, i, none⟩ = w.frozen? ⟨n, i, none⟩ :=
 World.frozen?_of_block (World.heap_plus w u n h)
@[irreducible] def World.psz : Nat := (w.plus u).heap.size
theorem World.psz_eq : World.psz w u = (w.plus u).heap.size := by unfold World.psz; rfl
@[go_sem] theorem World.lt_plus (n : Nat) : (n < (w.plus u).heap.size) = (n < w.heap.size ∨ n < World.psz w u) := by
 rw [World.psz_eq]; have := World.size_plus w u; rw [eq_iff_iff]; omega
@[go_sem] theorem World.lt_plus1 (n k : Nat) : (n < (w.plus u).heap.size + k) = (n < w.heap.size + k ∨ n < World.psz w u + k) := by
 rw [World.psz_eq]; have := World.size_plus w u; rw [eq_iff_iff]; omega
@[go_sem] theorem World.lt_plus2 (n k l : Nat) : (n < (w.plus u).heap.size + k + l) = (n < w.heap.size + k + l ∨ n < World.psz w u + k + l) := by
 rw [World.psz_eq]; have := World.size_plus w u; rw [eq_iff_iff]; omega
@[go_sem] theorem World.lt_plus3 (n k l m : Nat) : (n < (w.plus u).heap.size + k + l + m) = (n < w.heap.size + k + l + m ∨ n < World.psz w u + k + l + m) := by
 rw [World.psz_eq]; have := World.size_plus w u; rw [eq_iff_iff]; omega
@[go_sem] theorem World.le_plus (n : Nat) : (n ≤ (w.plus u).heap.size) = (n ≤ w.heap.size ∨ n ≤ World.psz w u) := by
 rw [World.psz_eq]; have := World.size_plus w u; rw [eq_iff_iff]; omega
@[go_sem] theorem World.le_plus1 (n k : Nat) : (n ≤ (w.plus u).heap.size + k) = (n ≤ w.heap.size + k ∨ n ≤ World.psz w u + k) := by
 rw [World.psz_eq]; have := World.size_plus w u; rw [eq_iff_iff]; omega
@[go_sem] theorem World.le_plus2 (n k l : Nat) : (n ≤ (w.plus u).heap.size + k + l) = (n ≤ w.heap.size + k + l ∨ n ≤ World.psz w u + k + l) := by
 rw [World.psz_eq]; have := World.size_plus w u; rw [eq_iff_iff]; omega
@[go_sem] theorem World.ne_plus (n : Nat) : ((w.plus u).heap.size = n) = (¬ n < w.heap.size ∧ World.psz w u = n) := by
 rw [World.psz_eq]; have := World.size_plus w u; rw [eq_iff_iff]; omega
@[go_sem] theorem World.ne_plus1 (n k : Nat) : ((w.plus u).heap.size + k = n) = (¬ n < w.heap.size + k ∧ World.psz w u + k = n) := by
 rw [World.psz_eq]; have := World.size_plus w u; rw [eq_iff_iff]; omega
@[go_sem] theorem World.ne_plus2 (n k l : Nat) : ((w.plus u).heap.size + k + l = n) = (¬ n < w.heap.size + k + l ∧ World.psz w u + k + l = n) := by
 rw [World.psz_eq]; have := World.size_plus w u; rw [eq_iff_iff]; omega
@[go_sem] theorem World.ne_plus' (n : Nat) : (n = (w.plus u).heap.size) = (¬ n < w.heap.size ∧ n = World.psz w u) := by
 rw [World.psz_eq]; have := World.size_plus w u; rw [eq_iff_iff]; omega
@[go_sem] theorem World.ne_plus1' (n k : Nat) : (n = (w.plus u).heap.size + k) = (¬ n < w.heap.size + k ∧ n = World.psz w u + k) := by
 rw [World.psz_eq]; have := World.size_plus w u; rw [eq_iff_iff]; omega
@[go_sem] theorem World.ne_plus2' (n k l : Nat) : (n = (w.plus u).heap.size + k + l) = (¬ n < w.heap.size + k + l ∧ n = World.psz w u + k + l) := by
 rw [World.psz_eq]; have := World.size_plus w u; rw [eq_iff_iff]; omega
@[go_sem] theorem World.setCell_plus (n i : Nat) (v : Value) (h : n < w.heap.size) : (w.plus u).setCell ⟨n, i, none⟩ v = (w.setCell ⟨n, i, none⟩ v).plus u := by
 have hs : (w.setCell ⟨n, i, none⟩ v).heap.size = w.heap.size := by simp [World.setCell]
 unfold World.plus
 rw [hs]
 unfold World.setCell
 simp only [World.mk.injEq, and_true]
 apply Array.ext_getElem?
 intro k
 by_cases hk : k < w.heap.size
 ·rw [Array.getElem?_modify, Array.getElem?_append_left hk, Array.getElem?_append_left (by simpa using hk), Array.getElem?_modify]
 ·rw [Array.getElem?_modify, Array.getElem?_append_right (by omega), Array.getElem?_append_right (by simpa using hk), if_neg (by omega)]
  simp
end
theorem Below.plus {B : Nat} {a w : World} (h : Below B a w) (hB : B ≤ w.heap.size) (u : World) : Below B a (w.plus u) :=
 h.trans ((World.below_plus w u).mono hB)
theorem Below.plus0 {a w : World} (h : Below a.heap.size a w) (u : World) : Below a.heap.size a (w.plus u) := Below.plus h h.size u
theorem Below.alloc0 {a w : World} (h : Below a.heap.size a w) (o : Obj) : Below a.heap.size a (w.alloc o) := RowKit.Below.alloc h h.size o
def World.later (w w' : World) : Prop := ∃ u, w' = w.plus u
section
variable {P : Program} {ops : Array Oper} {md : Region.Mode} {C : World → Prop}
def wpAnyC (P : Program) (md : Region.Mode) (ops : Array Oper) (C : World → Prop) (n : Nat) (L : Array Bool → Act → Prop) : Nat → Array Bool → Act → Prop
 | 0, listed, a => L listed a
 | f + 1, listed, a =>
  Region.ready md ops listed ≠ [] ∧ ∀ i ∈ Region.ready md ops listed, i < n ∧ qOp P ops C i (wpAnyC P md ops C n L f (listed.setIfInBounds i true)) a
theorem wpAny_of_headC {n g : Nat} {L : Array Bool → Act → Prop} {Q' : Exit → Act → World → Prop} (hL : ∀ listed a w, C w → L listed a → wpAny P md ops Q' g listed a w) :
    ∀ (f : Nat) (listed : Array Bool) (a : Act) (w : World), C w → wpAnyC P md ops C n L f listed a → wpAny P md ops Q' (f + g) listed a w
 | 0, listed, a, w, hw, h => by rw [Nat.zero_add]; exact hL _ _ _ hw h
 | f + 1, listed, a, w, hw, h => by
  rw [show f + 1 + g = (f + g) + 1 by omega]
  exact ⟨fun h0 => absurd h0 h.1, fun i hi => wpOp_of_qOp hw (fun a' w' hw' h' => wpAny_of_headC hL f _ a' w' hw' h') (h.2 i hi).2⟩
theorem wpAnyC_first {n i : Nat} {oi : Oper} {v : Value} {L : Array Bool → Act → Prop} (hi : ops[i]? = some oi) (hsel : ∀ (j : Nat) (o : Oper) cs b, ops[j]? = some o → o.op ≠ .select cs b)
    (hs : Region.sinkB md ops n = true) (hc : Region.chainB md ops n = true) (hn : n < ops.size) (hin : i < n)
    (hdone : ∀ listed a, L listed a → ∀ j ∈ Region.ready md ops listed, n ≤ j) :
    ∀ (f : Nat) (listed : Array Bool) (a : Act), HeadInv md ops n listed →
     (∀ j oj, ops[j]? = some oj → j ≠ i → listed.getD j true = false → (∀ e ∈ oj.after, Region.binds md e = true → e.on ≠ i) → oi.apart ops oj = true) →
     i ∈ Region.ready md ops listed → YieldsIn P ops C oi v a →
     wpAnyC P md ops C n L f (listed.setIfInBounds i true) (a.put oi.dst v) → wpAnyC P md ops C n L (f + 1) listed a := by
 intro f
 induction f with
 | zero =>
  intro listed a inv _ hr hy H
  have hun := (mem_ready.1 hr).1
  refine ⟨fun h => (by rw [h] at hr; cases hr), fun j hj => ?_⟩
  have hjn : j < n := Nat.lt_of_not_le fun h => tail_waits hs hc hn inv _ i rfl hin hun j h hj
  refine ⟨hjn, ?_⟩
  by_cases hji : j = i
  ·subst hji; exact hy.qOp hi H
  ·have := hdone _ _ H j (ready_mono hj hji)
   omega
 | succ f ih =>
  intro listed a inv hfree hr hy H
  have hun := (mem_ready.1 hr).1
  refine ⟨fun h => (by rw [h] at hr; cases hr), fun j hj => ?_⟩
  have hjn : j < n := Nat.lt_of_not_le fun h => tail_waits hs hc hn inv _ i rfl hin hun j h hj
  refine ⟨hjn, ?_⟩
  by_cases hji : j = i
  ·subst hji; exact hy.qOp hi H
  ·obtain ⟨hjun, oj, hoj, hall⟩ := mem_ready.1 hj
   have hnot : ∀ e ∈ oj.after, Region.binds md e = true → e.on ≠ i := by
    intro e he hb heq
    have h1 := hall e he hb
    rw [heq, getD_both hun] at h1
    cases h1
   have h2 := qOp_put hoj (hfree j oj hoj hji hjun hnot) (fun cs b => hsel i oi cs b hi) (fun cs b => hsel j oj cs b hoj) hy (H.2 j (ready_mono hj hji)).2
   refine qOp_mono (fun a' h3 => ih (listed.setIfInBounds j true) a' (inv.set hj hjn) ?_ (ready_mono hr (Ne.symm hji)) h3.1 ?_) h2
   ·intro k ok hk hki hun2 hno
    refine hfree k ok hk hki ?_ hno
    by_cases hjk : j = k
    ·subst hjk; exact hjun
    ·rwa [getD_set_ne true hjk] at hun2
   ·rw [Array.setIfInBounds_comm _ _ hji]
    exact h3.2
theorem wpAnyC_lex {n g : Nat} {Lq : Act → Prop} (hsel : Region.noSelect ops = true) (hs : Region.sinkB md ops n = true) (hc : Region.chainB md ops n = true) (hn : n < ops.size) :
    ∀ (l : List Oper) (k : Nat) (listed : Array Bool) (a : Act), (∀ j, j < l.length → l[j]? = ops[k + j]?) → k + l.length = n → HeadInv md ops n listed →
    Region.lexHead md ops g l.length k listed = true → wpQuiet P ops C Lq l a →
    wpAnyC P md ops C n (fun listed' a' => Region.seqB md ops g n listed' = true ∧ Lq a') l.length listed a
 | [], k, listed, a, _, hk, _, hB, h => by
  have e : k = n := by simpa using hk
  subst e
  exact ⟨by simpa [Region.lexHead] using hB, h⟩
 | o :: l, k, listed, a, hl, hk, inv, hB, h => by
  have h0 : ops[k]? = some o := by simpa using (hl 0 (by simp)).symm
  simp only [List.length_cons, Region.lexHead, Bool.and_eq_true] at hB
  obtain ⟨⟨hr, hf⟩, hB'⟩ := hB
  have hkn : k < n := by simp only [List.length_cons] at hk; omega
  have hr' : k ∈ Region.ready md ops listed := by simpa using hr
  have hq : qOp P ops C k (wpQuiet P ops C Lq l) a := by unfold qOp; simp only [h0]; exact h
  obtain ⟨v, hy, hK⟩ := yieldsIn_of_qOp h0 hq
  refine wpAnyC_first h0 (Region.noSelect_spec hsel) hs hc hn hkn (fun listed' a' hL => seqB_ready hL.1) l.length listed a inv (Region.free_spec h0 hf) hr' hy ?_
  refine wpAnyC_lex hsel hs hc hn l (k + 1) _ _ (fun j hj => ?_) (by simp only [List.length_cons] at hk; omega) (inv.set hr' hkn) hB' hK
  have := hl (j + 1) (by simp; omega)
  simpa [Nat.add_assoc, Nat.add_comm 1 j] using this
theorem wp_region_steady_tail {id : Nat} {Q : Exit → Act → World → Prop} {a : Act} {w : World} {l : List Oper} (n : Nat) (hm : P.follows .mixedOrders = true) (hB : Region.lexTailB .any l.toArray n = true)
    (hC : C { w with drawn := w.drawn + 1 })
    (h : wpQuiet P l.toArray C (fun a' => ∀ w', C w' → wpList P l.toArray Q (l.drop n) a' w') (l.take n) a) : (Code.region id l.toArray true).wp P Q a w := by
 simp only [Region.lexTailB, Bool.and_eq_true, decide_eq_true_eq] at hB
 obtain ⟨⟨⟨⟨hsel, hn⟩, hs⟩, hc⟩, hlex⟩ := hB
 have hn' : n < l.length := by simpa using hn
 have htl : (l.take n).length = n := by simp; omega
 have hdl : (l.drop n).length = l.toArray.size - n := by simp
 have inv0 : HeadInv .any l.toArray n (Array.replicate l.toArray.size false) :=
  ⟨by simp, fun j oj _ hl => (by rw [getD_replicate_false] at hl; cases hl), fun t _ ht => getD_in (by simpa using ht) (getD_replicate_false _ _)⟩
 have H := wpAnyC_lex (md := .any) (g := l.toArray.size - n) hsel hs hc hn (l.take n) 0 _ a (fun j hj => by
  have hj' : j < n := by rw [htl] at hj; exact hj
  simp [hj']) (by simpa using htl) inv0 (by rw [htl]; exact hlex) h
 refine wp_region_any hm ?_
 have H2 := wpAny_of_headC (Q' := Q) (g := l.toArray.size - n) (fun listed a' w' hw' hL => by
  have h3 := wpAny_of_seq (md := .any) (Q' := Q) (l.drop n) n listed a' w' (fun j => by simp [List.getElem?_drop]) (by rw [hdl]; exact hL.1) (hL.2 w' hw')
  rwa [hdl] at h3) _ _ _ _ hC H
 rw [htl, show n + (l.toArray.size - n) = l.toArray.size by omega] at H2
 exact H2
theorem later_drew (w : World) : ∃ u, ({ w with drawn := w.drawn + 1 } : World) = w.plus u :=
 World.plus_of_below (w := w) (w' := { w with drawn := w.drawn + 1 }) ⟨rfl, rfl, rfl, Nat.le_refl _, fun _ _ => rfl⟩
theorem later_plus_drew (w u0 : World) : ∃ u, ({ w.plus u0 with drawn := (w.plus u0).drawn + 1 } : World) = w.plus u := by
 have h := World.below_plus w u0
 exact World.plus_of_below (w := w) ⟨h.os, h.tape, h.output, h.size, h.block⟩
theorem wp_region_steady {id : Nat} {Q : Exit → Act → World → Prop} {a : Act} {w : World} {l : List Oper} (hm : P.follows .mixedOrders = true) (hB : Region.lexB .any l.toArray = true)
    (h : wpQuiet P l.toArray (fun w' => ∃ u, w' = w.plus u) (fun a' => ∀ w', (∃ u, w' = w.plus u) → Q .normal a' w') l a) : (Code.region id l.toArray true).wp P Q a w :=
 wp_region_quiet (C := fun w' => ∃ u, w' = w.plus u) hm hB (later_drew w) (by simpa using h)
theorem wp_region_steady_plus {id : Nat} {Q : Exit → Act → World → Prop} {a : Act} {w u0 : World} {l : List Oper} (hm : P.follows .mixedOrders = true) (hB : Region.lexB .any l.toArray = true)
    (h : wpQuiet P l.toArray (fun w' => ∃ u, w' = w.plus u) (fun a' => ∀ w', (∃ u, w' = w.plus u) → Q .normal a' w') l a) : (Code.region id l.toArray true).wp P Q a (w.plus u0) :=
 wp_region_quiet (C := fun w' => ∃ u, w' = w.plus u) hm hB (later_plus_drew w u0) (by simpa using h)
theorem wp_region_steady_t {id : Nat} {Q : Exit → Act → World → Prop} {a : Act} {w : World} {l : List Oper} (n : Nat) (hm : P.follows .mixedOrders = true) (hB : Region.lexTailB .any l.toArray n = true)
    (h : wpQuiet P l.toArray (fun w' => ∃ u, w' = w.plus u) (fun a' => ∀ w', (∃ u, w' = w.plus u) → wpList P l.toArray Q (l.drop n) a' w') (l.take n) a) : (Code.region id l.toArray true).wp P Q a w :=
 wp_region_steady_tail (C := fun w' => ∃ u, w' = w.plus u) n hm hB (later_drew w) h
theorem wp_region_steady_plus_t {id : Nat} {Q : Exit → Act → World → Prop} {a : Act} {w u0 : World} {l : List Oper} (n : Nat) (hm : P.follows .mixedOrders = true) (hB : Region.lexTailB .any l.toArray n = true)
    (h : wpQuiet P l.toArray (fun w' => ∃ u, w' = w.plus u) (fun a' => ∀ w', (∃ u, w' = w.plus u) → wpList P l.toArray Q (l.drop n) a' w') (l.take n) a) : (Code.region id l.toArray true).wp P Q a (w.plus u0) :=
 wp_region_steady_tail (C := fun w' => ∃ u, w' = w.plus u) n hm hB (later_plus_drew w u0) h
theorem wp_region_exact_t {id : Nat} {Q : Exit → Act → World → Prop} {a : Act} {w : World} {l : List Oper} (n : Nat) (hm : P.follows .mixedOrders = true) (hB : Region.lexTailB .any l.toArray n = true)
    (h : wpQuiet P l.toArray (fun w' => w' = w.drew) (fun a' => ∀ w', w' = w.drew → wpList P l.toArray Q (l.drop n) a' w') (l.take n) a) : (Code.region id l.toArray true).wp P Q a w :=
 wp_region_steady_tail (C := fun w' => w' = w.drew) n hm hB rfl h
theorem wp_region_exact {id : Nat} {Q : Exit → Act → World → Prop} {a : Act} {w : World} {l : List Oper} (hm : P.follows .mixedOrders = true) (hB : Region.lexB .any l.toArray = true)
    (h : wpQuiet P l.toArray (fun w' => w' = w.drew) (fun a' => ∀ w', w' = w.drew → Q .normal a' w') l a) : (Code.region id l.toArray true).wp P Q a w :=
 wp_region_quiet (C := fun w' => w' = w.drew) hm hB rfl (by simpa using h)
theorem Calls.steady {f : FuncId} {args : Array Value} {w u : World} {v : Value}
    (h : Calls P f args (w.plus u) fun e w' => e = .returned v ∧ Below (w.plus u).heap.size (w.plus u) w') : Calls P f args (w.plus u) fun e w'' => e = .returned v ∧ ∃ u', w'' = w.plus u' :=
 h.mono fun _ _ ⟨he, hb⟩ => ⟨he, World.plus_of_below ((World.below_plus w u).trans (hb.mono (World.size_plus w u)))⟩
end
end Go
