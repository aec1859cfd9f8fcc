/- Part 2 of the proof; what it holds is said text by text. -/
import Derived.Test.YtlblfgbpogljoaaGreatDoorWbA
import Derived.LoopN
import Derived.Maps.AppendAt
import Derived.ChangeAgain
set_option linter.unusedSimpArgs false
set_option linter.unusedVariables false
section
/- No program in sight: functions are stepped through by a plain reckoner over values that may be marks: a pointer into a block that the function made itself, or a slice that reads as a known list. What a callee gives comes from a list of proved contracts. -/
namespace Go.Sy
open Go Go.RowKit
def junk : Value := .float .f64 0
def ptr (k off : Nat) : Value := .pointer (some ⟨k, off, some 0⟩)
def rpt (k off : Nat) : Value := .pointer (some ⟨k, off, some 1⟩)
def slc (k off n c : Nat) : Value := .slice (some ⟨k, off, some 0⟩) n c
def row (k n : Nat) : Value := .slice (some ⟨k, 0, some 1⟩) n 0
def blkOf : Value → Nat
 | .pointer (some a) => a.block
 | _ => 0
def rptr (v : Value) (off : Nat) : Value :=
 match v with
 | .slice (some a) _ _ => .pointer (some ⟨a.block, a.off + off, none⟩)
 | _ => .pointer none
def den1 (r : Nat → Value) : Value → Value
 | .pointer (some ⟨k, off, some 0⟩) => .pointer (some ⟨blkOf (r k), off, none⟩)
 | .pointer (some ⟨k, off, some (_ + 1)⟩) => rptr (r k) off
 | .slice (some ⟨k, off, some 0⟩) n c => .slice (some ⟨blkOf (r k), off, none⟩) n c
 | .slice (some ⟨k, _, some (_ + 1)⟩) _ _ => r k
 | v => v
def denD (r : Nat → Value) : Nat → Value → Value
 | 0, v => den1 r v
 | n + 1, .agg cs => .agg ⟨cs.toList.map (denD r n)⟩
 | n + 1, .tuple vs => .tuple ⟨vs.toList.map (denD r n)⟩
 | _ + 1, v => den1 r v
def den (r : Nat → Value) (v : Value) : Value := denD r 2 v
def one : Value → Bool
 | .bool _ | .int _ _ | .string _ | .nilFunc | .nilIface | .pointer _ | .slice _ _ _ => true
 | .func _ ⟨[]⟩ ⟨[]⟩ => true
 | _ => false
def goodD : Nat → Value → Bool
 | 0, v => one v
 | n + 1, .agg cs => cs.toList.all (goodD n)
 | n + 1, .tuple vs => vs.toList.all (goodD n)
 | _ + 1, v => one v
def good (v : Value) : Bool := goodD 2 v
def ref1 : Value → List Nat
 | .pointer (some ⟨k, _, some _⟩) => [k]
 | .slice (some ⟨k, _, some _⟩) _ _ => [k]
 | _ => []
def refD : Nat → Value → List Nat
 | 0, v => ref1 v
 | n + 1, .agg cs => cs.toList.flatMap (refD n)
 | n + 1, .tuple vs => vs.toList.flatMap (refD n)
 | _ + 1, v => ref1 v
def refs (v : Value) : List Nat := refD 2 v
def nil? {α : Type} : List α → Bool
 | [] => true
 | _ => false
def plain (v : Value) : Bool := good v && nil? (refs v)
def ones (l : List Value) : Bool := l.all one
theorem den1_one {r : Nat → Value} {v : Value} (h : ref1 v = []) : den1 r v = v := by
 unfold den1 ref1 at *
 split at h <;> simp_all
 all_goals (split <;> simp_all)
theorem denD_plain {r : Nat → Value} : ∀ (n : Nat) (v : Value), refD n v = [] → denD r n v = v
 | 0, v, h => den1_one h
 | n + 1, v, h => by
  cases v <;> simp only [denD, refD] at h ⊢ <;> first
   | exact den1_one h
   | (rename_i cs; congr 1; obtain ⟨l⟩ := cs; congr 1
      rw [List.flatMap_eq_nil_iff] at h
      conv => rhs; rw [← List.map_id l]
      exact List.map_congr_left fun x hx => denD_plain n x (h x hx))
theorem nil?_iff {α : Type} {l : List α} : nil? l = true ↔ l = [] := by cases l <;> simp [nil?]
theorem den_plain {r : Nat → Value} {v : Value} (h : plain v = true) : den r v = v := by
 unfold plain at h
 rw [Bool.and_eq_true, nil?_iff] at h
 exact denD_plain 2 v h.2
theorem den1_congr {r r' : Nat → Value} : ∀ {v : Value}, (∀ k ∈ ref1 v, r' k = r k) → den1 r' v = den1 r v
 | .pointer (some ⟨k, off, some 0⟩), h => by simp only [den1]; rw [h k (List.mem_singleton.2 rfl)]
 | .pointer (some ⟨k, off, some (_ + 1)⟩), h => by simp only [den1]; rw [h k (List.mem_singleton.2 rfl)]
 | .slice (some ⟨k, off, some 0⟩) n c, h => by simp only [den1]; rw [h k (List.mem_singleton.2 rfl)]
 | .slice (some ⟨k, off, some (_ + 1)⟩) n c, h => by simp only [den1]; rw [h k (List.mem_singleton.2 rfl)]
 | .pointer (some ⟨k, off, none⟩), _ => rfl
 | .pointer none, _ => rfl
 | .slice (some ⟨k, off, none⟩) n c, _ => rfl
 | .slice none n c, _ => rfl
 | .bool _, _ => rfl
 | .int _ _, _ => rfl
 | .float _ _, _ => rfl
 | .complex _ _ _, _ => rfl
 | .string _, _ => rfl
 | .map _, _ => rfl
 | .chan _, _ => rfl
 | .func _ _ _, _ => rfl
 | .nilFunc, _ => rfl
 | .iface _ _, _ => rfl
 | .nilIface, _ => rfl
 | .agg _, _ => rfl
 | .tuple _, _ => rfl
theorem denD_congr {r r' : Nat → Value} : ∀ (n : Nat) (v : Value), (∀ k ∈ refD n v, r' k = r k) → denD r' n v = denD r n v
 | 0, v, h => den1_congr h
 | n + 1, v, h => by
  cases v <;> simp only [denD, refD] at h ⊢ <;> first
   | exact den1_congr h
   | (rename_i cs; congr 2
      exact List.map_congr_left fun x hx => denD_congr n x fun k hk => h k (List.mem_flatMap.2 ⟨x, hx, hk⟩))
theorem den_congr {r r' : Nat → Value} {v : Value} (h : ∀ k ∈ refs v, r' k = r k) : den r' v = den r v := denD_congr 2 v h
theorem one_den {r : Nat → Value} {v : Value} (n : Nat) (h : one v = true) : denD r n v = den1 r v := by
 cases n with
 | zero => rfl
 | succ n => cases v <;> simp_all [denD, one]
theorem one_ref {v : Value} (n : Nat) (h : one v = true) : refD n v = ref1 v := by
 cases n with
 | zero => rfl
 | succ n => cases v <;> simp_all [refD, one]
theorem one_good {v : Value} (n : Nat) (h : one v = true) : goodD n v = true := by
 cases n with
 | zero => exact h
 | succ n => cases v <;> simp_all [goodD, one]
theorem good_up : ∀ (n : Nat) (v : Value), goodD n v = true → goodD (n + 1) v = true
 | 0, v, h => one_good _ h
 | n + 1, v, h => by
  cases v <;> simp only [goodD] at h ⊢ <;> first
   | exact h
   | (rw [List.all_eq_true] at h ⊢; exact fun x hx => good_up n x (h x hx))
theorem den_up {r : Nat → Value} : ∀ (n : Nat) (v : Value), goodD n v = true → denD r (n + 1) v = denD r n v
 | 0, v, h => one_den 1 h
 | n + 1, v, h => by
  cases v <;> simp only [goodD] at h <;> first
   | rfl
   | (rw [List.all_eq_true] at h; simp only [denD]; congr 2; exact List.map_congr_left fun x hx => den_up n x (h x hx))
theorem ref_up : ∀ (n : Nat) (v : Value), goodD n v = true → refD (n + 1) v = refD n v
 | 0, v, h => one_ref 1 h
 | n + 1, v, h => by
  cases v <;> simp only [goodD] at h <;> first
   | rfl
   | (rw [List.all_eq_true] at h; simp only [refD]
      rename_i cs
      obtain ⟨l⟩ := cs
      simp only at h ⊢
      induction l with
      | nil => rfl
      | cons x l ih =>
       rw [List.flatMap_cons, List.flatMap_cons, ih (fun y hy => h y (List.mem_cons_of_mem _ hy)), ref_up n x (h x (List.mem_cons_self ..))])
structure Ent where
 tag : Nat
 n : Nat
 cells : List Value
def nob : Ent := ⟨0, 0, []⟩
def blk (T : TypeId) (cells : List Value) : Ent := ⟨1, T, cells⟩
def rws (n : Nat) (cells : List Value) : Ent := ⟨2, n, cells⟩
def dead : Ent := ⟨3, 0, []⟩
def own (T z n : Nat) (cells : List Value) : Ent := ⟨T * 4096 + z + 4, n, cells⟩
def ownT (t : Nat) : Bool := Nat.ble 4 t
def isR (t : Nat) : Bool := Nat.beq t 2 || Nat.ble 4 t
def look {α : Type} (d : α) (t : Nat) : List (Nat × α) → α
 | [] => d
 | (k, x) :: l => match Nat.beq k t with
  | true => x
  | false => look d t l
def RowW (w : World) (v : Value) (n : Nat) (cells : List Value) : Prop :=
 (∀ x ∈ cells, one x = true ∧ ref1 x = []) ∧ ((v = .slice none 0 0 ∧ n = 0 ∧ cells = []) ∨ ∃ b c, v = .slice (some ⟨b, 0, none⟩) n c ∧ n ≤ c ∧ c ≤ maxLen ∧ b < w.heap.size ∧ (cells = [] ∨ ∃ cs ty fz, w.heap[b]? = some (.cells cs ty fz) ∧ cs.toList.take cells.length = cells))
def RowG (w : World) (v : Value) (n : Nat) (cells : List Value) : Prop :=
 (∀ x ∈ cells, one x = true ∧ ref1 x = []) ∧ ∃ b o c cs ty fz, v = .slice (some ⟨b, o, none⟩) n c ∧ w.heap[b]? = some (.cells cs ty fz) ∧ (cs.toList.drop o).take cells.length = cells
def isQ (t : Nat) : Bool := isR t || Nat.beq t 3
def Loc (v : Value) (cells : List Value) (b : Nat) : Prop := cells ≠ [] ∧ ∃ a n c, v = .slice (some a) n c ∧ a.block = b
theorem RowW.other {w w' : World} {v : Value} {n : Nat} {cells : List Value} (h : RowW w v n cells) (hs : w.heap.size ≤ w'.heap.size) (hb : ∀ b, Loc v cells b → w'.heap[b]? = w.heap[b]?) : RowW w' v n cells := by
 obtain ⟨hp, h⟩ := h
 refine ⟨hp, ?_⟩
 rcases h with h | ⟨b, c, rfl, h1, h2, h3, h4⟩
 ·exact .inl h
 ·refine .inr ⟨b, c, rfl, h1, h2, Nat.lt_of_lt_of_le h3 hs, ?_⟩
  by_cases hc : cells = []
  ·exact .inl hc
  rcases h4 with h4 | ⟨cs, ty, fz, h4, h5⟩
  ·exact .inl h4
  ·exact .inr ⟨cs, ty, fz, (hb b ⟨hc, _, _, _, rfl, rfl⟩).trans h4, h5⟩
theorem RowW.lt {w : World} {v : Value} {n : Nat} {cells : List Value} {b : Nat} (h : RowW w v n cells) (hl : Loc v cells b) : b < w.heap.size := by
 obtain ⟨hne, a', n', c', e, rfl⟩ := hl
 rcases h.2 with ⟨_, _, h⟩ | ⟨b, c, rfl, _, _, h3, _⟩
 ·exact absurd h hne
 ·simp only [Value.slice.injEq, Option.some.injEq] at e
  obtain ⟨rfl, _⟩ := e
  exact h3
theorem RowW.below {w w' : World} {v : Value} {n : Nat} {cells : List Value} (h : RowW w v n cells) (hb : Below w.heap.size w w') : RowW w' v n cells :=
 h.other hb.size fun b hl => hb.block b (h.lt hl)
def OwnW (B : Nat) (w : World) (v : Value) (T z n : Nat) (cells : List Value) : Prop :=
 (∀ x ∈ cells, one x = true ∧ ref1 x = []) ∧ cells.length = n * z ∧ ∃ g c cs, v = .slice (some ⟨g, 0, none⟩) n c ∧ B ≤ g ∧ w.heap[g]? = some (.cells cs T (0, 0)) ∧ n ≤ c ∧ c ≤ maxLen ∧ cs.size = c * z ∧ cs.toList.take (n * z) = cells
def AtB (v : Value) (b : Nat) : Prop := ∃ n c, v = .slice (some ⟨b, 0, none⟩) n c
theorem OwnW.row {B : Nat} {w : World} {v : Value} {T z n : Nat} {cells : List Value} (h : OwnW B w v T z n cells) : RowW w v n cells := by
 obtain ⟨h1, h2, g, c, cs, rfl, _, h3, h4, h5, _, h6⟩ := h
 exact ⟨h1, .inr ⟨g, c, rfl, h4, h5, (Array.getElem?_eq_some_iff.1 h3).1, .inr ⟨cs, T, (0, 0), h3, by rw [h2]; exact h6⟩⟩⟩
theorem OwnW.owns {B : Nat} {w : World} {v : Value} {T z n : Nat} {cells : List Value} (h : OwnW B w v T z n cells) : w.ownsRow B T z v n cells := by
 obtain ⟨h1, h2, g, c, cs, rfl, h0, h3, h4, h5, h7, h6⟩ := h
 exact ⟨h2, .inr ⟨g, c, cs, rfl, h0, h3, h4, h5, h7, h6⟩⟩
theorem OwnW.of {B : Nat} {w : World} {v : Value} {T z n : Nat} {cells : List Value} (hc : ∀ x ∈ cells, one x = true ∧ ref1 x = []) (h : w.ownsRow B T z v n cells) (hv : v ≠ .slice none 0 0) : OwnW B w v T z n cells := by
 obtain ⟨h2, h | ⟨g, c, cs, rfl, h0, h3, h4, h5, h7, h6⟩⟩ := h
 ·exact absurd h.1 hv
 ·exact ⟨hc, h2, g, c, cs, rfl, h0, h3, h4, h5, h7, h6⟩
theorem OwnW.at {B : Nat} {w : World} {v : Value} {T z n : Nat} {cells : List Value} {b : Nat} (h : OwnW B w v T z n cells) (hb : AtB v b) : B ≤ b ∧ b < w.heap.size := by
 obtain ⟨h1, h2, g, c, cs, rfl, h0, h3, _⟩ := h
 obtain ⟨n', c', e⟩ := hb
 simp only [Value.slice.injEq, Option.some.injEq, Addr.mk.injEq] at e
 obtain ⟨⟨rfl, _⟩, _⟩ := e
 exact ⟨h0, (Array.getElem?_eq_some_iff.1 h3).1⟩
theorem OwnW.other {B : Nat} {w w' : World} {v : Value} {T z n : Nat} {cells : List Value} (h : OwnW B w v T z n cells) (hb : ∀ b, AtB v b → w'.heap[b]? = w.heap[b]?) : OwnW B w' v T z n cells := by
 obtain ⟨h1, h2, g, c, cs, rfl, h0, h3, h4⟩ := h
 exact ⟨h1, h2, g, c, cs, rfl, h0, (hb g ⟨_, _, rfl⟩).trans h3, h4⟩
theorem OwnW.loc {B : Nat} {w : World} {v : Value} {T z n : Nat} {cells cells' : List Value} {b : Nat} (h : OwnW B w v T z n cells) (hl : Loc v cells' b) : AtB v b := by
 obtain ⟨h1, h2, g, c, cs, rfl, _⟩ := h
 obtain ⟨_, a, n', c', e, rfl⟩ := hl
 simp only [Value.slice.injEq, Option.some.injEq] at e
 obtain ⟨rfl, rfl, rfl⟩ := e
 exact ⟨_, _, rfl⟩
theorem isR_cases {t : Nat} (h : isR t = true) : t = 2 ∨ 4 ≤ t := by
 unfold isR at h
 rw [Bool.or_eq_true] at h
 exact h.imp Nat.eq_of_beq_eq_true Nat.le_of_ble_eq_true
theorem RowW.form {w : World} {v : Value} {n : Nat} {cells : List Value} (h : RowW w v n cells) : ∃ a c, v = .slice a n c := by
 rcases h.2 with ⟨rfl, rfl, _⟩ | ⟨b, c, rfl, _⟩
 ·exact ⟨_, _, rfl⟩
 ·exact ⟨_, _, rfl⟩
theorem RowW.at {w : World} {v : Value} {n : Nat} {cells : List Value} (h : RowW w v n cells) (hne : nil? cells = false) : ∃ b c cs ty fz, v = .slice (some ⟨b, 0, none⟩) n c ∧ w.heap[b]? = some (.cells cs ty fz) ∧ (cs.toList.drop 0).take cells.length = cells := by
 have hc : cells ≠ [] := fun e => by rw [e] at hne; cases hne
 rcases h.2 with ⟨_, _, h⟩ | ⟨b, c, rfl, _, _, _, h⟩
 ·exact absurd h hc
 ·rcases h with h | ⟨cs, ty, fz, h1, h2⟩
  ·exact absurd h hc
  ·exact ⟨b, c, cs, ty, fz, rfl, h1, h2⟩
theorem shaped_below {P : Program} {w w' : World} (h : w.ShapedOpen P) (hb : Below w.heap.size w w') : w'.ShapedOpen P := by
 have lt_of_some : ∀ {i : Nat} {o : Obj}, w.heap[i]? = some o → i < w.heap.size := by
  intro i o ho
  rcases Nat.lt_or_ge i w.heap.size with h' | h'
  ·exact h'
  ·simp [Array.getElem?_eq_none h'] at ho
 have same : ∀ {i : Nat} {o : Obj}, w.heap[i]? = some o → w'.heap[i]? = some o := fun {i o} ho => (hb.block i (lt_of_some ho)).trans ho
 refine ⟨fun g zero t hg hz => ?_, fun k hk1 hk2 => ?_⟩
 ·obtain ⟨cs, h1, h2, h3⟩ := h.1 g zero t hg hz
  refine ⟨cs, same h1, h2, fun hq => Row.ok_of_shape (fun b x hx => ?_) (h3 hq)⟩
  unfold World.shape? at hx ⊢
  cases e : w.heap[b]? with
  | none => simp [e] at hx
  | some o => rw [same e]; rw [e] at hx; exact hx
 ·obtain ⟨o, o₀, h1, h2, h3⟩ := h.2 k hk1 hk2
  exact ⟨o, o₀, same h1, h2, h3⟩
def Sp (P : Program) (f : FuncId) (rows : List (Nat × List Value)) (args : List Value) (v : Value) (nrows : List (Nat × List Value)) : Prop :=
 (∀ xs w, (callFunc f xs).run P w = .ok (.enter f xs) w) ∧
 ∀ (r : Nat → Value) (w : World), w.ShapedOpen P → (∀ i q, rows[i]? = some q → RowW w (r i) q.1 q.2) →
  Calls P f ⟨args.map (den r)⟩ w fun e w' => ∃ r' : Nat → Value, (∀ i, i < rows.length → r' i = r i) ∧ e = .returned (den r' v) ∧ Below w.heap.size w w' ∧
   ∀ j q, nrows[j]? = some q → RowW w' (r' (rows.length + j)) q.1 q.2 ∧ ∀ b, Loc (r' (rows.length + j)) q.2 b → w.heap.size ≤ b ∨ ∃ i q', rows[i]? = some q' ∧ Loc (r i) q'.2 b
def pureRun {α : Type} (P : Program) : Sem α → Option α
 | .pure a => some a
 | .program k => pureRun P (k P)
 | .mark _ k => pureRun P k
 | _ => none
theorem pureRun_run {α : Type} {P : Program} {s : Sem α} {a : α} (h : pureRun P s = some a) (w : World) : s.run P w = .ok a w := by
 induction s with
 | pure b => simp only [pureRun, Option.some.injEq] at h; subst h; rfl
 | program k ih => simp only [pureRun] at h; simp only [Sem.run]; exact ih _ h
 | mark m k ih => simp only [pureRun] at h; simp only [Sem.run]; exact ih h
 | _ => simp [pureRun] at h
end Go.Sy
namespace Go.Sy
open Go Go.RowKit
section
variable {α : Type}
def stN (wr : Nat → Nat → Option α) (init : Nat → α) : Nat → (Nat → Bool) → Nat → α
 | 0, _, l => init l
 | m + 1, E, l => match E m, wr m l with
  | true, some c => c
  | _, _ => stN wr init m E l
theorem stN_agree (wr : Nat → Nat → Option α) (init : Nat → α) (E E' : Nat → Bool) (l : Nat) : ∀ n, (∀ m, m < n → wr m l ≠ none → E m = E' m) → stN wr init n E l = stN wr init n E' l
 | 0, _ => rfl
 | n + 1, h => by
  simp only [stN]
  have ih := stN_agree wr init E E' l n fun m hm => h m (by omega)
  cases hw : wr n l with
  | none => cases E n <;> cases E' n <;> simp [ih]
  | some c =>
   have e := h n (by omega) (by rw [hw]; simp)
   rw [e]
   cases E' n <;> simp [ih]
theorem stN_below (wr : Nat → Nat → Option α) (init : Nat → α) (l i : Nat) : ∀ n, i ≤ n → stN wr init n (fun m => decide (m < i)) l = stN wr init i (fun _ => true) l
 | 0, h => by
  obtain rfl : i = 0 := by omega
  rfl
 | n + 1, h => by
  by_cases hi : i = n + 1
  ·subst hi
   exact stN_agree _ _ _ _ _ _ fun m hm _ => by simpa using hm
  ·simp only [stN]
   have : decide (n < i) = false := by simp; omega
   rw [this]
   exact stN_below wr init l i n (by omega)
theorem stN_seen (wr : Nat → Nat → Option α) (init : Nat → α) (E : Nat → Bool) (l n i : Nat) (hi : i ≤ n) (h1 : ∀ m, m < i → wr m l ≠ none → E m = true) (h2 : ∀ m, i ≤ m → m < n → wr m l ≠ none → E m = false) :
    stN wr init n E l = stN wr init i (fun _ => true) l := by
 rw [← stN_below wr init l i n hi]
 refine stN_agree _ _ _ _ _ _ fun m hm hw => ?_
 by_cases h : m < i
 ·rw [h1 m h hw]; simp [h]
 ·rw [h2 m (by omega) hm hw]; simp [h]
theorem stN_step (wr : Nat → Nat → Option α) (init : Nat → α) (E E' : Nat → Bool) (l n i : Nat) (hi : i < n) (hE : ∀ m, m ≠ i → E' m = E m) (hEi : E' i = true) (hno : E i = false)
    (h2 : wr i l ≠ none → ∀ m, i < m → m < n → wr m l ≠ none → E m = false) :
    stN wr init n E' l = (wr i l).getD (stN wr init n E l) := by
 cases hw : wr i l with
 | none =>
  rw [Option.getD_none]
  refine stN_agree _ _ _ _ _ _ fun m hm hwm => hE m fun e => ?_
  subst e; exact hwm hw
 | some c =>
  rw [Option.getD_some]
  have key : ∀ k, i < k → k ≤ n → stN wr init k E' l = c := by
   intro k
   induction k with
   | zero => intro h; omega
   | succ k ih =>
    intro hk hkn
    simp only [stN]
    by_cases e : i = k
    ·subst e; rw [hEi, hw]
    ·rw [hE k (Ne.symm e)]
     cases hwk : wr k l with
     | none => cases E k <;> exact ih (by omega) (by omega)
     | some d =>
      rw [h2 (by rw [hw]; simp) k (by omega) (by omega) (by rw [hwk]; simp)]
      exact ih (by omega) (by omega)
  exact key n hi (Nat.le_refl _)
end
structure Ctx (P : Program) where
 w0 : World
 nt : Nat
 rows : List (Nat × List Value)
 r0 : Nat → Value
 inv : w0.ShapedOpen P
def ptr0 (b : Nat) : Value := .pointer (some ⟨b, 0, none⟩)
theorem ptr0_inj {b c : Nat} (h : ptr0 b = ptr0 c) : b = c := by
 unfold ptr0 at h
 simpa using h
def EntOk {P : Program} (G : Ctx P) (w : World) (r : Nat → Value) (v : Value) (e : Ent) : Prop :=
 match e.tag with
 | 0 => True
 | 1 => ∃ b, v = ptr0 b ∧ G.w0.heap.size ≤ b ∧ w.heap[b]? = some (.cells ⟨e.cells.map (den1 r)⟩ e.n (0, 0))
 | 2 => RowW w v e.n e.cells ∧ ∀ c ∈ e.cells, ref1 c = []
 | 3 => (∃ a n c, v = .slice a n c) ∧ (e.cells ≠ [] → RowG G.w0 v e.n e.cells)
 | t + 4 => OwnW G.w0.heap.size w v (t / 4096) (t % 4096) e.n e.cells
structure Rz {P : Program} (G : Ctx P) (F : Nat → Value) (E : Nat → Ent) (r : Nat → Value) (a : Act) (w : World) : Prop where
 bel : Below G.w0.heap.size G.w0 w
 size : a.tmps.size = G.nt
 df : a.defers = []
 arg : ∀ i, i < G.rows.length → r i = G.r0 i
 fr : ∀ t, F t ≠ junk → a.tmps.getD t undef = den r (F t)
 frG : ∀ t, F t ≠ junk → good (F t) = true
 frA : ∀ t, ∀ k ∈ refs (F t), (E k).tag ≠ 0
 ent : ∀ k, EntOk G w r (r k) (E k)
 entA : ∀ k, ∀ c ∈ (E k).cells, one c = true ∧ ∀ j ∈ ref1 c, (E j).tag ≠ 0
 sep : ∀ k k' b, (E k).tag = 1 → r k = ptr0 b → (E k').tag = 1 → r k' = ptr0 b → k = k'
 sepR : ∀ k k' b, (E k).tag = 1 → r k = ptr0 b → (E k').tag = 2 → ¬ Loc (r k') (E k').cells b
 locR : ∀ k b, (E k).tag = 2 → Loc (r k) (E k).cells b → G.w0.heap.size ≤ b ∨ ∃ i q, G.rows[i]? = some q ∧ Loc (G.r0 i) q.2 b
 sepO : ∀ k k' b, 4 ≤ (E k).tag → AtB (r k) b → k' ≠ k → ((E k').tag = 1 → r k' ≠ ptr0 b) ∧ ((E k').tag = 2 → ¬ Loc (r k') (E k').cells b) ∧ (4 ≤ (E k').tag → ¬ AtB (r k') b)
def updF (F : Nat → Value) (dst : Option Tmp) (v : Value) (t : Nat) : Value := if dst = some t then v else F t
def upd1 {β : Type} (E : Nat → β) (k : Nat) (e : β) (j : Nat) : β := if j = k then e else E j
theorem upd1_same {β : Type} (E : Nat → β) (k : Nat) (e : β) : upd1 E k e k = e := if_pos rfl
theorem upd1_other {β : Type} (E : Nat → β) {k j : Nat} (e : β) (h : j ≠ k) : upd1 E k e j = E j := if_neg h
section
variable {P : Program} {G : Ctx P} {F : Nat → Value} {E : Nat → Ent} {r : Nat → Value} {a : Act} {w : World}
theorem EntOk.lt {v : Value} {e : Ent} {b : Nat} (h : EntOk G w r v e) (ht : e.tag = 1) (hv : v = ptr0 b) : b < w.heap.size := by
 unfold EntOk at h
 rw [ht] at h
 obtain ⟨b', e1, _, h2⟩ := h
 rw [hv] at e1
 have := ptr0_inj e1
 subst this
 exact (Array.getElem?_eq_some_iff.1 h2).1
theorem EntOk.ownW {v : Value} {e : Ent} (h : EntOk G w r v e) (ht : 4 ≤ e.tag) : OwnW G.w0.heap.size w v ((e.tag - 4) / 4096) ((e.tag - 4) % 4096) e.n e.cells := by
 obtain ⟨t, ht'⟩ : ∃ t, e.tag = t + 4 := ⟨e.tag - 4, by omega⟩
 unfold EntOk at h
 rw [ht'] at h
 rw [ht', Nat.add_sub_cancel]
 exact h
theorem EntOk.mk_own {v : Value} {T z n : Nat} {cells : List Value} (hz : z < 4096) (h : OwnW G.w0.heap.size w v T z n cells) : EntOk G w r v (own T z n cells) := by
 unfold EntOk own
 show OwnW _ w v ((T * 4096 + z) / 4096) ((T * 4096 + z) % 4096) n cells
 rw [show (T * 4096 + z) / 4096 = T by omega, show (T * 4096 + z) % 4096 = z by omega]
 exact h
theorem EntOk.rowT {v : Value} {e : Ent} (h : EntOk G w r v e) (ht : isR e.tag = true) : RowW w v e.n e.cells ∧ ∀ c ∈ e.cells, ref1 c = [] := by
 rcases isR_cases ht with h2 | h4
 ·unfold EntOk at h
  rw [h2] at h
  exact h
 ·have := h.ownW h4
  exact ⟨this.row, fun c hc => (this.1 c hc).2⟩
theorem EntOk.rowQ {v : Value} {e : Ent} (h : EntOk G w r v e) (hb : Below G.w0.heap.size G.w0 w) (ht : isQ e.tag = true) (hne : nil? e.cells = false) :
    (∀ c ∈ e.cells, ref1 c = []) ∧ ∃ b o c cs ty fz, v = .slice (some ⟨b, o, none⟩) e.n c ∧ w.heap[b]? = some (.cells cs ty fz) ∧ (cs.toList.drop o).take e.cells.length = e.cells := by
 unfold isQ at ht
 rcases Bool.or_eq_true _ _ ▸ ht with ht | ht
 ·obtain ⟨h1, h2⟩ := h.rowT ht
  obtain ⟨b, c, cs, ty, fz, e1, e2, e3⟩ := h1.at hne
  exact ⟨h2, b, 0, c, cs, ty, fz, e1, e2, e3⟩
 ·have ht := Nat.eq_of_beq_eq_true ht
  unfold EntOk at h
  rw [ht] at h
  obtain ⟨h1, b, o, c, cs, ty, fz, e1, e2, e3⟩ := h.2 (fun e => by rw [e] at hne; cases hne)
  exact ⟨fun c hc => (h1 c hc).2, b, o, c, cs, ty, fz, e1, (hb.block b (Array.getElem?_eq_some_iff.1 e2).1).trans e2, e3⟩
theorem Rz.put (h : Rz G F E r a w) {dst : Option Tmp} {v : Value} (hg : good v = true) (hA : ∀ k ∈ refs v, (E k).tag ≠ 0) (hd : ∀ d, dst = some d → d < G.nt) : Rz G (updF F dst v) E r (a.put dst (den r v)) w := by
 obtain ⟨h1, h2, h3, h4, h5, h6, h7, h8, h9, h10, h11, h12, h13⟩ := h
 cases dst with
 | none =>
  have e : updF F none v = F := by funext t; unfold updF; simp
  rw [e]
  exact ⟨h1, h2, h3, h4, h5, h6, h7, h8, h9, h10, h11, h12, h13⟩
 | some d =>
  have hdn := hd d rfl
  refine ⟨h1, ?_, h3, h4, fun t ht => ?_, fun t ht => ?_, fun t k hk => ?_, h8, h9, h10, h11, h12, h13⟩
  ·show (a.tmps.setIfInBounds d _).size = _
   rw [Array.size_setIfInBounds]; exact h2
  ·unfold updF at ht ⊢
   show (a.tmps.setIfInBounds d _).getD t undef = _
   by_cases e : d = t
   ·subst e
    rw [if_pos rfl]
    simp [hdn, h2]
   ·rw [if_neg (by simpa using e)] at ht ⊢
    rw [← h5 t ht]
    simp [Array.getElem?_setIfInBounds_ne e]
  ·unfold updF at ht ⊢
   by_cases e : d = t
   ·rw [if_pos (by rw [e])]; exact hg
   ·rw [if_neg (by simpa using e)] at ht ⊢; exact h6 t ht
  ·unfold updF at hk
   by_cases e : d = t
   ·rw [if_pos (by rw [e])] at hk; exact hA k hk
   ·rw [if_neg (by simpa using e)] at hk; exact h7 t k hk
theorem EntOk.below {w' : World} {v : Value} {e : Ent} (h : EntOk G w r v e) (hb : Below w.heap.size w w') : EntOk G w' r v e := by
 unfold EntOk at *
 split at h
 ·trivial
 ·obtain ⟨b, h1, h2, h3⟩ := h
  exact ⟨b, h1, h2, (hb.block b (Array.getElem?_eq_some_iff.1 h3).1).trans h3⟩
 ·exact ⟨h.1.below hb, h.2⟩
 ·exact h
 ·exact h.other fun b hl => hb.block b (h.at hl).2
theorem Rz.later (h : Rz G F E r a w) {w' : World} (hb : Below w.heap.size w w') : Rz G F E r a w' :=
 ⟨h.bel.trans (hb.mono h.bel.size), h.size, h.df, h.arg, h.fr, h.frG, h.frA, fun k => (h.ent k).below hb, h.entA, h.sep, h.sepR, h.locR, h.sepO⟩
theorem den1_upd {r : Nat → Value} {K : Nat} {v c : Value} (h : ∀ j ∈ ref1 c, j ≠ K) : den1 (upd1 r K v) c = den1 r c :=
 den1_congr fun k hk => upd1_other _ _ (h k hk)
theorem EntOk.congr {r' : Nat → Value} {v : Value} {e : Ent} (h : EntOk G w r v e) (hc : ∀ c ∈ e.cells, den1 r' c = den1 r c) : EntOk G w r' v e := by
 unfold EntOk at *
 split at h
 ·trivial
 ·obtain ⟨b, h1, h2, h3⟩ := h
  refine ⟨b, h1, h2, ?_⟩
  rw [List.map_congr_left hc]
  exact h3
 ·exact h
 ·exact h
 ·exact h
theorem Rz.fresh (h : Rz G F E r a w) {K : Nat} {e : Ent} {v : Value} (hK : (E K).tag = 0) (hm : G.rows.length ≤ K) (ht : e.tag ≠ 0)
    (hc : ∀ c ∈ e.cells, one c = true ∧ ∀ j ∈ ref1 c, (E j).tag ≠ 0) (he : EntOk G w r v e)
    (h1 : e.tag = 1 → ∀ b, v = ptr0 b → ∀ k', ((E k').tag = 1 → r k' ≠ ptr0 b) ∧ ((E k').tag = 2 → ¬ Loc (r k') (E k').cells b) ∧ (4 ≤ (E k').tag → ¬ AtB (r k') b))
    (h2 : e.tag = 2 → ∀ b, Loc v e.cells b → (∀ k', ((E k').tag = 1 → r k' ≠ ptr0 b) ∧ (4 ≤ (E k').tag → ¬ AtB (r k') b)) ∧ (G.w0.heap.size ≤ b ∨ ∃ i q, G.rows[i]? = some q ∧ Loc (G.r0 i) q.2 b))
    (h3 : 4 ≤ e.tag → ∀ b, AtB v b → ∀ k', ((E k').tag = 1 → r k' ≠ ptr0 b) ∧ ((E k').tag = 2 → ¬ Loc (r k') (E k').cells b) ∧ (4 ≤ (E k').tag → ¬ AtB (r k') b)) :
    Rz G F (upd1 E K e) (upd1 r K v) a w := by
 have alive : ∀ j, (E j).tag ≠ 0 → j ≠ K := fun j hj e => by subst e; exact hj hK
 have aliveU : ∀ j, (E j).tag ≠ 0 → (upd1 E K e j).tag ≠ 0 := fun j hj => by rw [upd1_other _ _ (alive j hj)]; exact hj
 refine ⟨h.bel, h.size, h.df, fun i hi => ?_, fun t ht => ?_, h.frG, fun t k hk => aliveU k (h.frA t k hk), fun k => ?_, fun k c hk => ?_, fun k k' b => ?_, fun k k' b => ?_, fun k b => ?_, fun k k' b => ?_⟩
 ·rw [upd1_other _ _ (by omega)]; exact h.arg i hi
 ·rw [h.fr t ht]
  exact (den_congr fun k hk => upd1_other _ _ (alive k (h.frA t k hk))).symm
 ·by_cases e1 : k = K
  ·subst e1
   rw [upd1_same, upd1_same]
   exact he.congr fun c hcc => den1_upd fun j hj => alive j ((hc c hcc).2 j hj)
  ·rw [upd1_other _ _ e1, upd1_other _ _ e1]
   exact (h.ent k).congr fun c hcc => den1_upd fun j hj => alive j ((h.entA k c hcc).2 j hj)
 ·by_cases e1 : k = K
  ·subst e1
   rw [upd1_same] at hk
   exact ⟨(hc c hk).1, fun j hj => aliveU j ((hc c hk).2 j hj)⟩
  ·rw [upd1_other _ _ e1] at hk
   exact ⟨(h.entA k c hk).1, fun j hj => aliveU j ((h.entA k c hk).2 j hj)⟩
 ·by_cases e1 : k = K
  ·by_cases e2 : k' = K
   ·intros; omega
   ·subst e1
    rw [upd1_same, upd1_same, upd1_other _ _ e2, upd1_other _ _ e2]
    intro a1 a2 a3 a4
    exact absurd a4 ((h1 a1 b a2 k').1 a3)
  ·by_cases e2 : k' = K
   ·subst e2
    rw [upd1_same, upd1_same, upd1_other _ _ e1, upd1_other _ _ e1]
    intro a1 a2 a3 a4
    exact absurd a2 ((h1 a3 b a4 k).1 a1)
   ·rw [upd1_other _ _ e1, upd1_other _ _ e1, upd1_other _ _ e2, upd1_other _ _ e2]
    exact h.sep k k' b
 ·by_cases e1 : k = K
  ·by_cases e2 : k' = K
   ·subst e1; subst e2
    rw [upd1_same, upd1_same]
    intro a1 a2 a3
    rw [a1] at a3; cases a3
   ·subst e1
    rw [upd1_same, upd1_same, upd1_other _ _ e2, upd1_other _ _ e2]
    intro a1 a2 a3
    exact (h1 a1 b a2 k').2.1 a3
  ·by_cases e2 : k' = K
   ·subst e2
    rw [upd1_same, upd1_same, upd1_other _ _ e1, upd1_other _ _ e1]
    intro a1 a2 a3 a4
    exact ((h2 a3 b a4).1 k).1 a1 a2
   ·rw [upd1_other _ _ e1, upd1_other _ _ e1, upd1_other _ _ e2, upd1_other _ _ e2]
    exact h.sepR k k' b
 ·by_cases e1 : k = K
  ·subst e1
   rw [upd1_same, upd1_same]
   intro a1 a2
   exact (h2 a1 b a2).2
  ·rw [upd1_other _ _ e1, upd1_other _ _ e1]
   exact h.locR k b
 ·by_cases e1 : k = K
  ·subst e1
   rw [upd1_same, upd1_same]
   intro a1 a2 e2
   rw [upd1_other _ _ e2, upd1_other _ _ e2]
   exact h3 a1 b a2 k'
  ·by_cases e2 : k' = K
   ·subst e2
    rw [upd1_same, upd1_same, upd1_other _ _ e1, upd1_other _ _ e1]
    intro a1 a2 _
    refine ⟨fun a3 a4 => (h1 a3 b a4 k).2.2 a1 a2, fun a3 a4 => ((h2 a3 b a4).1 k).2 a1 a2, fun a3 a4 => (h3 a3 b a4 k).2.2 a1 a2⟩
   ·rw [upd1_other _ _ e1, upd1_other _ _ e1, upd1_other _ _ e2, upd1_other _ _ e2]
    exact h.sepO k k' b
theorem heap_new (w : World) (o : Obj) : (w.alloc o).heap[w.heap.size]? = some o := by
 show (w.heap.push o)[w.heap.size]? = _
 simp
theorem Rz.past (h : Rz G F E r a w) (k' : Nat) : ((E k').tag = 1 → r k' ≠ ptr0 w.heap.size) ∧ ((E k').tag = 2 → ¬ Loc (r k') (E k').cells w.heap.size) ∧ (4 ≤ (E k').tag → ¬ AtB (r k') w.heap.size) := by
 refine ⟨fun t1 hr => ?_, fun t2 hl => ?_, fun t4 hl => ?_⟩
 ·have := (h.ent k').lt t1 hr
  omega
 ·have he := h.ent k'
  unfold EntOk at he
  rw [t2] at he
  have := he.1.lt hl
  omega
 ·have := (((h.ent k').ownW t4).at hl).2
  omega
theorem Rz.block (h : Rz G F E r a w) {K : Nat} {T : TypeId} {cells : List Value} (hK : (E K).tag = 0) (hm : G.rows.length ≤ K)
    (hc : ∀ c ∈ cells, one c = true ∧ ∀ j ∈ ref1 c, (E j).tag ≠ 0) :
    Rz G F (upd1 E K (blk T cells)) (upd1 r K (ptr0 w.heap.size)) a (w.alloc (.cells ⟨cells.map (den1 r)⟩ T)) := by
 have hb : Below w.heap.size w (w.alloc (.cells ⟨cells.map (den1 r)⟩ T)) := (Below.refl _ _).alloc (Nat.le_refl _) _
 have h0 := h.later hb
 refine h0.fresh hK hm (by simp [blk]) hc ⟨_, rfl, h.bel.size, heap_new w _⟩ (fun _ b hbb k' => ?_) (fun h2 => by cases h2) (fun h3 => by simp [blk] at h3)
 have e := ptr0_inj hbb
 subst e
 exact h.past k'
theorem Rz.row (h : Rz G F E r a w) {K n : Nat} {cells : List Value} {v : Value} (hK : (E K).tag = 0) (hm : G.rows.length ≤ K)
    (hr : RowW w v n cells)
    (h2 : ∀ b, Loc v cells b → (∀ k', ((E k').tag = 1 → r k' ≠ ptr0 b) ∧ (4 ≤ (E k').tag → ¬ AtB (r k') b)) ∧ (G.w0.heap.size ≤ b ∨ ∃ i q, G.rows[i]? = some q ∧ Loc (G.r0 i) q.2 b)) :
    Rz G F (upd1 E K (rws n cells)) (upd1 r K v) a w :=
 h.fresh hK hm (by simp [rws]) (fun c hcc => ⟨(hr.1 c hcc).1, fun j hj => by rw [(hr.1 c hcc).2] at hj; cases hj⟩) ⟨hr, fun c hcc => (hr.1 c hcc).2⟩ (fun h1 => by cases h1) (fun _ b hl => h2 b hl) (fun h3 => by simp [rws] at h3)
theorem Rz.store (h : Rz G F E r a w) {k b : Nat} {T : TypeId} {cells : List Value} {w' : World} (ht : (E k).tag = 1) (hr : r k = ptr0 b) (hT : (E k).n = T)
    (hc : ∀ c ∈ cells, one c = true ∧ ∀ j ∈ ref1 c, (E j).tag ≠ 0)
    (hb : w'.heap[b]? = some (.cells ⟨cells.map (den1 r)⟩ T (0, 0))) (ho : ∀ j, j ≠ b → w'.heap[j]? = w.heap[j]?) (hz : w'.heap.size = w.heap.size) (h1 : w'.os = w.os) (h2 : w'.tape = w.tape) (h3 : w'.output = w.output) :
    Rz G F (upd1 E k (blk T cells)) r a w' := by
 have aliveU : ∀ j, (E j).tag ≠ 0 → (upd1 E k (blk T cells) j).tag ≠ 0 := fun j hj => by
  by_cases e : j = k
  ·subst e; rw [upd1_same]; simp [blk]
  ·rw [upd1_other _ _ e]; exact hj
 have hbB : G.w0.heap.size ≤ b := by
  have he := h.ent k
  unfold EntOk at he
  rw [ht] at he
  obtain ⟨b', e1, e2, _⟩ := he
  rw [hr] at e1
  rw [ptr0_inj e1]; exact e2
 have tg : ∀ j, (upd1 E k (blk T cells) j).tag = (E j).tag := fun j => by
  by_cases e : j = k
  ·subst e; rw [upd1_same, ht]; rfl
  ·rw [upd1_other _ _ e]
 refine ⟨h.bel.trans ⟨h1, h2, h3, by omega, fun j hj => ho j (by omega)⟩, h.size, h.df, h.arg, h.fr, h.frG, fun t j hj => aliveU j (h.frA t j hj), fun j => ?_, fun j c hj => ?_, fun j j' c => ?_, fun j j' c => ?_, fun j c => ?_, fun j j' c => ?_⟩
 ·by_cases e : j = k
  ·subst e
   rw [upd1_same]
   exact ⟨b, hr, hbB, hb⟩
  ·rw [upd1_other _ _ e]
   have he := h.ent j
   unfold EntOk at he ⊢
   split at he
   ·trivial
   ·rename_i t1
    obtain ⟨c, e1, e2, e3⟩ := he
    refine ⟨c, e1, e2, ?_⟩
    rw [ho c fun ec => ?_]
    ·exact e3
    ·subst ec
     exact e (h.sep j k c t1 e1 ht hr)
   ·rename_i t2
    refine ⟨he.1.other (by omega) fun c hl => ho c fun ec => ?_, he.2⟩
    subst ec
    exact h.sepR k j c ht hr t2 hl
   ·exact he
   ·rename_i t4
    refine he.other fun c hl => ho c fun ec => ?_
    subst ec
    exact (h.sepO j k c (by omega) hl (Ne.symm e)).1 ht hr
 ·by_cases e : j = k
  ·subst e
   rw [upd1_same] at hj
   exact ⟨(hc c hj).1, fun i hi => aliveU i ((hc c hj).2 i hi)⟩
  ·rw [upd1_other _ _ e] at hj
   exact ⟨(h.entA j c hj).1, fun i hi => aliveU i ((h.entA j c hj).2 i hi)⟩
 ·rw [tg, tg]; exact h.sep j j' c
 ·rw [tg, tg]
  intro a1 a2 a3
  have e : j' ≠ k := fun e => by subst e; rw [ht] at a3; cases a3
  rw [upd1_other _ _ e]
  exact h.sepR j j' c a1 a2 a3
 ·rw [tg]
  intro a1
  have e : j ≠ k := fun e => by subst e; rw [ht] at a1; cases a1
  rw [upd1_other _ _ e]
  exact h.locR j c a1
 ·rw [tg, tg]
  intro a1 a2 a3
  have := h.sepO j j' c a1 a2 a3
  refine ⟨this.1, fun a4 => ?_, this.2.2⟩
  have e : j' ≠ k := fun e => by subst e; rw [ht] at a4; cases a4
  rw [upd1_other _ _ e]
  exact this.2.1 a4
theorem Rz.kill (h : Rz G F E r a w) {k : Nat} (hk : isR (E k).tag = true) : Rz G F (upd1 E k dead) r a w := by
 have hk0 : (E k).tag ≠ 0 ∧ (E k).tag ≠ 1 := by rcases isR_cases hk with h | h <;> omega
 have alive : ∀ j, (E j).tag ≠ 0 → (upd1 E k dead j).tag ≠ 0 := fun j hj => by
  by_cases e : j = k
  ·subst e; rw [upd1_same]; simp [dead]
  ·rw [upd1_other _ _ e]; exact hj
 have same : ∀ j, (upd1 E k dead j).tag ≠ 3 → upd1 E k dead j = E j := fun j hj => by
  by_cases e : j = k
  ·subst e; rw [upd1_same] at hj; exact absurd rfl hj
  ·rw [upd1_other _ _ e]
 refine ⟨h.bel, h.size, h.df, h.arg, h.fr, h.frG, fun t j hj => alive j (h.frA t j hj), fun j => ?_, fun j c hj => ?_, fun j j' c a1 a2 a3 => ?_, fun j j' c a1 a2 a3 => ?_, fun j c a1 => ?_, fun j j' c a1 a2 a3 => ?_⟩
 ·by_cases e : j = k
  ·subst e
   rw [upd1_same]
   obtain ⟨a', c', e'⟩ := ((h.ent j).rowT hk).1.form
   exact ⟨⟨_, _, _, e'⟩, fun h => absurd rfl h⟩
  ·rw [upd1_other _ _ e]; exact h.ent j
 ·by_cases e : j = k
  ·subst e; rw [upd1_same] at hj; cases hj
  ·rw [upd1_other _ _ e] at hj
   exact ⟨(h.entA j c hj).1, fun i hi => alive i ((h.entA j c hj).2 i hi)⟩
 ·rw [same j (by omega)] at a1; rw [same j' (by omega)] at a3
  exact h.sep j j' c a1 a2 a3
 ·have s1 := same j (by omega)
  have s2 := same j' (by omega)
  rw [s1] at a1; rw [s2] at a3 ⊢
  exact h.sepR j j' c a1 a2 a3
 ·have s1 := same j (by omega)
  rw [s1] at a1 ⊢
  exact h.locR j c a1
 ·rw [same j (by omega)] at a1
  have := h.sepO j j' c a1 a2 a3
  refine ⟨fun a4 => ?_, fun a4 => ?_, fun a4 => ?_⟩
  ·rw [same j' (by omega)] at a4; exact this.1 a4
  ·have s2 := same j' (by omega)
   rw [s2] at a4 ⊢; exact this.2.1 a4
  ·by_cases e : j' = k
   ·subst e; rw [upd1_same] at a4; simp [dead] at a4
   ·rw [upd1_other _ _ e] at a4; exact this.2.2 a4
theorem Rz.revive (h : Rz G F E r a w) {k : Nat} {e : Ent} (hk : (E k).tag = 3) (ht : 4 ≤ e.tag) (he : EntOk G w r (r k) e) (hc : ∀ c ∈ e.cells, one c = true ∧ ref1 c = [])
    (h3 : ∀ b, AtB (r k) b → ∀ k', k' ≠ k → ((E k').tag = 1 → r k' ≠ ptr0 b) ∧ ((E k').tag = 2 → ¬ Loc (r k') (E k').cells b) ∧ (4 ≤ (E k').tag → ¬ AtB (r k') b)) : Rz G F (upd1 E k e) r a w := by
 have alive : ∀ j, (E j).tag ≠ 0 → (upd1 E k e j).tag ≠ 0 := fun j hj => by
  by_cases e : j = k
  ·subst e; rw [upd1_same]; omega
  ·rw [upd1_other _ _ e]; exact hj
 have same : ∀ j, (upd1 E k e j).tag < 4 → upd1 E k e j = E j := fun j hj => by
  by_cases e : j = k
  ·subst e; rw [upd1_same] at hj; omega
  ·rw [upd1_other _ _ e]
 refine ⟨h.bel, h.size, h.df, h.arg, h.fr, h.frG, fun t j hj => alive j (h.frA t j hj), fun j => ?_, fun j c hj => ?_, fun j j' c a1 a2 a3 => ?_, fun j j' c a1 a2 a3 => ?_, fun j c a1 => ?_, fun j j' c a1 a2 a3 => ?_⟩
 ·by_cases e : j = k
  ·subst e
   rw [upd1_same]
   exact he
  ·rw [upd1_other _ _ e]; exact h.ent j
 ·by_cases e : j = k
  ·subst e
   rw [upd1_same] at hj
   exact ⟨(hc c hj).1, fun i hi => by rw [(hc c hj).2] at hi; cases hi⟩
  ·rw [upd1_other _ _ e] at hj
   exact ⟨(h.entA j c hj).1, fun i hi => alive i ((h.entA j c hj).2 i hi)⟩
 ·rw [same j (by omega)] at a1; rw [same j' (by omega)] at a3
  exact h.sep j j' c a1 a2 a3
 ·have s1 := same j (by omega)
  have s2 := same j' (by omega)
  rw [s1] at a1; rw [s2] at a3 ⊢
  exact h.sepR j j' c a1 a2 a3
 ·have s1 := same j (by omega)
  rw [s1] at a1 ⊢
  exact h.locR j c a1
 ·by_cases e1 : j = k
  ·subst e1
   rw [upd1_other _ _ a3]
   exact h3 c a2 j' a3
  ·rw [upd1_other _ _ e1] at a1
   by_cases e2 : j' = k
   ·subst e2
    rw [upd1_same]
    exact ⟨fun h => absurd h (by omega), fun h => absurd h (by omega), fun _ h4 => (h3 c h4 j e1).2.2 a1 a2⟩
   ·rw [upd1_other _ _ e2]
    exact h.sepO j j' c a1 a2 a3
theorem Rz.away (h : Rz G F E r a w) {w' : World} {row : Option Nat} (hg : w.grownBy w' row) (hr : ∀ g, row = some g → G.w0.heap.size ≤ g ∧ ∀ k', ((E k').tag = 1 → r k' ≠ ptr0 g) ∧ ((E k').tag = 2 → ¬ Loc (r k') (E k').cells g) ∧ (4 ≤ (E k').tag → ¬ AtB (r k') g)) : Rz G F E r a w' := by
 refine ⟨h.bel.trans ⟨hg.os, hg.tape, hg.output, hg.size, fun j hj => hg.block j (Nat.lt_of_lt_of_le hj h.bel.size) fun e => ?_⟩, h.size, h.df, h.arg, h.fr, h.frG, h.frA, fun j => ?_, h.entA, h.sep, h.sepR, h.locR, h.sepO⟩
 ·have := (hr j e.symm).1
  omega
 ·have he := h.ent j
  unfold EntOk at he ⊢
  split at he
  ·trivial
  ·rename_i t1
   obtain ⟨c, e1, e2, e3⟩ := he
   exact ⟨c, e1, e2, (hg.block c (Array.getElem?_eq_some_iff.1 e3).1 fun e => ((hr c e.symm).2 j).1 t1 e1).trans e3⟩
  ·rename_i t2
   exact ⟨he.1.other hg.size fun c hl => hg.block c (he.1.lt hl) fun e => ((hr c e.symm).2 j).2.1 t2 hl, he.2⟩
  ·exact he
  ·rename_i t4
   exact he.other fun c hl => hg.block c (he.at hl).2 fun e => ((hr c e.symm).2 j).2.2 (by omega) hl
end
end Go.Sy
namespace Go.Sy
open Go Go.RowKit
structure St where
 nt : Nat
 lo : Nat
 fr : List (Nat × Value)
 d : Value
 en : List (Nat × Ent)
 N : Nat
def St.F (S : St) (t : Nat) : Value := look S.d t S.fr
def St.E (S : St) (k : Nat) : Ent := look nob k S.en
def St.fresh (S : St) : Prop := ∀ k, S.N ≤ k → (S.E k).tag = 0
def St.val (S : St) : Operand → Value
 | .tmp t => look S.d t S.fr
 | .const v => match plain v with
  | true => v
  | false => junk
 | .global g => .pointer (some ⟨g, 0, none⟩)
 | .func f => .func (.func f) #[] #[]
def st0 : St := ⟨0, 0, [], junk, [], 0⟩
structure Key where
 n : Nat
 op : BinOp
 l : List Value
 rows : List (Nat × List Value)
 code : Code
 s0 : St
def CodeOk (P : Program) (c : Code) (S : St) (e : Exit) (S' : St) : Prop :=
 S.fresh → S'.fresh ∧ S'.nt = S.nt ∧ S'.lo = S.lo ∧ ∀ (G : Ctx P) (Q : Exit → Act → World → Prop) (r : Nat → Value) (a : Act) (w : World), G.rows.length = S.lo → G.nt = S.nt → Rz G S.F S.E r a w →
  (∀ r' a' w', Rz G S'.F S'.E r' a' w' → Q e a' w') → c.wp P Q a w
def opCode (o : Oper) : Code := .region 0 #[⟨none, o.op, o.type, "", #[], none⟩] false
def ItOk (P : Program) (tag n : Nat) (op : BinOp) (l : List Value) (rows : List (Nat × List Value)) (v : Value) (nrows : List (Nat × List Value)) (code : Code) (s0 : St) (ex : Exit) (s1 : St) : Prop :=
 match tag with
 | 0 => Sp P n rows l v nrows
 | 1 => l = [v]
 | 2 => ∀ x y, l = [x, y] → ∀ ox oy w, ((do eqGuard op n ox oy x y; binOp op n x y : Sem Value)).run P w = .ok v w
 | 3 => ∀ k i n, l = [.int k i, .int .i64 n] → 0 ≤ i ∧ i < n
 | 5 => CodeOk P code s0 ex s1
 | 6 => ∀ o : Oper, opCode o = code → ∀ (ρ : Operand → Value) (w : World), o.op.operands.toList.map ρ = l → (execOp ρ o).run P w = .ok (.value v) w
 | 7 => ∀ T' : Nat, l = [.int .i64 T'] → ∀ q : Nat × List Value, rows = [q] → ∀ (x : Value) (w : World), RowW w x q.1 q.2 → (convert n T' x).run P w = .ok v w
 | _ => True
structure It (P : Program) where
 tag : Nat
 n : Nat
 op : BinOp
 l : List Value
 rows : List (Nat × List Value)
 v : Value
 nrows : List (Nat × List Value)
 code : Code
 s0 : St
 ex : Exit
 s1 : St
 src : List (Nat × Nat)
 ok : ItOk P tag n op l rows v nrows code s0 ex s1
def It.key {P : Program} (i : It P) : Key := ⟨i.n, i.op, i.l, i.rows, i.code, i.s0⟩
structure Out (P : Program) where
 v : Value
 eff : List (Nat × Ent)
 tch : List Nat
 N : Nat
 its : List (It P)
 ks : List (Key × Key)
section
variable {P : Program}
def pl (S : St) (v : Value) (its : List (It P)) : Option (Out P) :=
 match plain v with
 | true => some ⟨v, [], [], S.N, its, []⟩
 | false => none
def evE (S : St) (v : Value) : List (It P) → Option (Out P)
 | [] => pl S v []
 | it :: its => match it.tag with
  | 1 => match plain v, plain it.v with
   | true, true => some ⟨it.v, [], [], S.N, its, [(⟨it.n, it.op, [v], it.rows, it.code, it.s0⟩, it.key)]⟩
   | _, _ => none
  | 9 => pl S v its
  | _ => pl S v (it :: its)
def evBlk (S : St) (cells : List Value) (T : TypeId) (its : List (It P)) : Option (Out P) :=
 match ones cells, Nat.ble S.lo S.N with
 | true, true => some ⟨ptr S.N 0, [(S.N, blk T cells)], [S.N], S.N + 1, its, []⟩
 | _, _ => none
def cellsAt (cells : List Value) (off n : Nat) : List Value := (cells.drop off).take n
def aggB (P : Program) (t : TypeId) : Option Bool := pureRun P (isAgg t)
def readV (P : Program) (t : TypeId) (cells : List Value) (off : Nat) : Option Value :=
 match aggB P t, pureRun P (sizeOf t) with
 | some true, some n => match Nat.beq (cellsAt cells off n).length n with
  | true => some (.agg ⟨cellsAt cells off n⟩)
  | false => none
 | some false, _ => cells[off]?
 | _, _ => none
def setAll : List Value → Nat → List Value → List Value
 | cells, _, [] => cells
 | cells, off, x :: xs => setAll (cells.set off x) (off + 1) xs
def evLoad (S : St) (t : TypeId) (x : Value) (its : List (It P)) : Option (Out P) :=
 match x with
 | .pointer (some ⟨k, off, some 0⟩) => match (S.E k).tag with
  | 1 => match readV P t (S.E k).cells off with
   | some v => some ⟨v, [], [k], S.N, its, []⟩
   | none => none
  | _ => none
 | .pointer (some ⟨k, off, some (_ + 1)⟩) => match isQ (S.E k).tag, nil? (S.E k).cells with
  | true, false => match readV P t (S.E k).cells off with
   | some v => some ⟨v, [], [k], S.N, its, []⟩
   | none => none
  | _, _ => none
 | _ => none
def evStore (S : St) (t : TypeId) (x y : Value) (its : List (It P)) : Option (Out P) :=
 match x with
 | .pointer (some ⟨k, off, some 0⟩) => match (S.E k).tag, good y, ones y.cells.toList, pureRun P (sizeOf t) with
  | 1, true, true, some n => match Nat.beq y.cells.toList.length n, Nat.ble (off + n) (S.E k).cells.length with
   | true, true => some ⟨undef, [(k, blk (S.E k).n (setAll (S.E k).cells off y.cells.toList))], [k], S.N, its, []⟩
   | _, _ => none
  | _, _, _, _ => none
 | .pointer (some ⟨k, off, some (_ + 1)⟩) => match ownT (S.E k).tag, good y, y.cells.toList.all (fun c => one c && nil? (ref1 c)), pureRun P (sizeOf t) with
  | true, true, true, some n => match Nat.beq y.cells.toList.length n, Nat.ble (off + n) (S.E k).cells.length with
   | true, true => some ⟨undef, [(k, ⟨(S.E k).tag, (S.E k).n, setAll (S.E k).cells off y.cells.toList⟩)], [k], S.N, its, []⟩
   | _, _ => none
  | _, _, _, _ => none
 | _ => none
def fieldOff (s : TypeId) (f : Nat) : Sem Nat := do
 let .struct fields ← underlying s | stuck ""
 let some f := fields[f]? | stuck ""
 if (← sizeOf f.type) = 0 then stuck "" else pure f.offset
def evField (S : St) (s : TypeId) (x : Value) (f : Nat) (its : List (It P)) : Option (Out P) :=
 match x, pureRun P (fieldOff s f) with
 | .pointer (some ⟨k, off, some 0⟩), some o => some ⟨ptr k (off + o), [], [], S.N, its, []⟩
 | .pointer (some ⟨k, off, some (_ + 1)⟩), some o => match isQ (S.E k).tag, nil? (S.E k).cells with
  | true, false => some ⟨rpt k (off + o), [], [k], S.N, its, []⟩
  | _, _ => none
 | _, _ => none
def bound (k : IntKind) (i : Int) (n : Nat) : List (It P) → Option (List (It P) × List (Key × Key))
 | [] => match decide (0 ≤ i ∧ i < (n : Int)) with
  | true => some ([], [])
  | false => none
 | it :: its => match it.tag with
  | 3 => some (its, [(⟨it.n, it.op, [.int k i, .int .i64 n], it.rows, it.code, it.s0⟩, it.key)])
  | _ => match decide (0 ≤ i ∧ i < (n : Int)) with
   | true => some (it :: its, [])
   | false => none
def evIndexAt (S : St) (t : TypeId) (x y : Value) (its : List (It P)) : Option (Out P) :=
 match y, x, pureRun P (underlying t) with
 | .int kd i, .pointer (some ⟨k, off, some 0⟩), some (.array n e) => match bound kd i n its, pureRun P (sizeOf e) with
  | some (its, ks), some z => some ⟨ptr k (off + i.toNat * z), [], [], S.N, its, ks⟩
  | _, _ => none
 | .int kd i, .slice (some ⟨k, off, some 0⟩) n _, some (.slice e) => match bound kd i n its, pureRun P (sizeOf e) with
  | some (its, ks), some z => some ⟨ptr k (off + i.toNat * z), [], [], S.N, its, ks⟩
  | _, _ => none
 | .int kd i, .slice (some ⟨k, 0, some 1⟩) n _, some (.slice e) => match bound kd i (S.E k).n its, pureRun P (sizeOf e), isQ (S.E k).tag, nil? (S.E k).cells with
  | some (its, ks), some z, true, false => some ⟨rpt k (i.toNat * z), [], [k], S.N, its, ks⟩
  | _, _, _, _ => none
 | _, _, _ => none
def arrSize (t : TypeId) : Sem Nat := do
 let .array _ e ← underlying t | stuck ""
 sizeOf e
def evSlice (S : St) (t : TypeId) (x : Value) (its : List (It P)) : Option (Out P) :=
 match x, pureRun P (underlying t), pureRun P (arrSize t) with
 | .pointer (some ⟨k, off, some 0⟩), some (.array n _), some _ => some ⟨slc k off n n, [], [], S.N, its, []⟩
 | _, _, _ => none
def evExtract (S : St) (x : Value) (i : Nat) (its : List (It P)) : Option (Out P) :=
 match x, goodD 2 x with
 | .tuple vs, true => match vs[i]? with
  | some v => some ⟨v, [], [], S.N, its, []⟩
  | none => none
 | _, _ => none
def isMark : Value → Bool
 | .slice (some ⟨_, _, some _⟩) _ _ => true
 | _ => false
def isRow : Value → Bool
 | .slice (some ⟨_, _, some (_ + 1)⟩) _ _ => true
 | _ => false
def lenOf : Value → Nat
 | .slice _ n _ => n
 | _ => 0
def markOf : Value → Nat
 | .slice (some ⟨k, _, _⟩) _ _ => k
 | _ => 0
def aggL : Value → Option (List Value)
 | .agg cs => some cs.toList
 | _ => none
def canL : List Value → Nat → Option (List Value × List Value)
 | [], _ => some ([], [])
 | v :: l, i => match isMark v with
  | true => match canL l (i + 1) with
   | some (l', q) => some (row i (lenOf v) :: l', v :: q)
   | none => none
  | false => match one v, nil? (ref1 v), canL l i with
   | true, true, some (l', q) => some (v :: l', q)
   | _, _, _ => none
def canA : List Value → Nat → Option (List Value × List Value)
 | [], _ => some ([], [])
 | v :: l, i => match aggL v with
  | some cs => match canL cs i with
   | some (cs', q) => match canA l (i + q.length) with
    | some (l', q') => some (.agg ⟨cs'⟩ :: l', q ++ q')
    | none => none
   | none => none
  | none => match canL [v] i with
   | some ([v'], q) => match canA l (i + q.length) with
    | some (l', q') => some (v' :: l', q ++ q')
    | none => none
   | _ => none
def rowOf (S : St) (own : Bool) : Value → Option (Nat × List Value)
 | .slice (some ⟨k, 0, some 1⟩) _ _ => match isR (S.E k).tag, own || Nat.beq (S.E k).tag 2 with
  | true, true => some ((S.E k).n, (S.E k).cells)
  | _, _ => none
 | .slice (some ⟨k, 0, some 0⟩) n c => match own, (S.E k).tag, (S.E k).cells.all plain, Nat.ble n c && Nat.ble c 9223372036854775807 with
  | true, 1, true, true => some (n, (S.E k).cells)
  | _, _, _, _ => none
 | _ => none
def rowsOf (S : St) (own : Bool) : List Value → Option (List (Nat × List Value))
 | [] => some []
 | v :: l => match rowOf S own v, rowsOf S own l with
  | some q, some qs => some (q :: qs)
  | _, _ => none
def shL (m N : Nat) : List Value → Option (List Value)
 | [] => some []
 | v :: l => match isRow v with
  | true => match Nat.ble m (markOf v), shL m N l with
   | true, some l' => some (row (N + (markOf v - m)) (lenOf v) :: l')
   | _, _ => none
  | false => match one v, nil? (ref1 v), shL m N l with
   | true, true, some l' => some (v :: l')
   | _, _, _ => none
def shA (m N : Nat) : List Value → Option (List Value)
 | [] => some []
 | v :: l => match aggL v with
  | some cs => match shL m N cs, shA m N l with
   | some cs', some l' => some (.agg ⟨cs'⟩ :: l')
   | _, _ => none
  | none => match shL m N [v], shA m N l with
   | some [v'], some l' => some (v' :: l')
   | _, _ => none
def shV (m N : Nat) : Value → Option Value
 | .tuple vs => match shA m N vs.toList with
  | some l => some (.tuple ⟨l⟩)
  | none => none
 | v => match shA m N [v] with
  | some [v'] => some v'
  | _ => none
def newRows : Nat → List (Nat × List Value) → List (Nat × Ent)
 | _, [] => []
 | N, q :: l => (N, rws q.1 q.2) :: newRows (N + 1) l
def evCall (S : St) (f : FuncId) (args : List Value) : List (It P) → Option (Out P)
 | it :: its => match it.tag with
  | 0 => match canA args 0 with
   | some (args', q) => match it.nrows with
    | [] => match rowsOf S true q, plain it.v with
     | some rows, true => some ⟨it.v, [], q.map markOf, S.N, its, [(⟨f, it.op, args', rows, it.code, it.s0⟩, it.key)]⟩
     | _, _ => none
    | nr => match rowsOf S false q, shV q.length S.N it.v, Nat.ble S.lo S.N with
     | some rows, some v, true => match good v && (refs v).all (fun k => Nat.blt k (S.N + nr.length) && Nat.ble S.N k) with
      | true => some ⟨v, newRows S.N nr, q.map markOf ++ (newRows S.N nr).map (·.1), S.N + nr.length, its, [(⟨f, it.op, args', rows, it.code, it.s0⟩, it.key)]⟩
      | false => none
     | _, _, _ => none
   | none => none
  | _ => none
 | [] => none
def evGen (S : St) (o : Oper) (its : List (It P)) : Option (Out P) :=
 match o.op.operands.toList.all (fun x => plain (S.val x)), (match o.op with | .select .. => false | _ => true) with
 | true, true => match its with
  | it :: its' => match it.tag with
   | 6 => match plain it.v with
    | true => some ⟨it.v, [], [], S.N, its', [(⟨it.n, it.op, o.op.operands.toList.map S.val, it.rows, opCode o, it.s0⟩, it.key)]⟩
    | false => none
   | _ => match pureRun P (execOp S.val o) with
    | some (.value v) => evE S v its
    | _ => none
  | [] => match pureRun P (execOp S.val o) with
   | some (.value v) => evE S v its
   | _ => none
 | _, _ => none
def evConv (S : St) (T T' : TypeId) (v : Value) : List (It P) → Option (Out P)
 | it :: its => match it.tag with
  | 7 => match rowOf S true v, plain it.v with
   | some q, true => some ⟨it.v, [], [markOf v], S.N, its, [(⟨T, it.op, [.int .i64 T'], [q], it.code, it.s0⟩, it.key)]⟩
   | _, _ => none
  | _ => none
 | [] => none
def evBin (S : St) (op : BinOp) (T : TypeId) (x y : Value) (g : Unit → Option (Out P)) : List (It P) → Option (Out P)
 | it :: its => match it.tag with
  | 2 => match plain x, plain y, plain it.v with
   | true, true, true => some ⟨it.v, [], [], S.N, its, [(⟨T, op, [x, y], it.rows, it.code, it.s0⟩, it.key)]⟩
   | _, _, _ => none
  | _ => g ()
 | [] => g ()
def sliceCells (t : TypeId) (len : Nat) (parts : Array (Nat × Value)) : Sem (TypeId × List Value) := do
 let .slice elem ← underlying t | stuck ""
 let size ← sizeOf elem
 if len * size > 2 ^ 24 then unsupported (.resourceLimit "")
 let zero ← if len * size = 0 then pure #[] else do pure (← zeroValue elem).cells
 let some cells := Instr.fill (fun i => some (i * size, size)) ((Array.range (len * size)).map (zero[· % zero.size]!)) parts.toList
  | stuck ""
 pure (elem, cells.toList)
def elemInfo (P : Program) (t : TypeId) : Option (TypeId × Nat) :=
 match P.underlying t with
 | some (.slice e) => match P.info? e with
  | some i => match i.zero with
   | some z => match Nat.beq z.cells.size i.size && (Nat.ble 1 i.size && (Nat.ble i.size 4095 && Nat.ble i.bytes 100000)) with
    | true => some (e, i.size)
    | false => none
   | none => none
  | none => none
 | _ => none
def evAppend (S : St) (t : TypeId) (x y : Value) (its : List (It P)) : Option (Out P) :=
 match elemInfo P t, y with
 | some (e, z), .slice (some ⟨k2, 0, some 1⟩) _ _ => match isR (S.E k2).tag, nil? (S.E k2).cells, Nat.beq (S.E k2).cells.length ((S.E k2).n * z), Nat.ble (S.E k2).n 1000 && Nat.ble S.lo S.N with
  | true, false, true, true => match x with
   | .slice none 0 0 => some ⟨row S.N (S.E k2).n, [(S.N, own e z (S.E k2).n (S.E k2).cells)], [k2, S.N], S.N + 1, its, []⟩
   | .slice (some ⟨k, 0, some 1⟩) _ _ => match Nat.beq (S.E k).tag (e * 4096 + z + 4), Nat.ble (S.E k).n 1000000 with
    | true, true => some ⟨row S.N ((S.E k).n + (S.E k2).n), [(k, dead), (S.N, own e z ((S.E k).n + (S.E k2).n) ((S.E k).cells ++ (S.E k2).cells))], [k, k2, S.N], S.N + 1, its, []⟩
    | _, _ => none
   | _ => none
  | _, _, _, _ => none
 | _, _ => none
def evBs (S : St) (t : TypeId) (n : Nat) (e : TypeId) (cells : List Value) : List (It P) → Option (Out P)
 | it :: its => match it.tag with
  | 8 => match elemInfo P t with
   | some (e', z) => match Nat.beq e e' && Nat.beq cells.length (n * z) with
    | true => some ⟨row S.N n, [(S.N, own e z n cells)], [S.N], S.N + 1, its, []⟩
    | false => none
   | none => none
  | _ => some ⟨row S.N n, [(S.N, rws n cells)], [S.N], S.N + 1, it :: its, []⟩
 | [] => some ⟨row S.N n, [(S.N, rws n cells)], [S.N], S.N + 1, [], []⟩
def evLen (S : St) (o : Oper) (args : Array Operand) (argTypes : Array TypeId) (its : List (It P)) : Option (Out P) :=
 match args.toList with
  | [x] => match S.val x with
   | .slice (some ⟨k, _, some 0⟩) n _ => match (argTypes[0]?).bind (fun t => pureRun P (underlying t)) with
    | some (.slice _) => some ⟨.int .i64 n, [], [], S.N, its, []⟩
    | _ => none
   | .slice (some ⟨k, _, some (_ + 1)⟩) _ _ => match (argTypes[0]?).bind (fun t => pureRun P (underlying t)), isR (S.E k).tag || (Nat.beq (S.E k).tag 3 && !(nil? (S.E k).cells)) with
    | some (.slice _), true => some ⟨.int .i64 (S.E k).n, [], [k], S.N, its, []⟩
    | _, _ => none
   | _ => evGen S o its
  | _ => none
def evOp (S : St) (o : Oper) (its : List (It P)) : Option (Out P) :=
 match o.op with
 | .alloc T => match pureRun P (zeroValue T) with
  | some z => match z.cells.toList.all (fun c => one c && nil? (ref1 c)) with
   | true => evBlk S z.cells.toList T its
   | false => none
  | none => none
 | .box T x => match good (S.val x) with
  | true => evBlk S (S.val x).cells.toList T its
  | false => none
 | .load t x => evLoad S t (S.val x) its
 | .store t x y => evStore S t (S.val x) (S.val y) its
 | .fieldAddr s x f => evField S s (S.val x) f its
 | .indexAddr t x y => evIndexAt S t (S.val x) (S.val y) its
 | .slice t x none none none => match plain (S.val x) with
  | true => evGen S o its
  | false => evSlice S t (S.val x) its
 | .convert T T' x => match isMark (S.val x) with
  | true => evConv S T T' (S.val x) its
  | false => evGen S o its
 | .extract x i => evExtract S (S.val x) i its
 | .move x | .assign x => match good (S.val x) with
  | true => some ⟨S.val x, [], [], S.N, its, []⟩
  | false => none
 | .pick c x y => match S.val c with
  | .bool true => match good (S.val x) with
   | true => some ⟨S.val x, [], [], S.N, its, []⟩
   | false => none
  | .bool false => match good (S.val y) with
   | true => some ⟨S.val y, [], [], S.N, its, []⟩
   | false => none
  | _ => none
 | .nilCheck x => match S.val x with
  | .pointer (some ⟨k, off, some s⟩) => match s with
   | 0 => some ⟨ptr k off, [], [], S.N, its, []⟩
   | _ => none
  | _ => evGen S o its
 | .build t parts => match parts.toList.all (fun p => good (S.val p.2) && ones (S.val p.2).cells.toList) with
  | true => match pureRun P (Instr.build t (parts.map fun p => (p.1, S.val p.2))), pureRun P (zeroValue t) with
   | some v, some z => match ones v.cells.toList, good v, z.cells.toList.all (fun c => one c && nil? (ref1 c)) with
    | true, true, true => some ⟨v, [], [], S.N, its, []⟩
    | _, _, _ => none
   | _, _ => none
  | false => none
 | .buildSlice t n parts => match parts.toList.all (fun p => plain (S.val p.2)), pureRun P (sliceCells t n (parts.map fun p => (p.1, S.val p.2))) with
  | true, some (e, cells) => match cells.all (fun c => one c && nil? (ref1 c)), Nat.ble S.lo S.N && Nat.ble n 9223372036854775807 with
   | true, true => evBs S t n e cells its
   | _, _ => none
  | _, _ => none
 | .binOp op T x y _ => evBin S op T (S.val x) (S.val y) (fun _ => evGen S o its) its
 | .call { callee := .value g, args, argTypes := _ } => match S.val g with
  | .func (.func f) ⟨[]⟩ ⟨[]⟩ => match args.toList.all (fun x => good (S.val x)) with
   | true => evCall S f (args.toList.map S.val) its
   | false => none
  | _ => none
 | .call { callee := .builtin .append, args, argTypes } => match args.toList, argTypes.toList with
  | [x, y], [t, t'] => match Nat.beq t t' with
   | true => evAppend S t (S.val x) (S.val y) its
   | false => none
  | _, _ => none
 | .call { callee := .builtin .len, args, argTypes } => evLen S o args argTypes its
 | _ => evGen S o its
end
end Go.Sy
namespace Go.Sy
open Go Go.RowKit
structure Rec where
 dst : Option Tmp
 v : Value
 eff : List (Nat × Ent)
 rd : List Tmp
 tch : List Nat
 sh : List Nat
def isShape : Op → Bool
 | .fieldAddr _ _ _ => true
 | .indexAddr _ _ _ => true
 | .call { callee := .builtin .len, args := _, argTypes := _ } => true
 | _ => false
def shpB (e e' : Ent) : Bool := Nat.beq e.tag e'.tag && (Nat.beq e.n e'.n && (match nil? e.cells, nil? e'.cells with
 | true, true => true
 | false, false => true
 | _, _ => false))
def St.put (S : St) (dst : Option Tmp) (v : Value) (eff : List (Nat × Ent)) (N : Nat) : St :=
 ⟨S.nt, S.lo, match dst with
  | none => S.fr
  | some d => (d, v) :: S.fr, S.d, match eff with
  | [] => S.en
  | _ => eff.reverse ++ S.en, N⟩
def dstOk (nt : Nat) (dst : Option Tmp) : Bool :=
 match dst with
 | none => true
 | some d => Nat.blt d nt
def guardB (all : Array Oper) (S : St) (g : Option (Nat × Bool)) : Option Bool :=
 match g with
 | none => some true
 | some (j, want) => match (all[j]?).bind (·.dst) with
  | some t => match S.F t, want with
   | .bool true, true => some true
   | .bool false, false => some true
   | .bool true, false => some false
   | .bool false, true => some false
   | .tuple ⟨[]⟩, _ => some false
   | _, _ => none
  | none => none
section
variable (P : Program)
def ev1 (all : Array Oper) (S : St) (o : Oper) (its : List (It P)) : Option (Out P) :=
 match dstOk S.nt o.dst, guardB all S o.guard with
 | true, some true => evOp S o its
 | true, some false => some ⟨undef, [], [], S.N, its, []⟩
 | _, _ => none
def evOps (all : Array Oper) : List Oper → St → List (It P) → Option (St × List (It P) × List Rec × List (Key × Key))
 | [], S, its => some (S, its, [], [])
 | o :: l, S, its => match ev1 P all S o its with
  | some ⟨v, eff, tch, N, its', ks⟩ => match evOps all l (S.put o.dst v eff N) its' with
   | some (S', its'', rs, ks') => some (S', its'', ⟨o.dst, v, eff, o.looksAt all, cond (isShape o.op) [] tch, cond (isShape o.op) tch []⟩ :: rs, ks ++ ks')
   | none => none
  | none => none
end
def msk (l : List Nat) : Nat := l.foldr (fun k m => m ||| 2 ^ k) 0
def befs (ops : List Oper) : List Nat :=
 ops.foldl (fun acc o => acc ++ [o.after.toList.foldr (fun e s => match Region.binds .any e with
  | true => s ||| (2 ^ e.on ||| acc.getD e.on 0)
  | false => s) 0]) []
structure Msk where
 d : Nat
 r : Nat
 w : Nat
 t : Nat
def stableB (S : St) (rs : List Rec) (k : Nat) : Bool := rs.all fun q => q.eff.all fun p => !(Nat.beq p.1 k) || shpB p.2 (S.E k)
def Rec.msk (S : St) (rs : List Rec) (q : Rec) : Msk := ⟨Sy.msk q.dst.toList, Sy.msk q.rd, Sy.msk (q.eff.map (·.1)), Sy.msk (q.tch ++ q.sh.filter fun k => !(stableB S rs k))⟩
def clash (a b : Msk) : Bool := !Nat.beq ((a.d &&& (b.r ||| b.d)) ||| (b.d &&& a.r) ||| (a.w &&& (b.t ||| b.w)) ||| (b.w &&& a.t)) 0
def okRow (bef : Nat) (b : Msk) : List Msk → Nat → Bool
 | [], _ => true
 | a :: l, i => match clash a b, Nat.testBit bef i with
  | true, false => false
  | _, _ => okRow bef b l (i + 1)
def okAll (bs : List Nat) (ms : List Msk) : List Msk → Nat → Bool
 | [], _ => true
 | b :: l, j => match okRow (bs.getD j 0) b (ms.take j) 0 with
  | true => okAll bs ms l (j + 1)
  | false => false
def okDraw (all : Array Oper) (S : St) (rs : List Rec) : Bool := Region.earlierB .any all && okAll (befs all.toList) (rs.map (Rec.msk S rs)) (rs.map (Rec.msk S rs)) 0
section
variable (P : Program)
def evReg (ops : Array Oper) (draw : Bool) (S : St) (its : List (It P)) : Option (Exit × St × List (It P) × List (Key × Key)) :=
 match evOps P ops ops.toList S its with
 | some (S', its', rs, ks) => match draw with
  | false => some (.normal, S', its', ks)
  | true => match okDraw ops S rs with
   | true => some (.normal, S', its', ks)
   | false => none
 | none => none
def ren (src : List (Nat × Nat)) (k : Nat) : Nat := match src with
 | [] => k
 | p :: l => match Nat.beq p.2 k with
  | true => p.1
  | false => ren l k
def ren1 (src : List (Nat × Nat)) : Value → Value
 | .pointer (some ⟨k, o, some s⟩) => .pointer (some ⟨ren src k, o, some s⟩)
 | .slice (some ⟨k, o, some s⟩) n c => .slice (some ⟨ren src k, o, some s⟩) n c
 | v => v
def renD (src : List (Nat × Nat)) : Nat → Value → Value
 | 0, v => ren1 src v
 | n + 1, .agg cs => .agg ⟨cs.toList.map (renD src n)⟩
 | n + 1, .tuple vs => .tuple ⟨vs.toList.map (renD src n)⟩
 | _ + 1, v => ren1 src v
def renE (src : List (Nat × Nat)) (e : Ent) : Ent := ⟨e.tag, e.n, match isR e.tag with
 | true => e.cells
 | false => e.cells.map (ren1 src)⟩
def has (k : Nat) : List Nat → Bool
 | [] => false
 | x :: l => match Nat.beq x k with
  | true => true
  | false => has k l
def alone : List Nat → Bool
 | [] => true
 | x :: l => match has x l with
  | true => false
  | false => alone l
def St.keep (S s : St) (src : List (Nat × Nat)) : Option St :=
 match s.fr.all (fun p => (refs (S.F p.1)).all (fun k => has k (src.map (·.2)))), src.all (fun p => match isR (S.E p.2).tag with
  | true => true
  | false => (S.E p.2).cells.all (fun c => one c && (ref1 c).all (fun k => has k (src.map (·.2))))), src.all (fun p => Nat.blt p.1 s.N && (Nat.beq p.1 p.2 || Nat.ble S.lo p.1)), alone (src.map (·.1)) && alone (src.map (·.2)) with
 | true, true, true, true => some ⟨S.nt, S.lo, s.fr.map (fun p => (p.1, renD src 2 (S.F p.1))), junk, src.map (fun p => (p.1, renE src (S.E p.2))), s.N⟩
 | _, _, _, _ => none
def rounds (ev : St → List (It P) → Option (Exit × St × List (It P) × List (Key × Key))) : Nat → St → List (It P) → Option (Exit × St × List (It P) × List (Key × Key))
 | 0, _, _ => none
 | m + 1, S, its => match ev S its with
  | some (e, S', its', ks) => match e with
   | .normal => match rounds ev m S' its' with
    | some (e', S'', its'', ks') => some (e', S'', its'', ks ++ ks')
    | none => none
   | e => some (e, S', its', ks)
  | none => none
def evCode : Nat → Code → St → List (It P) → Option (Exit × St × List (It P) × List (Key × Key))
 | 0, _, _, _ => none
 | n + 1, c, S, its => match c with
  | .skip => some (.normal, S, its, [])
  | .label _ => some (.normal, S, its, [])
  | .exit id => some (.exit id, S, its, [])
  | .ret => some (.ret, S, its, [])
  | .region _ ops draw => evReg P ops draw S its
  | .seq a b => match evCode n a S its with
   | some (e, S', its', ks) => match e with
    | .normal => match evCode n b S' its' with
     | some (e', S'', its'', ks') => some (e', S'', its'', ks ++ ks')
     | none => none
    | e => some (e, S', its', ks)
   | none => none
  | .cond x a b => match S.val x with
   | .bool true => evCode n a S its
   | .bool false => evCode n b S its
   | _ => none
  | .block id a => match evCode n a S its with
   | some (e, S', its', ks) => match e with
    | .exit id' => match Nat.beq id' id with
     | true => some (.normal, S', its', ks)
     | false => some (.exit id', S', its', ks)
    | e => some (e, S', its', ks)
   | none => none
  | .loop a => match its with
   | it :: its1 => match it.tag with
    | 5 => match S.keep it.s0 it.src with
     | some s => some (it.ex, it.s1, its1, [(⟨it.n, it.op, it.l, it.rows, .loop a, s⟩, it.key)])
     | none => none
    | _ => rounds P (fun S its => evCode n a S its) n S its
   | [] => rounds P (fun S its => evCode n a S its) n S []
  | _ => none
end
def evRes (P : Program) (S : St) : ResultVar → Option Value
 | .tmp t => match good (S.F t) with
  | true => some (S.F t)
  | false => none
 | .cell a t => match S.F a with
  | .pointer (some ⟨k, off, some 0⟩) => match (S.E k).tag with
   | 1 => readV P t (S.E k).cells off
   | _ => none
  | _ => none
def evRess (P : Program) (S : St) : List ResultVar → Option (List Value)
 | [] => some []
 | q :: l => match evRes P S q, evRess P S l with
  | some v, some vs => some (v :: vs)
  | _, _ => none
def frame : Nat → List Value → List (Nat × Value)
 | _, [] => []
 | i, v :: l => (i, v) :: frame (i + 1) l
def start (nt : Nat) (rows : List (Nat × List Value)) (args : List Value) : St := ⟨nt, rows.length, frame 0 args, undef, newRows 0 rows, rows.length⟩
def oldRows : Nat → List (Nat × List Value) → List (Nat × Ent)
 | _, [] => []
 | N, q :: l => (N, ⟨3, q.1, q.2⟩) :: oldRows (N + 1) l
def startG (nt : Nat) (rows : List (Nat × List Value)) (args : List Value) : St := ⟨nt, rows.length, frame 0 args, undef, oldRows 0 rows, rows.length⟩
def finV : List Value → Value
 | [v] => v
 | l => .tuple ⟨l⟩
def evEnd (P : Program) (fn : Func) (S : St) : Option (Value × List (Nat × List Value)) :=
 match evRess P S fn.results.toList with
 | some vs => match canA vs S.lo with
  | some (vs', q) => match rowsOf S true q with
   | some nr => some (finV vs', nr)
   | none => none
  | none => none
 | none => none
def evFn (P : Program) (fn : Func) (c : Code) (rows : List (Nat × List Value)) (args : List Value) (its : List (It P)) : Option ((Value × List (Nat × List Value)) × List (Key × Key)) :=
 match args.all good, Nat.ble args.length fn.ntmps, (args.flatMap refs).all (fun k => Nat.blt k rows.length) with
 | true, true, true => match evCode P 2000 c (start fn.ntmps rows args) its with
  | some (e, S, its', ks) => match its' with
   | [] => match e with
    | .normal => match evEnd P fn S with
     | some q => some (q, ks)
     | none => none
    | .ret => match evEnd P fn S with
     | some q => some (q, ks)
     | none => none
    | _ => none
   | _ => none
  | none => none
 | _, _, _ => none
def evFnG (P : Program) (fn : Func) (c : Code) (rows : List (Nat × List Value)) (args : List Value) (its : List (It P)) : Option (Value × List (Key × Key)) :=
 match args.all good, Nat.ble args.length fn.ntmps, (args.flatMap refs).all (fun k => Nat.blt k rows.length), rows.all (fun q => !(nil? q.2)) with
 | true, true, true, true => match evCode P 2000 c (startG fn.ntmps rows args) its with
  | some (e, S, its', ks) => match its' with
   | [] => match e with
    | .normal => match evEnd P fn S with
     | some (v, []) => some (v, ks)
     | _ => none
    | .ret => match evEnd P fn S with
     | some (v, []) => some (v, ks)
     | _ => none
    | _ => none
   | _ => none
  | none => none
 | _, _, _, _ => none
def evTo (P : Program) (code : Code) (S s1 : St) (src : List (Nat × Nat)) (its : List (It P)) : Option ((Exit × St) × List (Key × Key)) :=
 match evCode P 2000 code S its with
 | some (e, S', its', ks) => match its', S'.keep s1 src with
  | [], some s => some ((e, s), ks)
  | _, _ => none
 | none => none
def lhs' {α : Type} : Option (α × List (Key × Key)) → Option (α × List Key)
 | some (q, ks) => some (q, ks.map (·.1))
 | none => none
def rhs' {α : Type} (q : α) : Option (α × List (Key × Key)) → Option (α × List Key)
 | some (_, ks) => some (q, ks.map (·.2))
 | none => some (q, [])
def c {P : Program} {f : FuncId} {args : List Value} {v : Value} (h : Sp P f [] args v []) : It P := ⟨0, f, .add, args, [], v, [], .skip, st0, .normal, st0, [], h⟩
def cr {P : Program} {f : FuncId} {rows : List (Nat × List Value)} {args : List Value} {v : Value} {nrows : List (Nat × List Value)} (h : Sp P f rows args v nrows) : It P := ⟨0, f, .add, args, rows, v, nrows, .skip, st0, .normal, st0, [], h⟩
def e {P : Program} {x v : Value} (h : x = v) : It P := ⟨1, 0, .add, [x], [], v, [], .skip, st0, .normal, st0, [], congrArg (fun y => [y]) h⟩
def eb {P : Program} {x v : Bool} (h : x = v) : It P := e (congrArg Value.bool h)
def L {P : Program} : It P := ⟨9, 0, .add, [], [], undef, [], .skip, st0, .normal, st0, [], trivial⟩
def x2 {P : Program} {op : BinOp} {T : TypeId} {x y v : Value} (h : ∀ ox oy w, ((do eqGuard op T ox oy x y; binOp op T x y : Sem Value)).run P w = .ok v w) : It P :=
 ⟨2, T, op, [x, y], [], v, [], .skip, st0, .normal, st0, [], fun x' y' h' ox oy w => by simp only [List.cons.injEq, and_true] at h'; obtain ⟨rfl, rfl⟩ := h'; exact h ox oy w⟩
def lp {P : Program} {code : Code} {s0 s1 : St} {ex : Exit} (src : List (Nat × Nat)) (h : CodeOk P code s0 ex s1) : It P := ⟨5, 0, .add, [], [], undef, [], code, s0, ex, s1, src, h⟩
end Go.Sy
namespace Go.Sy
open Go Go.RowKit
def updE (E : Nat → Ent) (eff : List (Nat × Ent)) : Nat → Ent := eff.foldl (fun E p => upd1 E p.1 p.2) E
def OpOk (P : Program) (o : Oper) (S : St) (v : Value) (eff : List (Nat × Ent)) (tch : List Nat) : Prop :=
 ∀ (G : Ctx P) (F : Nat → Value) (E : Nat → Ent) (r : Nat → Value) (a : Act) (w : World) (Q : Exit → Act → World → Prop) (K : Act → World → Prop), G.rows.length = S.lo → G.nt = S.nt → Rz G F E r a w →
  (∀ t, Operand.tmp t ∈ o.op.operands → F t = S.F t) → (∀ k ∈ tch, E k = S.E k) →
  (∀ r' a' w', Rz G (updF F o.dst v) (updE E eff) r' a' w' → K a' w') → o.wp P a w K Q
def shp (e : Ent) : Nat × Nat × Bool := (e.tag, e.n, nil? e.cells)
def OpSh (P : Program) (o : Oper) (S : St) (v : Value) (tch : List Nat) : Prop :=
 ∀ (G : Ctx P) (F : Nat → Value) (E : Nat → Ent) (r : Nat → Value) (a : Act) (w : World) (Q : Exit → Act → World → Prop) (K : Act → World → Prop), G.rows.length = S.lo → G.nt = S.nt → Rz G F E r a w →
  (∀ t, Operand.tmp t ∈ o.op.operands → F t = S.F t) → (∀ k ∈ tch, shp (E k) = shp (S.E k)) →
  (∀ r' a' w', Rz G (updF F o.dst v) E r' a' w' → K a' w') → o.wp P a w K Q
theorem OpSh.ok {P : Program} {o : Oper} {S : St} {v : Value} {tch : List Nat} (h : OpSh P o S v tch) : OpOk P o S v [] tch :=
 fun G F E r a w Q K h1 h2 h3 h4 h5 h6 => h G F E r a w Q K h1 h2 h3 h4 (fun k hk => by rw [h5 k hk]) h6
section
variable {P : Program} {S : St} {o : Oper} {G : Ctx P} {F : Nat → Value} {E : Nat → Ent} {r : Nat → Value} {a : Act} {w : World}
theorem dst_lt {nt : Nat} {dst : Option Tmp} (h : dstOk nt dst = true) : ∀ d, dst = some d → d < nt := by
 intro d hd
 subst hd
 simpa [dstOk, Nat.blt_eq] using h
theorem good_ne {v : Value} (h : good v = true) : v ≠ junk := by
 intro e; subst e; cases h
theorem plain_good {v : Value} (h : plain v = true) : good v = true := by unfold plain at h; rw [Bool.and_eq_true] at h; exact h.1
theorem plain_refs {v : Value} (h : plain v = true) : refs v = [] := by unfold plain at h; rw [Bool.and_eq_true, nil?_iff] at h; exact h.2
theorem val_ok (h : Rz G F E r a w) (hF : ∀ t, Operand.tmp t ∈ o.op.operands → F t = S.F t) {x : Operand} (hx : x ∈ o.op.operands) (hg : good (S.val x) = true) :
    a.eval x = den r (S.val x) ∧ ∀ k ∈ refs (S.val x), (E k).tag ≠ 0 := by
 cases x with
 | tmp t =>
  have e := hF t hx
  have e2 : S.val (.tmp t) = F t := e.symm
  rw [e2] at hg ⊢
  exact ⟨h.fr t (good_ne hg), h.frA t⟩
 | const v =>
  simp only [St.val] at hg ⊢
  split at hg
  ·rename_i hp
   exact ⟨(den_plain hp).symm, fun k hk => by rw [plain_refs hp] at hk; cases hk⟩
  ·cases hg
 | global g => exact ⟨rfl, fun k hk => by cases hk⟩
 | func f => exact ⟨rfl, fun k hk => by cases hk⟩
theorem wp_value {K : Act → World → Prop} {Q : Exit → Act → World → Prop} {u : Value} {w' : World} (h : (execOp a.eval o).run P w = .ok (.value u) w') (hK : K (a.put o.dst u) w') : o.wp P a w K Q := by
 unfold Oper.wp
 rw [h]
 exact hK
theorem OpOk.value {v : Value} {tch : List Nat} (hd : dstOk S.nt o.dst = true) (hv : good v = true)
    (h : ∀ {G : Ctx P} {F : Nat → Value} {E : Nat → Ent} {r : Nat → Value} {a : Act} {w : World}, Rz G F E r a w → (∀ t, Operand.tmp t ∈ o.op.operands → F t = S.F t) → (∀ k ∈ tch, E k = S.E k) →
     (∀ k ∈ refs v, (E k).tag ≠ 0) ∧ (execOp a.eval o).run P w = .ok (.value (den r v)) w) : OpOk P o S v [] tch := by
 intro G F E r a w Q K hm hnt hz hF hE hK
 obtain ⟨h1, h2⟩ := h hz hF hE
 exact wp_value h2 (hK r _ w (hz.put hv h1 (by rw [hnt]; exact dst_lt hd)))
theorem OpSh.value {v : Value} {tch : List Nat} (hd : dstOk S.nt o.dst = true) (hv : good v = true)
    (h : ∀ {G : Ctx P} {F : Nat → Value} {E : Nat → Ent} {r : Nat → Value} {a : Act} {w : World}, Rz G F E r a w → (∀ t, Operand.tmp t ∈ o.op.operands → F t = S.F t) → (∀ k ∈ tch, shp (E k) = shp (S.E k)) →
     (∀ k ∈ refs v, (E k).tag ≠ 0) ∧ (execOp a.eval o).run P w = .ok (.value (den r v)) w) : OpSh P o S v tch := by
 intro G F E r a w Q K hm hnt hz hF hE hK
 obtain ⟨h1, h2⟩ := h hz hF hE
 exact wp_value h2 (hK r _ w (hz.put hv h1 (by rw [hnt]; exact dst_lt hd)))
theorem OpOk.value' {v : Value} {tch : List Nat} (hd : dstOk S.nt o.dst = true)
    (h : ∀ {G : Ctx P} {F : Nat → Value} {E : Nat → Ent} {r : Nat → Value} {a : Act} {w : World}, Rz G F E r a w → (∀ t, Operand.tmp t ∈ o.op.operands → F t = S.F t) → (∀ k ∈ tch, E k = S.E k) →
     good v = true ∧ (∀ k ∈ refs v, (E k).tag ≠ 0) ∧ (execOp a.eval o).run P w = .ok (.value (den r v)) w) : OpOk P o S v [] tch := by
 intro G F E r a w Q K hm hnt hz hF hE hK
 obtain ⟨h0, h1, h2⟩ := h hz hF hE
 exact wp_value h2 (hK r _ w (hz.put h0 h1 (by rw [hnt]; exact dst_lt hd)))
theorem evE_ok {v : Value} {its : List (It P)} {out : Out P} (h : evE S v its = some out) (hk : ∀ p ∈ out.ks, p.1 = p.2) : out.v = v ∧ plain v = true ∧ out.eff = [] ∧ out.tch = [] := by
 have key : ∀ its', pl S v its' = some out → out.v = v ∧ plain v = true ∧ out.eff = [] ∧ out.tch = [] := by
  intro its' h
  unfold pl at h
  split at h
  ·simp only [Option.some.injEq] at h; subst h; exact ⟨rfl, by assumption, rfl, rfl⟩
  ·cases h
 unfold evE at h
 split at h
 ·exact key _ h
 ·rename_i it its
  have ok := it.ok
  split at h
  ·rename_i ht
   split at h
   ·rename_i h1 h2
    simp only [Option.some.injEq] at h
    subst h
    have e := hk _ (List.mem_singleton.2 rfl)
    rw [ht] at ok
    have e2 : [v] = it.l := congrArg Key.l e
    have e3 : it.l = [it.v] := ok
    rw [e3] at e2
    simp only [List.cons.injEq, and_true] at e2
    exact ⟨e2.symm, h1, rfl, rfl⟩
   ·cases h
  ·exact key _ h
  ·exact key _ h
theorem run_val {s : Sem Value} {v : Value} {w' : World} (h : s.run P w = .ok v w') : (do pure (.value (← s)) : Sem Next).run P w = .ok (.value v) w' := by
 rw [Sem.run_bind, h]; rfl
theorem gen_old {its : List (It P)} {out : Out P} (hd : dstOk S.nt o.dst = true) (h1 : o.op.operands.toList.all (fun x => plain (S.val x)) = true) (h2 : (match o.op with | .select .. => false | _ => true) = true)
    (h : (match pureRun P (execOp S.val o) with | some (.value v) => evE S v its | _ => none) = some out) (hk : ∀ p ∈ out.ks, p.1 = p.2) : OpOk P o S out.v out.eff out.tch := by
 split at h
 ·rename_i v hv
  obtain ⟨e1, e2, e3, e4⟩ := evE_ok h hk
  rw [e1, e3, e4]
  refine .value hd (plain_good e2) ?_
  intro G F E r a w hz hF hE
  refine ⟨fun k hk => (by rw [plain_refs e2] at hk; cases hk), ?_⟩
  rw [den_plain e2]
  rw [List.all_eq_true] at h1
  rw [execOp_congr o (ρ := a.eval) (ρ' := S.val) (by intro cs b e; rw [e] at h2; cases h2) (fun x hx => ?_)]
  ·exact pureRun_run hv w
  ·have hp := h1 x (by simpa using hx)
   rw [(val_ok hz hF hx (plain_good hp)).1, den_plain hp]
 ·cases h
theorem gen_ok {its : List (It P)} {out : Out P} (hd : dstOk S.nt o.dst = true) (h : evGen S o its = some out) (hk : ∀ p ∈ out.ks, p.1 = p.2) : OpOk P o S out.v out.eff out.tch := by
 unfold evGen at h
 split at h
 ·rename_i h1 h2
  split at h
  ·rename_i it its'
   split at h
   ·rename_i ht
    split at h
    ·rename_i hp
     simp only [Option.some.injEq] at h
     subst h
     have e := hk _ (List.mem_singleton.2 rfl)
     have ok := it.ok
     rw [ht] at ok
     refine .value hd (plain_good hp) ?_
     intro G F E r a w hz hF hE
     refine ⟨fun k hk => (by rw [plain_refs hp] at hk; cases hk), ?_⟩
     rw [den_plain hp]
     rw [List.all_eq_true] at h1
     have k1 : opCode o = it.code := congrArg Key.code e
     have k2 : o.op.operands.toList.map S.val = it.l := congrArg Key.l e
     refine ok o k1 a.eval w ?_
     rw [← k2]
     refine List.map_congr_left fun x hx => ?_
     have hp := h1 x hx
     rw [(val_ok hz hF (by simpa using hx) (plain_good hp)).1, den_plain hp]
    ·cases h
   ·exact gen_old hd h1 h2 h hk
  ·exact gen_old hd h1 h2 h hk
 ·cases h
theorem ones_map {l : List Value} (h : ones l = true) (n : Nat) : l.map (denD r n) = l.map (den1 r) := by
 unfold ones at h
 rw [List.all_eq_true] at h
 exact List.map_congr_left fun x hx => one_den n (h x hx)
def uno : Value → Bool
 | .agg _ | .tuple _ => false
 | _ => true
theorem uno_cells {v : Value} (h : uno v = true) : v.cells = #[v] := by cases v <;> first | rfl | cases h
theorem one_den1 {v : Value} : one v = true → (∀ k ∈ ref1 v, uno (r k) = true) → uno (den1 r v) = true := by
 intro h hr
 match v, h, hr with
 | .pointer (some ⟨k, off, some 0⟩), _, _ => rfl
 | .pointer (some ⟨k, off, some (_ + 1)⟩), _, _ => simp only [den1, rptr]; split <;> rfl
 | .slice (some ⟨k, off, some 0⟩) n c, _, _ => rfl
 | .slice (some ⟨k, off, some (_ + 1)⟩) n c, _, hr => exact hr k (List.mem_singleton.2 rfl)
 | .pointer (some ⟨k, off, none⟩), _, _ => rfl
 | .pointer none, _, _ => rfl
 | .slice (some ⟨k, off, none⟩) n c, _, _ => rfl
 | .slice none n c, _, _ => rfl
 | .bool _, _, _ => rfl
 | .int _ _, _, _ => rfl
 | .string _, _, _ => rfl
 | .func _ _ _, _, _ => rfl
 | .nilFunc, _, _ => rfl
 | .nilIface, _, _ => rfl
theorem cells_den {v : Value} (h : ones v.cells.toList = true) (hr : ∀ k ∈ refs v, uno (r k) = true) : (den r v).cells = ⟨v.cells.toList.map (den1 r)⟩ := by
 by_cases ho : one v = true
 ·have e1 : v.cells = #[v] := by cases v <;> first | rfl | (simp [one] at ho; done)
  have e2 : den r v = den1 r v := one_den 2 ho
  rw [e1, e2, uno_cells (one_den1 ho fun k hk => hr k (by unfold refs; rw [one_ref 2 ho]; exact hk))]
  rfl
 ·cases v with
  | agg cs => show (⟨cs.toList.map (denD r 1)⟩ : Array Value) = _; rw [ones_map (l := cs.toList) h]; rfl
  | _ => exact absurd (by simpa [Value.cells, ones] using h) ho
theorem Rz.cell1 (h : Rz G F E r a w) {k : Nat} (hk : (E k).tag ≠ 0) : uno (r k) = true := by
 have he := h.ent k
 unfold EntOk at he
 split at he
 ·exact absurd (by assumption) hk
 ·obtain ⟨b, e, _⟩ := he; rw [e]; rfl
 ·obtain ⟨a, c, e⟩ := he.1.form; rw [e]; rfl
 ·obtain ⟨⟨a, n, c, e⟩, _⟩ := he; rw [e]; rfl
 ·obtain ⟨a, c, e⟩ := he.row.form; rw [e]; rfl
theorem refs_cells {v : Value} (h : ones v.cells.toList = true) {k : Nat} {c : Value} (hc : c ∈ v.cells.toList) (hk : k ∈ ref1 c) : k ∈ refs v := by
 unfold ones at h
 rw [List.all_eq_true] at h
 have h1 := h c hc
 by_cases ho : one v = true
 ·have e1 : v.cells = #[v] := by cases v <;> first | rfl | (simp [one] at ho; done)
  rw [e1] at hc
  have : c = v := by simpa using hc
  subst this
  unfold refs; rw [one_ref 2 ho]; exact hk
 ·cases v with
  | agg cs => exact List.mem_flatMap.2 ⟨c, hc, by rw [one_ref 1 h1]; exact hk⟩
  | _ => exact absurd (h _ (by simp [Value.cells])) ho
theorem refs_agg {l : List Value} (h : ones l = true) {k : Nat} (hk : k ∈ refs (.agg ⟨l⟩)) : ∃ c ∈ l, k ∈ ref1 c := by
 obtain ⟨c, hc, hk⟩ := List.mem_flatMap.1 hk
 unfold ones at h
 rw [List.all_eq_true] at h
 exact ⟨c, hc, by rw [← one_ref 1 (h c hc)]; exact hk⟩
theorem good_agg {l : List Value} (h : ones l = true) : good (.agg ⟨l⟩) = true := by
 unfold good
 unfold ones at h
 rw [List.all_eq_true] at h
 show l.all (goodD 1) = true
 rw [List.all_eq_true]
 exact fun c hc => one_good 1 (h c hc)
theorem den_agg {l : List Value} (h : ones l = true) : den r (.agg ⟨l⟩) = .agg ⟨l.map (den1 r)⟩ := by
 show Value.agg ⟨l.map (denD r 1)⟩ = _
 rw [ones_map h]
theorem refs_one {v : Value} (h : one v = true) : refs v = ref1 v := one_ref 2 h
theorem den_one {v : Value} (h : one v = true) : den r v = den1 r v := one_den 2 h
end
end Go.Sy
namespace Go.Sy
open Go Go.RowKit
section
variable {P : Program} {S : St} {o : Oper} {G : Ctx P} {F : Nat → Value} {E : Nat → Ent} {r : Nat → Value} {a : Act} {w : World}
theorem run_zero {T : TypeId} {z : Value} (h : pureRun P (zeroValue T) = some z) : (Instr.alloc T true (.tuple #[])).run P w = .ok (.pointer (some ⟨w.heap.size, 0, none⟩)) (w.alloc (.cells z.cells T)) := by
 unfold Instr.alloc
 rw [Sem.run_bind, pureRun_run h]
 rfl
theorem run_box {T : TypeId} {z : Value} : (Instr.box T z).run P w = .ok (.pointer (some ⟨w.heap.size, 0, none⟩)) (w.alloc (.cells z.cells T)) := rfl
theorem blk_ok {cells : List Value} {T : TypeId} {its : List (It P)} {out : Out P} (hd : dstOk S.nt o.dst = true) (h : evBlk S cells T its = some out)
    (hr : ∀ {G : Ctx P} {F : Nat → Value} {E : Nat → Ent} {r : Nat → Value} {a : Act} {w : World}, Rz G F E r a w → (∀ t, Operand.tmp t ∈ o.op.operands → F t = S.F t) →
     (∀ c ∈ cells, ∀ j ∈ ref1 c, (E j).tag ≠ 0) ∧ (execOp a.eval o).run P w = .ok (.value (ptr0 w.heap.size)) (w.alloc (.cells ⟨cells.map (den1 r)⟩ T))) (hN : (S.E S.N).tag = 0) : OpOk P o S out.v out.eff out.tch := by
 unfold evBlk at h
 split at h
 ·rename_i h1 h2
  simp only [Option.some.injEq] at h
  subst h
  intro G F E r a w Q K hm hnt hz hF hE hK
  obtain ⟨h3, h4⟩ := hr hz hF
  unfold ones at h1
  rw [List.all_eq_true] at h1
  have eN : E S.N = S.E S.N := hE S.N (List.mem_singleton.2 rfl)
  have hz2 := hz.block (K := S.N) (T := T) (cells := cells) (by rw [eN]; exact hN) (by rw [hm]; exact Nat.le_of_ble_eq_true h2) fun c hc => ⟨h1 c hc, h3 c hc⟩
  refine wp_value h4 (hK (upd1 r S.N (ptr0 w.heap.size)) _ _ ?_)
  have e : ptr0 w.heap.size = den (upd1 r S.N (ptr0 w.heap.size)) (ptr S.N 0) := by
   show _ = Value.pointer (some ⟨blkOf (upd1 r S.N (ptr0 w.heap.size) S.N), 0, none⟩)
   rw [upd1_same]; rfl
  have hp := hz2.put (dst := o.dst) (v := ptr S.N 0) rfl (fun k hk => by
   have : k = S.N := by simpa [refs, refD, ref1, ptr] using hk
   subst this
   rw [upd1_same]; simp [blk]) (by rw [hnt]; exact dst_lt hd)
  rw [← e] at hp
  exact hp
 ·cases h
theorem run_load1 {b off : Nat} {cs : Array Value} {ty : TypeId} {fz : Nat × Nat} {v : Value} (h : w.heap[b]? = some (.cells cs ty fz)) (hc : cs.toList[off]? = some v) : (load ⟨b, off, none⟩).run P w = .ok v w := by
 have e : w.cell? ⟨b, off, none⟩ = some v := by
  unfold World.cell?
  simp only [h]
  simpa using hc
 unfold load
 simp only [Sem.run, e]
theorem add_none (b off n : Nat) : (⟨b, off, none⟩ : Addr).add n = ⟨b, off + n, none⟩ := by
 unfold Addr.add
 split
 ·rename_i h; subst h; rfl
 ·rfl
theorem run_loadFrom {b off : Nat} {cs : Array Value} {ty : TypeId} {fz : Nat × Nat} (h : w.heap[b]? = some (.cells cs ty fz)) : ∀ (n i : Nat) (acc : Array Value), n ≤ (cs.toList.drop (off + i)).length →
    (loadCellsFrom ⟨b, off, none⟩ i n acc).run P w = .ok ⟨acc.toList ++ (cs.toList.drop (off + i)).take n⟩ w
 | 0, i, acc, _ => by simp [loadCellsFrom, Sem.run, pure]
 | n + 1, i, acc, hn => by
  have hlt : off + i < cs.toList.length := by
   rw [List.length_drop] at hn; omega
  have e : cs.toList[off + i]? = some cs.toList[off + i] := List.getElem?_eq_getElem hlt
  unfold loadCellsFrom
  rw [Sem.run_bind, add_none, run_load1 h e]
  simp only [Result.andThen_ok]
  rw [run_loadFrom h n (i + 1) _ (by rw [List.length_drop] at hn ⊢; omega)]
  rw [List.drop_eq_getElem_cons hlt, List.take_succ_cons]
  simp [Nat.add_assoc]
theorem run_isAgg {t : TypeId} {x : Bool} (h : aggB P t = some x) : (isAgg t).run P w = .ok x w := pureRun_run h w
theorem read_ok {t : TypeId} {cells : List Value} {off b o' : Nat} {C : Array Value} {ty : TypeId} {fz : Nat × Nat} {v : Value} (hC : w.heap[b]? = some (.cells C ty fz)) (hsub : (C.toList.drop o').take cells.length = cells.map (den1 r))
    (ho : ∀ c ∈ cells, one c = true) (hv : readV P t cells off = some v) :
    (loadVar t ⟨b, o' + off, none⟩).run P w = .ok (den r v) w ∧ good v = true ∧ ∀ k ∈ refs v, ∃ c ∈ cells, k ∈ ref1 c := by
 unfold readV at hv
 split at hv
 ·rename_i n hagg hsz
  split at hv
  ·rename_i hlen
   simp only [Option.some.injEq] at hv
   subst hv
   have hlen2 : (cellsAt cells off n).length = n := Nat.eq_of_beq_eq_true hlen
   have hone : ones (cellsAt cells off n) = true := by
    unfold ones
    rw [List.all_eq_true]
    exact fun c hc => ho c (List.mem_of_mem_drop (List.mem_of_mem_take hc))
   have hL : n ≤ cells.length - off := by
    unfold cellsAt at hlen2
    rw [List.length_take, List.length_drop] at hlen2; omega
   have hClen : cells.length ≤ (C.toList.drop o').length := by
    have := congrArg List.length hsub
    rw [List.length_take, List.length_map] at this; omega
   have key : (C.toList.drop (o' + off)).take n = (cellsAt cells off n).map (den1 r) := by
    unfold cellsAt
    rw [List.map_take, List.map_drop, ← hsub, List.drop_take, List.take_take, List.drop_drop]
    congr 1
    omega
   refine ⟨?_, good_agg hone, fun k hk => ?_⟩
   ·unfold loadVar loadCells
    rw [Sem.run_bind, run_isAgg hagg]
    simp only [Result.andThen_ok, if_true]
    rw [Sem.run_bind, pureRun_run hsz]
    simp only [Result.andThen_ok]
    rw [Sem.run_bind, run_loadFrom hC n 0 _ (by rw [List.length_drop] at hClen ⊢; omega)]
    rw [den_agg hone, ← key]
    simp [Result.andThen_ok]
   ·obtain ⟨c, hc, hk⟩ := refs_agg hone hk
    exact ⟨c, List.mem_of_mem_drop (List.mem_of_mem_take hc), hk⟩
  ·cases hv
 ·rename_i hagg
  have hmem : v ∈ cells := List.mem_of_getElem? hv
  have h1 := ho v hmem
  have hlt := (List.getElem?_eq_some_iff.1 hv).1
  refine ⟨?_, one_good 2 h1, fun k hk => ⟨v, hmem, by rw [← refs_one h1]; exact hk⟩⟩
  unfold loadVar
  rw [Sem.run_bind, run_isAgg hagg]
  simp only [Result.andThen_ok, Bool.false_eq_true, if_false]
  rw [run_load1 hC (v := den r v)]
  have h2 : ((C.toList.drop o').take cells.length)[off]? = some (den1 r v) := by
   rw [hsub, List.getElem?_map, hv]; rfl
  rw [List.getElem?_take_of_lt hlt, List.getElem?_drop] at h2
  rw [h2, den_one h1]
 ·cases hv
theorem load_ok {t : TypeId} {x : Operand} {its : List (It P)} {out : Out P} (hd : dstOk S.nt o.dst = true) (ho : o.op = .load t x) (h : evLoad S t (S.val x) its = some out) : OpOk P o S out.v out.eff out.tch := by
 have hx : x ∈ o.op.operands := by rw [ho]; simp [Op.operands]
 have hex : ∀ a : Act, execOp a.eval o = (do pure (.value (← Instr.loadAt t (a.eval x))) : Sem Next) := fun a => by unfold execOp; rw [ho]
 unfold evLoad at h
 split at h
 ·rename_i k off hval
  split at h
  ·rename_i htag
   split at h
   ·rename_i v hv
    simp only [Option.some.injEq] at h
    subst h
    refine OpOk.value' (P := P) hd ?_
    intro G F E r a w hz hF hE
    obtain ⟨e1, e2⟩ := val_ok hz hF hx (by rw [hval]; rfl)
    have eE : E k = S.E k := hE k (List.mem_singleton.2 rfl)
    have he := hz.ent k
    rw [eE] at he
    unfold EntOk at he
    rw [htag] at he
    obtain ⟨b, hb1, hb2, hb3⟩ := he
    have hA := hz.entA k
    rw [eE] at hA
    obtain ⟨r1, r2, r3⟩ := read_ok (P := P) (r := r) (o' := 0) hb3 (by rw [List.drop_zero]; exact List.take_of_length_le (by simp)) (fun c hc => (hA c hc).1) hv
    refine ⟨r2, fun j hj => ?_, ?_⟩
    ·obtain ⟨c, hc, hjc⟩ := r3 j hj
     exact (hA c hc).2 j hjc
    ·rw [hex, e1, hval]
     refine run_val ?_
     rw [show den r (.pointer (some ⟨k, off, some 0⟩)) = .pointer (some ⟨b, off, none⟩) by
      show Value.pointer (some ⟨blkOf (r k), off, none⟩) = _
      rw [hb1]; rfl]
     rw [Nat.zero_add] at r1
     exact r1
   ·cases h
  ·cases h
 ·rename_i k off s hval
  split at h
  ·rename_i htag hne
   split at h
   ·rename_i v hv
    simp only [Option.some.injEq] at h
    subst h
    refine OpOk.value' (P := P) hd ?_
    intro G F E r a w hz hF hE
    obtain ⟨e1, e2⟩ := val_ok hz hF hx (by rw [hval]; rfl)
    have eE : E k = S.E k := hE k (List.mem_singleton.2 rfl)
    have he := (hz.ent k).rowQ hz.bel (by rw [eE]; exact htag) (by rw [eE]; exact hne)
    rw [eE] at he
    obtain ⟨hpl, b, o', sc, C, ty, fz, hb1, hb3, hb4⟩ := he
    have hA := hz.entA k
    rw [eE] at hA
    obtain ⟨r1, r2, r3⟩ := read_ok (P := P) (r := r) (o' := o') hb3 (by
     rw [hb4]
     conv => lhs; rw [← List.map_id (S.E k).cells]
     exact List.map_congr_left fun c hc => (den1_one (hpl c hc)).symm) (fun c hc => (hA c hc).1) hv
    refine ⟨r2, fun j hj => ?_, ?_⟩
    ·obtain ⟨c, hc, hjc⟩ := r3 j hj
     exact (hA c hc).2 j hjc
    ·rw [hex, e1, hval]
     refine run_val ?_
     rw [show den r (.pointer (some ⟨k, off, some (s + 1)⟩)) = .pointer (some ⟨b, o' + off, none⟩) by
      show rptr (r k) off = _
      rw [hb1]; rfl]
     exact r1
   ·cases h
  ·cases h
 ·cases h
end
end Go.Sy
namespace Go.Sy
open Go Go.RowKit
section
variable {P : Program} {S : St} {o : Oper} {G : Ctx P} {F : Nat → Value} {E : Nat → Ent} {r : Nat → Value} {a : Act} {w : World}
theorem setAll_take (m : Nat) : ∀ (xs cells : List Value) (off : Nat), (setAll cells off xs).take m = setAll (cells.take m) off xs
 | [], cells, off => rfl
 | x :: xs, cells, off => by
  simp only [setAll]
  rw [setAll_take m xs, List.take_set]
theorem setAll_length : ∀ (xs cells : List Value) (off : Nat), (setAll cells off xs).length = cells.length
 | [], cells, off => rfl
 | x :: xs, cells, off => by
  simp only [setAll]
  rw [setAll_length xs, List.length_set]
theorem setAll_map (f : Value → Value) : ∀ (xs cells : List Value) (off : Nat), (setAll cells off xs).map f = setAll (cells.map f) off (xs.map f)
 | [], cells, off => rfl
 | x :: xs, cells, off => by
  simp only [setAll, List.map_cons]
  rw [setAll_map f xs, List.map_set]
theorem setAll_mem {c : Value} : ∀ (xs cells : List Value) (off : Nat), c ∈ setAll cells off xs → c ∈ cells ∨ c ∈ xs
 | [], cells, off, h => .inl h
 | x :: xs, cells, off, h => by
  rcases setAll_mem xs _ _ h with h | h
  ·rcases List.mem_or_eq_of_mem_set h with h | h
   ·exact .inl h
   ·exact .inr (by rw [h]; exact List.mem_cons_self ..)
  ·exact .inr (List.mem_cons_of_mem _ h)
theorem run_store1 {b off : Nat} {C : Array Value} {ty : TypeId} {v : Value} (h : w.heap[b]? = some (.cells C ty (0, 0))) (hv : uno v = true) (hlt : off < C.size) :
    (store ⟨b, off, none⟩ v).run P w = .ok () (w.setCell ⟨b, off, none⟩ v) := by
 have e : w.cell? ⟨b, off, none⟩ = some C[off] := by
  unfold World.cell?
  simp only [h]
  simp [hlt]
 have f : w.frozen? ⟨b, off, none⟩ = false := by
  unfold World.frozen?
  simp [h]
 unfold store
 cases v <;> simp only [Sem.run, e, f] <;> first | rfl | cases hv
theorem setCell_block {b off : Nat} {C : Array Value} {ty : TypeId} {v : Value} (h : w.heap[b]? = some (.cells C ty (0, 0))) :
    (w.setCell ⟨b, off, none⟩ v).heap[b]? = some (.cells (C.setIfInBounds off v) ty (0, 0)) ∧ (∀ j, j ≠ b → (w.setCell ⟨b, off, none⟩ v).heap[j]? = w.heap[j]?) ∧ (w.setCell ⟨b, off, none⟩ v).heap.size = w.heap.size := by
 unfold World.setCell
 refine ⟨?_, fun j hj => ?_, by simp⟩
 ·simp only [Array.getElem?_modify, if_true]
  rw [h]; rfl
 ·simp only [Array.getElem?_modify]
  rw [if_neg (Ne.symm hj)]
theorem run_storeCells {b off : Nat} {ty : TypeId} : ∀ (vs : List Value) (i : Nat) (w : World) (C : Array Value), w.heap[b]? = some (.cells C ty (0, 0)) → (∀ v ∈ vs, uno v = true) → off + i + vs.length ≤ C.size →
    ∃ w', (storeCells ⟨b, off, none⟩ vs i).run P w = .ok () w' ∧ w'.heap[b]? = some (.cells ⟨setAll C.toList (off + i) vs⟩ ty (0, 0)) ∧ (∀ j, j ≠ b → w'.heap[j]? = w.heap[j]?) ∧ w'.heap.size = w.heap.size ∧ w'.os = w.os ∧ w'.tape = w.tape ∧ w'.output = w.output
 | [], i, w, C, h, _, _ => ⟨w, rfl, h, fun _ _ => rfl, rfl, rfl, rfl, rfl⟩
 | v :: vs, i, w, C, h, hv, hl => by
  rw [List.length_cons] at hl
  obtain ⟨h1, h2, h3⟩ := setCell_block (off := off + i) (v := v) h
  obtain ⟨w', g1, g2, g3, g4, g5, g6, g7⟩ := run_storeCells (off := off) vs (i + 1) _ _ h1 (fun x hx => hv x (List.mem_cons_of_mem _ hx)) (by rw [Array.size_setIfInBounds]; omega)
  refine ⟨w', ?_, ?_, fun j hj => (g3 j hj).trans (h2 j hj), g4.trans h3, g5, g6, g7⟩
  ·unfold storeCells
   rw [Sem.run_bind, add_none, run_store1 h (hv v (List.mem_cons_self ..)) (by omega)]
   exact g1
  ·rw [g2]
   simp only [setAll]
   rw [Array.toList_setIfInBounds, Nat.add_assoc]
theorem store_ok {t : TypeId} {x y : Operand} {its : List (It P)} {out : Out P} (hd : dstOk S.nt o.dst = true) (ho : o.op = .store t x y) (h : evStore S t (S.val x) (S.val y) its = some out) : OpOk P o S out.v out.eff out.tch := by
 have hx : x ∈ o.op.operands := by rw [ho]; simp [Op.operands]
 have hy : y ∈ o.op.operands := by rw [ho]; simp [Op.operands]
 have hex : ∀ a : Act, execOp a.eval o = (do Instr.storeAt t (a.eval x) (a.eval y); pure .skip : Sem Next) := fun a => by unfold execOp; rw [ho]
 unfold evStore at h
 split at h
 ·rename_i k off hval
  split at h
  ·rename_i n htag hgy hones hsz
   split at h
   ·rename_i hlen hfit
    simp only [Option.some.injEq] at h
    subst h
    intro G F E r a w Q K hm hnt hz hF hE hK
    obtain ⟨e1, e2⟩ := val_ok hz hF hx (by rw [hval]; rfl)
    obtain ⟨f1, f2⟩ := val_ok hz hF hy hgy
    have eE : E k = S.E k := hE k (List.mem_singleton.2 rfl)
    have he := hz.ent k
    rw [eE] at he
    unfold EntOk at he
    rw [htag] at he
    obtain ⟨b, hb1, hb2, hb3⟩ := he
    have hA := hz.entA k
    rw [eE] at hA
    have hcells := cells_den (r := r) hones fun j hj => hz.cell1 (f2 j hj)
    have hones' := hones
    unfold ones at hones'
    rw [List.all_eq_true] at hones'
    have hlen' := Nat.eq_of_beq_eq_true hlen
    have hfit' := Nat.le_of_ble_eq_true hfit
    obtain ⟨w', g1, g2, g3, g4, g5, g6, g7⟩ := run_storeCells (P := P) (off := off) ((S.val y).cells.toList.map (den1 r)) 0 w _ hb3 (fun v hv => by
     obtain ⟨c, hc, rfl⟩ := List.mem_map.1 hv
     exact one_den1 (hones' c hc) fun j hj => hz.cell1 (f2 j (refs_cells hones hc hj))) (by
      rw [List.length_map, hlen']
      show off + 0 + n ≤ ((S.E k).cells.map (den1 r)).length
      rw [List.length_map]; omega)
    have hrun : (execOp a.eval o).run P w = .ok .skip w' := by
     rw [hex, e1, f1, hval]
     rw [show den r (.pointer (some ⟨k, off, some 0⟩)) = .pointer (some ⟨b, off, none⟩) by
      show Value.pointer (some ⟨blkOf (r k), off, none⟩) = _
      rw [hb1]; rfl]
     rw [Sem.run_bind]
     show ((storeVar t ⟨b, off, none⟩ (den r (S.val y))).run P w).andThen _ = _
     unfold storeVar
     rw [Sem.run_bind, pureRun_run hsz]
     simp only [Result.andThen_ok]
     rw [if_neg (by
      rw [hcells]
      show ¬ ((S.val y).cells.toList.map (den1 r)).length ≠ n
      rw [List.length_map, hlen']; simp)]
     rw [hcells, g1]
     rfl
    have hz2 := hz.store (k := k) (b := b) (T := (S.E k).n) (cells := setAll (S.E k).cells off (S.val y).cells.toList) (w' := w') (by rw [eE]; exact htag) hb1 (by rw [eE]) (fun c hc => by
     rcases setAll_mem _ _ _ hc with hc | hc
     ·exact hA c hc
     ·exact ⟨hones' c hc, fun j hj => f2 j (refs_cells hones hc hj)⟩) (by
      rw [g2, setAll_map]; rfl) g3 g4 g5 g6 g7
    have hp := hz2.put (dst := o.dst) (v := undef) rfl (fun j hj => by cases hj) (by rw [hnt]; exact dst_lt hd)
    unfold Oper.wp
    rw [hrun]
    exact hK r _ _ hp
   ·cases h
  ·cases h
 ·rename_i k off s hval
  split at h
  ·rename_i n htag hgy hpl hsz
   split at h
   ·rename_i hlen hfit
    simp only [Option.some.injEq] at h
    subst h
    intro G F E r a w Q K hm hnt hz hF hE hK
    obtain ⟨e1, e2⟩ := val_ok hz hF hx (by rw [hval]; rfl)
    obtain ⟨f1, f2⟩ := val_ok hz hF hy hgy
    have eE : E k = S.E k := hE k (List.mem_singleton.2 rfl)
    have h4 : 4 ≤ (E k).tag := by rw [eE]; exact Nat.le_of_ble_eq_true htag
    have ho' := (hz.ent k).ownW h4
    obtain ⟨c1, c2, g, c, cs, c3, c4, c5, c6, c7, c8, c9⟩ := ho'
    rw [List.all_eq_true] at hpl
    have hpl' : ∀ x ∈ (S.val y).cells.toList, one x = true ∧ ref1 x = [] := fun x hx => by have := hpl x hx; rw [Bool.and_eq_true, nil?_iff] at this; exact this
    have hones : ones (S.val y).cells.toList = true := by unfold ones; rw [List.all_eq_true]; exact fun x hx => (hpl' x hx).1
    have hcells := cells_den (r := r) hones fun j hj => hz.cell1 (f2 j hj)
    have hplain : (S.val y).cells.toList.map (den1 r) = (S.val y).cells.toList := by
     conv => rhs; rw [← List.map_id (S.val y).cells.toList]
     exact List.map_congr_left fun c hc => den1_one (hpl' c hc).2
    rw [hplain] at hcells
    have hlen' := Nat.eq_of_beq_eq_true hlen
    have hfit' := Nat.le_of_ble_eq_true hfit
    rw [← eE] at hfit'
    have hmul := Nat.mul_le_mul_right (((E k).tag - 4) % 4096) c6
    obtain ⟨w', g1, g2, g3, g4, g5, g6, g7⟩ := run_storeCells (P := P) (off := off) (S.val y).cells.toList 0 w _ c5 (fun v hv => by
     have := one_den1 (r := r) (hpl' v hv).1 (fun j hj => by rw [(hpl' v hv).2] at hj; cases hj)
     rwa [den1_one (hpl' v hv).2] at this) (by rw [hlen']; omega)
    have hrun : (execOp a.eval o).run P w = .ok .skip w' := by
     rw [hex, e1, f1, hval]
     rw [show den r (.pointer (some ⟨k, off, some (s + 1)⟩)) = .pointer (some ⟨g, off, none⟩) by
      show rptr (r k) off = _
      rw [c3]; show Value.pointer (some ⟨g, 0 + off, none⟩) = _; rw [Nat.zero_add]]
     rw [Sem.run_bind]
     show ((storeVar t ⟨g, off, none⟩ (den r (S.val y))).run P w).andThen _ = _
     unfold storeVar
     rw [Sem.run_bind, pureRun_run hsz]
     simp only [Result.andThen_ok]
     rw [if_neg (by
      rw [hcells]
      show ¬ (S.val y).cells.toList.length ≠ n
      rw [hlen']; simp)]
     rw [hcells, g1]
     rfl
    have hat : AtB (r k) g := ⟨_, _, c3⟩
    have hz1 := hz.kill (k := k) (by unfold isR; rw [Nat.ble_eq_true_of_le h4, Bool.or_true])
    have far : ∀ k', k' ≠ k → ((upd1 E k dead k').tag = 1 → r k' ≠ ptr0 g) ∧ ((upd1 E k dead k').tag = 2 → ¬ Loc (r k') (upd1 E k dead k').cells g) ∧ (4 ≤ (upd1 E k dead k').tag → ¬ AtB (r k') g) := fun k' hk' => by
     rw [upd1_other _ _ hk']
     exact hz.sepO k k' g h4 hat hk'
    have hz2 := hz1.away (w' := w') (row := some g) ⟨g5, g6, g7, by omega, fun j _ hj => g3 j fun e => hj (by rw [e])⟩ (fun g' hg' => by
     simp only [Option.some.injEq] at hg'
     subst hg'
     refine ⟨c4, fun k' => ?_⟩
     by_cases hk' : k' = k
     ·subst hk'
      rw [upd1_same]
      exact ⟨fun h => absurd h (by decide), fun h => absurd h (by decide), fun h => absurd h (by decide)⟩
     ·exact far k' hk')
    have hmem : ∀ c ∈ setAll (S.E k).cells off (S.val y).cells.toList, one c = true ∧ ref1 c = [] := fun c hc => by
     rcases setAll_mem _ _ _ hc with hc | hc
     ·exact c1 c (by rw [eE]; exact hc)
     ·exact hpl' c hc
    have hz3 := hz2.revive (k := k) (e := ⟨(S.E k).tag, (S.E k).n, setAll (S.E k).cells off (S.val y).cells.toList⟩) (by rw [upd1_same]; rfl) (by rw [← eE]; exact h4) (by
     obtain ⟨t4, ht4⟩ : ∃ t, (S.E k).tag = t + 4 := ⟨(S.E k).tag - 4, by rw [← eE]; omega⟩
     rw [eE, ht4, Nat.add_sub_cancel] at c2 c5 c8 c9
     rw [eE] at c3 c6
     unfold EntOk
     rw [ht4]
     show OwnW _ w' (r k) (t4 / 4096) (t4 % 4096) (S.E k).n _
     rw [eE, ht4, Nat.add_sub_cancel] at g2
     refine ⟨hmem, by rw [setAll_length]; exact c2, g, c, _, c3, c4, g2, c6, c7, ?_, ?_⟩
     ·show (setAll cs.toList (off + 0) _).length = _
      rw [setAll_length]; exact c8
     ·show (setAll cs.toList (off + 0) _).take _ = _
      rw [setAll_take, c9, Nat.add_zero]) hmem (fun b hb k' hk' => by
     obtain ⟨n', c', e'⟩ := hb
     rw [c3] at e'
     simp only [Value.slice.injEq, Option.some.injEq, Addr.mk.injEq] at e'
     rw [← e'.1.1]
     exact far k' hk')
    have hz4 : Rz G F (upd1 E k ⟨(S.E k).tag, (S.E k).n, setAll (S.E k).cells off (S.val y).cells.toList⟩) r a w' := by
     have e : upd1 (upd1 E k dead) k ⟨(S.E k).tag, (S.E k).n, setAll (S.E k).cells off (S.val y).cells.toList⟩ = upd1 E k ⟨(S.E k).tag, (S.E k).n, setAll (S.E k).cells off (S.val y).cells.toList⟩ := by
      funext j
      by_cases hj : j = k
      ·subst hj; rw [upd1_same, upd1_same]
      ·rw [upd1_other _ _ hj, upd1_other _ _ hj, upd1_other _ _ hj]
     rw [← e]; exact hz3
    have hp := hz4.put (dst := o.dst) (v := undef) rfl (fun j hj => by cases hj) (by rw [hnt]; exact dst_lt hd)
    unfold Oper.wp
    rw [hrun]
    exact hK r _ _ hp
   ·cases h
  ·cases h
 ·cases h
theorem run_fieldOff {s : TypeId} {f n : Nat} {ad : Addr} (h : pureRun P (fieldOff s f) = some n) : (Instr.fieldAt s (.pointer (some ad)) f).run P w = .ok (.pointer (some (ad.add n))) w := by
 have h2 := pureRun_run h w
 unfold fieldOff at h2
 unfold Instr.fieldAt
 rw [Sem.run_bind] at h2 ⊢
 cases hu : (underlying s).run P w with
 | halt x y => rw [hu] at h2; cases h2
 | ok d w1 =>
  rw [hu] at h2
  simp only [Result.andThen_ok] at h2 ⊢
  cases d <;> first
   | (simp [stuck, Sem.run, bind, Sem.bind, pure] at h2; done)
   | skip
  rename_i fields
  simp only at h2 ⊢
  cases hf : fields[f]? with
  | none => rw [hf] at h2; simp [stuck, Sem.run] at h2
  | some q =>
   rw [hf] at h2
   simp only at h2 ⊢
   rw [Sem.run_bind] at h2
   have e1 : ∀ (k : Addr → Sem Value), (Instr.sureAddr (.pointer (some ad)) >>= k) = k ad := fun k => rfl
   rw [e1]
   unfold fieldPlace
   cases hs : (sizeOf q.type).run P w1 with
   | halt x y => rw [hs] at h2; cases h2
   | ok m w2 =>
    rw [hs] at h2
    simp only [Result.andThen_ok] at h2
    rw [Sem.run_bind, Sem.run_bind, hs]
    simp only [Result.andThen_ok]
    by_cases h0 : m = 0
    ·rw [if_pos h0] at h2; simp [stuck, Sem.run] at h2
    ·rw [if_neg h0] at h2 ⊢
     simp only [Sem.run, pure] at h2
     cases h2
     rfl
theorem field_sh {s : TypeId} {x : Operand} {f : Nat} {its : List (It P)} {out : Out P} (hd : dstOk S.nt o.dst = true) (ho : o.op = .fieldAddr s x f) (h : evField S s (S.val x) f its = some out) : out.eff = [] ∧ OpSh P o S out.v out.tch := by
 have hx : x ∈ o.op.operands := by rw [ho]; simp [Op.operands]
 have hex : ∀ a : Act, execOp a.eval o = (do pure (.value (← Instr.fieldAt s (a.eval x) f)) : Sem Next) := fun a => by unfold execOp; rw [ho]
 unfold evField at h
 split at h
 ·rename_i k off n hval hoff
  simp only [Option.some.injEq] at h
  subst h
  refine ⟨rfl, OpSh.value hd rfl ?_⟩
  intro G F E r a w hz hF hE
  obtain ⟨e1, e2⟩ := val_ok hz hF hx (by rw [hval]; rfl)
  refine ⟨fun j hj => e2 j (by rw [hval]; exact hj), ?_⟩
  rw [hex, e1, hval]
  refine run_val ?_
  have := run_fieldOff (w := w) (ad := ⟨blkOf (r k), off, none⟩) hoff
  rw [add_none] at this
  exact this
 ·rename_i k off q n hval hoff
  split at h
  ·rename_i htag hne
   simp only [Option.some.injEq] at h
   subst h
   refine ⟨rfl, OpSh.value hd rfl ?_⟩
   intro G F E r a w hz hF hE
   obtain ⟨e1, e2⟩ := val_ok hz hF hx (by rw [hval]; rfl)
   have eE : shp (E k) = shp (S.E k) := hE k (List.mem_singleton.2 rfl)
   simp only [shp, Prod.mk.injEq] at eE
   obtain ⟨et, en, ec⟩ := eE
   have he := (hz.ent k).rowQ hz.bel (by rw [et]; exact htag) (by rw [ec]; exact hne)
   obtain ⟨hpl, b, o', sc, C, ty, fz, hb1, hb3, hb4⟩ := he
   rw [en] at hb1
   refine ⟨fun j hj => e2 j (by rw [hval]; exact hj), ?_⟩
   rw [hex, e1, hval]
   refine run_val ?_
   have := run_fieldOff (w := w) (ad := ⟨b, o' + off, none⟩) hoff
   rw [add_none] at this
   rw [show den r (.pointer (some ⟨k, off, some (q + 1)⟩)) = .pointer (some ⟨b, o' + off, none⟩) by
         show rptr (r k) off = _
         rw [hb1]; rfl,
    show den r (rpt k (off + n)) = .pointer (some ⟨b, o' + off + n, none⟩) by
        show rptr (r k) (off + n) = _
        rw [hb1]; show Value.pointer (some ⟨b, o' + (off + n), none⟩) = _; rw [Nat.add_assoc]]
   exact this
  ·cases h
 ·cases h
theorem field_ok {s : TypeId} {x : Operand} {f : Nat} {its : List (It P)} {out : Out P} (hd : dstOk S.nt o.dst = true) (ho : o.op = .fieldAddr s x f) (h : evField S s (S.val x) f its = some out) : OpOk P o S out.v out.eff out.tch := by
 obtain ⟨h1, h2⟩ := field_sh hd ho h
 rw [h1]; exact h2.ok
theorem bound_ok {kd : IntKind} {i : Int} {n : Nat} {its its' : List (It P)} {ks : List (Key × Key)} (h : bound kd i n its = some (its', ks)) (hk : ∀ p ∈ ks, p.1 = p.2) : 0 ≤ i ∧ i < (n : Int) := by
 unfold bound at h
 split at h
 ·split at h
  ·rename_i hb; exact of_decide_eq_true hb
  ·cases h
 ·rename_i it its
  have ok := it.ok
  split at h
  ·rename_i ht
   simp only [Option.some.injEq, Prod.mk.injEq] at h
   obtain ⟨rfl, rfl⟩ := h
   have e := hk _ (List.mem_singleton.2 rfl)
   rw [ht] at ok
   have e2 : [.int kd i, .int .i64 (n : Int)] = it.l := congrArg Key.l e
   have ok2 := ok kd i n e2.symm
   exact ok2
  ·split at h
   ·rename_i hb; exact of_decide_eq_true hb
   ·cases h
theorem run_indexArr {t e : TypeId} {n z : Nat} {kd : IntKind} {i : Int} {ad : Addr} (hu : pureRun P (underlying t) = some (.array n e)) (hs : pureRun P (sizeOf e) = some z) (hi : 0 ≤ i ∧ i < (n : Int)) :
    (Instr.indexAt t (.pointer (some ad)) (.int kd i)).run P w = .ok (.pointer (some (ad.add (i.toNat * z)))) w := by
 have hu' := pureRun_run hu w
 have hs' := pureRun_run hs w
 unfold Instr.indexAt
 simp [asIntOf, Instr.sureAddr, hu', hs', hi]
theorem run_indexSl {t e : TypeId} {n c z : Nat} {kd : IntKind} {i : Int} {ad : Addr} (hu : pureRun P (underlying t) = some (.slice e)) (hs : pureRun P (sizeOf e) = some z) (hi : 0 ≤ i ∧ i < (n : Int)) :
    (Instr.indexAt t (.slice (some ad) n c) (.int kd i)).run P w = .ok (.pointer (some (ad.add (i.toNat * z)))) w := by
 have hu' := pureRun_run hu w
 have hs' := pureRun_run hs w
 unfold Instr.indexAt
 simp [asIntOf, Instr.sureAddr, hu', hs', hi]
end
end Go.Sy
namespace Go.Sy
open Go Go.RowKit
section
variable {P : Program} {S : St} {o : Oper} {G : Ctx P} {F : Nat → Value} {E : Nat → Ent} {r : Nat → Value} {a : Act} {w : World}
theorem index_sh {t : TypeId} {x y : Operand} {its : List (It P)} {out : Out P} (hd : dstOk S.nt o.dst = true) (ho : o.op = .indexAddr t x y) (h : evIndexAt S t (S.val x) (S.val y) its = some out) (hk : ∀ p ∈ out.ks, p.1 = p.2) : out.eff = [] ∧ OpSh P o S out.v out.tch := by
 have hx : x ∈ o.op.operands := by rw [ho]; simp [Op.operands]
 have hy : y ∈ o.op.operands := by rw [ho]; simp [Op.operands]
 have hex : ∀ a : Act, execOp a.eval o = (do pure (.value (← Instr.indexAt t (a.eval x) (a.eval y))) : Sem Next) := fun a => by unfold execOp; rw [ho]
 unfold evIndexAt at h
 split at h
 ·rename_i kd i k off n e hvy hvx hu
  split at h
  ·rename_i its' ks z hb hs
   simp only [Option.some.injEq] at h
   subst h
   have hi := bound_ok hb hk
   refine ⟨rfl, OpSh.value hd rfl ?_⟩
   intro G F E r a w hz hF hE
   obtain ⟨e1, e2⟩ := val_ok hz hF hx (by rw [hvx]; rfl)
   obtain ⟨f1, f2⟩ := val_ok hz hF hy (by rw [hvy]; rfl)
   refine ⟨fun j hj => e2 j (by rw [hvx]; exact hj), ?_⟩
   rw [hex, e1, f1, hvx, hvy]
   refine run_val ?_
   have := run_indexArr (w := w) (kd := kd) (ad := ⟨blkOf (r k), off, none⟩) hu hs hi
   rw [add_none] at this
   exact this
  ·cases h
 ·rename_i kd i k off n cc e hvy hvx hu
  split at h
  ·rename_i its' ks z hb hs
   simp only [Option.some.injEq] at h
   subst h
   have hi := bound_ok hb hk
   refine ⟨rfl, OpSh.value hd rfl ?_⟩
   intro G F E r a w hz hF hE
   obtain ⟨e1, e2⟩ := val_ok hz hF hx (by rw [hvx]; rfl)
   obtain ⟨f1, f2⟩ := val_ok hz hF hy (by rw [hvy]; rfl)
   refine ⟨fun j hj => e2 j (by rw [hvx]; exact hj), ?_⟩
   rw [hex, e1, f1, hvx, hvy]
   refine run_val ?_
   have := run_indexSl (w := w) (kd := kd) (ad := ⟨blkOf (r k), off, none⟩) (c := cc) hu hs hi
   rw [add_none] at this
   exact this
  ·cases h
 ·rename_i kd i k n cc e hvy hvx hu
  split at h
  ·rename_i its' ks z hb hs htag hne
   simp only [Option.some.injEq] at h
   subst h
   have hi := bound_ok hb hk
   refine ⟨rfl, OpSh.value hd rfl ?_⟩
   intro G F E r a w hz hF hE
   obtain ⟨e1, e2⟩ := val_ok hz hF hx (by rw [hvx]; rfl)
   obtain ⟨f1, f2⟩ := val_ok hz hF hy (by rw [hvy]; rfl)
   have eE : shp (E k) = shp (S.E k) := hE k (List.mem_singleton.2 rfl)
   simp only [shp, Prod.mk.injEq] at eE
   obtain ⟨et, en, ec⟩ := eE
   have he := (hz.ent k).rowQ hz.bel (by rw [et]; exact htag) (by rw [ec]; exact hne)
   obtain ⟨hpl, b, o', sc, C, ty, fz, hb1, hb3, hb4⟩ := he
   rw [en] at hb1
   refine ⟨fun j hj => e2 j (by rw [hvx]; exact hj), ?_⟩
   rw [hex, e1, f1, hvx, hvy]
   refine run_val ?_
   have := run_indexSl (w := w) (kd := kd) (ad := ⟨b, o', none⟩) (c := sc) hu hs hi
   rw [add_none] at this
   rw [show den r (.slice (some ⟨k, 0, some 1⟩) n cc) = .slice (some ⟨b, o', none⟩) (S.E k).n sc from hb1,
    show den r (rpt k (i.toNat * z)) = .pointer (some ⟨b, o' + i.toNat * z, none⟩) by
        show rptr (r k) _ = _
        rw [hb1]; rfl]
   exact this
  ·cases h
 ·cases h
theorem index_ok {t : TypeId} {x y : Operand} {its : List (It P)} {out : Out P} (hd : dstOk S.nt o.dst = true) (ho : o.op = .indexAddr t x y) (h : evIndexAt S t (S.val x) (S.val y) its = some out) (hk : ∀ p ∈ out.ks, p.1 = p.2) : OpOk P o S out.v out.eff out.tch := by
 obtain ⟨h1, h2⟩ := index_sh hd ho h hk
 rw [h1]; exact h2.ok
theorem slice_ok {t : TypeId} {x : Operand} {its : List (It P)} {out : Out P} (hd : dstOk S.nt o.dst = true) (ho : o.op = .slice t x none none none) (h : evSlice S t (S.val x) its = some out) : OpOk P o S out.v out.eff out.tch := by
 have hx : x ∈ o.op.operands := by rw [ho]; simp [Op.operands]
 have hex : ∀ a : Act, execOp a.eval o = (do pure (.value (← Instr.sliceAt t (a.eval x) none none none)) : Sem Next) := fun a => by unfold execOp; rw [ho]; rfl
 unfold evSlice at h
 split at h
 ·rename_i k off n e z hvx hu hs
  simp only [Option.some.injEq] at h
  subst h
  refine OpOk.value hd rfl ?_
  intro G F E r a w hz hF hE
  obtain ⟨e1, e2⟩ := val_ok hz hF hx (by rw [hvx]; rfl)
  refine ⟨fun j hj => e2 j (by rw [hvx]; exact hj), ?_⟩
  rw [hex, e1, hvx]
  refine run_val ?_
  have hu' := pureRun_run hu w
  have hs' := pureRun_run hs w
  have hs2 : (sizeOf e).run P w = .ok z w := by
   unfold arrSize at hs'
   rw [Sem.run_bind, hu'] at hs'
   exact hs'
  show (Instr.sliceAt t (.pointer (some ⟨blkOf (r k), off, none⟩)) none none none).run P w = .ok (.slice (some ⟨blkOf (r k), off, none⟩) n n) w
  unfold Instr.sliceAt
  simp [Instr.sureAddr, Instr.sliceBounds, hu', hs2, add_none]
 ·cases h
theorem extract_ok {x : Operand} {i : Nat} {its : List (It P)} {out : Out P} (hd : dstOk S.nt o.dst = true) (ho : o.op = .extract x i) (h : evExtract S (S.val x) i its = some out) : OpOk P o S out.v out.eff out.tch := by
 have hx : x ∈ o.op.operands := by rw [ho]; simp [Op.operands]
 have hex : ∀ a : Act, execOp a.eval o = (do pure (.value (← Instr.extract (a.eval x) i)) : Sem Next) := fun a => by unfold execOp; rw [ho]
 unfold evExtract at h
 split at h
 ·rename_i vs hvx hg
  split at h
  ·rename_i v hv
   simp only [Option.some.injEq] at h
   subst h
   have hmem : v ∈ vs.toList := by
    have := Array.mem_of_getElem? hv
    simpa using this
   have hg1 : goodD 1 v = true := by
    rw [hvx] at hg
    have h2 : vs.toList.all (goodD 1) = true := hg
    rw [List.all_eq_true] at h2
    exact h2 v hmem
   refine OpOk.value hd (good_up 1 v hg1) ?_
   intro G F E r a w hz hF hE
   obtain ⟨e1, e2⟩ := val_ok hz hF hx hg
   refine ⟨fun j hj => e2 j (by rw [hvx]; exact List.mem_flatMap.2 ⟨v, hmem, by rw [← ref_up 1 v hg1]; exact hj⟩), ?_⟩
   rw [hex, e1, hvx]
   refine run_val ?_
   show (Instr.extract (.tuple ⟨vs.toList.map (denD r 1)⟩) i).run P w = _
   have e3 : (⟨vs.toList.map (denD r 1)⟩ : Array Value)[i]? = some (denD r 1 v) := by
    have : vs.toList[i]? = some v := by rw [Array.getElem?_toList]; exact hv
    simp [this]
   unfold Instr.extract
   simp only [e3]
   rw [show den r v = denD r 1 v from den_up 1 v hg1]
   rfl
  ·cases h
 ·cases h
theorem move_ok {x : Operand} (hd : dstOk S.nt o.dst = true) (hx : x ∈ o.op.operands) (hex : ∀ a : Act, execOp a.eval o = pure (.value (a.eval x))) (hg : good (S.val x) = true) : OpOk P o S (S.val x) [] [] := by
 refine OpOk.value hd hg ?_
 intro G F E r a w hz hF hE
 obtain ⟨e1, e2⟩ := val_ok hz hF hx hg
 exact ⟨e2, by rw [hex, e1]; rfl⟩
theorem pick_ok {c x y : Operand} {b : Bool} (hd : dstOk S.nt o.dst = true) (ho : o.op = .pick c x y) (hc : S.val c = .bool b) (hg : good (S.val (if b then x else y)) = true) : OpOk P o S (S.val (if b then x else y)) [] [] := by
 refine OpOk.value hd hg ?_
 intro G F E r a w hz hF hE
 obtain ⟨e1, e2⟩ := val_ok hz hF (x := if b then x else y) (by rw [ho]; cases b <;> simp [Op.operands]) hg
 obtain ⟨f1, f2⟩ := val_ok hz hF (x := c) (by rw [ho]; simp [Op.operands]) (by rw [hc]; rfl)
 refine ⟨e2, ?_⟩
 unfold execOp
 rw [ho]
 simp only
 rw [f1, hc]
 rw [← e1]
 cases b <;> rfl
theorem foldl_set (f : Value → Value) (off : Nat) : ∀ (l : List (Value × Nat)) (cs : Array Value), (l.map fun p => (f p.1, p.2)).foldl (fun cs x => cs.setIfInBounds (off + x.2) x.1) (cs.map f) = (l.foldl (fun cs x => cs.setIfInBounds (off + x.2) x.1) cs).map f
 | [], cs => rfl
 | p :: l, cs => by
  simp only [List.map_cons, List.foldl_cons]
  rw [← foldl_set f off l]
  congr 1
  rw [Array.map_setIfInBounds]
theorem foldl_mem {c : Value} {off : Nat} {V : List Value} : ∀ (q : List (Value × Nat)) (cs : Array Value), (∀ x ∈ q, x.1 ∈ V) → c ∈ (q.foldl (fun cs x => cs.setIfInBounds (off + x.2) x.1) cs).toList → c ∈ cs.toList ∨ c ∈ V
 | [], cs, _, hh => .inl hh
 | x :: q, cs, hx, hh => by
  rw [List.foldl_cons] at hh
  rcases foldl_mem q _ (fun y hy => hx y (List.mem_cons_of_mem _ hy)) hh with hh | hh
  ·rw [Array.toList_setIfInBounds] at hh
   rcases List.mem_or_eq_of_mem_set hh with hh | hh
   ·exact .inl hh
   ·exact .inr (by rw [hh]; exact hx x (List.mem_cons_self ..))
  ·exact .inr hh
theorem zip_map (f : Value → Value) (cs : Array Value) : (cs.map f).zipIdx.toList = cs.zipIdx.toList.map fun p => (f p.1, p.2) := by
 obtain ⟨l⟩ := cs
 simp [List.zipIdx_map, Prod.map]
theorem fill_map {place : Nat → Option (Nat × Nat)} : ∀ (l : List (Nat × Value)) (cells : Array Value), (∀ p ∈ l, (den r p.2).cells = p.2.cells.map (den1 r)) → ∀ out, Instr.fill place cells l = some out →
    Instr.fill place (cells.map (den1 r)) (l.map fun p => (p.1, den r p.2)) = some (out.map (den1 r))
 | [], cells, _, out, h => by simp only [Instr.fill, Option.some.injEq] at h; subst h; rfl
 | (i, v) :: l, cells, hl, out, h => by
  simp only [Instr.fill, List.map_cons] at h ⊢
  split at h
  ·cases h
  ·rename_i off size hp
   split at h
   ·cases h
   ·rename_i hc
    have e := hl (i, v) (List.mem_cons_self ..)
    simp only at e
    rw [e]
    simp only [Array.size_map]
    rw [if_neg hc]
    have ih := fill_map l _ (fun p hp => hl p (List.mem_cons_of_mem _ hp)) out h
    rw [← ih]
    congr 1
    rw [← Array.foldl_toList, ← Array.foldl_toList, zip_map]
    exact foldl_set (den1 r) off _ _
theorem fill_mem {place : Nat → Option (Nat × Nat)} {c : Value} : ∀ (l : List (Nat × Value)) (cells out : Array Value), Instr.fill place cells l = some out → c ∈ out.toList → c ∈ cells.toList ∨ ∃ p ∈ l, c ∈ p.2.cells.toList
 | [], cells, out, h, hc => by simp only [Instr.fill, Option.some.injEq] at h; subst h; exact .inl hc
 | (i, v) :: l, cells, out, h, hc => by
  simp only [Instr.fill] at h
  split at h
  ·cases h
  ·rename_i off size hp
   split at h
   ·cases h
   ·rcases fill_mem l _ out h hc with h1 | ⟨p, hp, h1⟩
    ·rw [← Array.foldl_toList] at h1
     rcases foldl_mem (V := v.cells.toList) _ _ (fun x hx => by
      have h2 : x ∈ v.cells.zipIdx := Array.mem_toList_iff.1 hx
      obtain ⟨h3, h4⟩ := Array.mem_zipIdx' (x := x.1) (i := x.2) h2
      rw [h4]
      simp) h1 with h1 | h1
     ·exact .inl h1
     ·exact .inr ⟨_, List.mem_cons_self .., h1⟩
    ·exact .inr ⟨p, List.mem_cons_of_mem _ hp, h1⟩
end
end Go.Sy
namespace Go.Sy
open Go Go.RowKit
section
variable {P : Program} {S : St} {o : Oper} {G : Ctx P} {F : Nat → Value} {E : Nat → Ent} {r : Nat → Value} {a : Act} {w : World}
theorem pure_bind' {α β : Type} {s : Sem α} {f : α → Sem β} : pureRun P (s.bind f) = (pureRun P s).bind fun x => pureRun P (f x) := by
 induction s with
 | pure b => rfl
 | program k ih => exact ih P
 | mark m k ih => exact ih
 | _ => rfl
theorem pure_bind {α β : Type} {s : Sem α} {f : α → Sem β} : pureRun P (s >>= f) = (pureRun P s).bind fun x => pureRun P (f x) := pure_bind'
theorem good_cell {c : Value} (h : (one c && nil? (ref1 c)) = true) : one c = true ∧ ref1 c = [] := by
 rw [Bool.and_eq_true, nil?_iff] at h; exact h
theorem map_plain {l : List Value} (h : ∀ c ∈ l, ref1 c = []) : l.map (den1 r) = l := by
 conv => rhs; rw [← List.map_id l]
 exact List.map_congr_left fun c hc => den1_one (h c hc)
theorem build_run {t : TypeId} {parts : List (Nat × Value)} {v z : Value} (h : pureRun P (Instr.build t ⟨parts⟩) = some v) (hz : pureRun P (zeroValue t) = some z) (hzp : ∀ c ∈ z.cells.toList, ref1 c = [])
    (hp : ∀ p ∈ parts, (den r p.2).cells = p.2.cells.map (den1 r)) : ∃ cells, v = .agg cells ∧ pureRun P (Instr.build t ⟨parts.map fun p => (p.1, den r p.2)⟩) = some (.agg (cells.map (den1 r))) ∧ ∀ c ∈ cells.toList, c ∈ z.cells.toList ∨ ∃ p ∈ parts, c ∈ p.2.cells.toList := by
 unfold Instr.build at h ⊢
 rw [pure_bind, hz] at h ⊢
 simp only [Option.bind_some] at h ⊢
 have hzm : z.cells.map (den1 r) = z.cells := by
  apply Array.toList_inj.1
  rw [Array.toList_map]
  exact map_plain hzp
 have key : ∀ (place : Nat → Option (Nat × Nat)), pureRun P (match Instr.fill place z.cells parts with | some cells => (pure (Value.agg cells) : Sem Value) | _ => stuck "") = some v →
     ∃ cells, v = .agg cells ∧ pureRun P (match Instr.fill place z.cells (parts.map fun p => (p.1, den r p.2)) with | some cells => (pure (Value.agg cells) : Sem Value) | _ => stuck "") = some (.agg (cells.map (den1 r))) ∧ ∀ c ∈ cells.toList, c ∈ z.cells.toList ∨ ∃ p ∈ parts, c ∈ p.2.cells.toList := by
  intro place hh
  cases hf : Instr.fill place z.cells parts with
  | none => rw [hf] at hh; cases hh
  | some cells =>
   rw [hf] at hh
   simp only [pureRun, pure, Option.some.injEq] at hh
   refine ⟨cells, hh.symm, ?_, fun c hc => fill_mem _ _ _ hf hc⟩
   have := fill_map (r := r) parts z.cells hp cells hf
   rw [hzm] at this
   rw [this]
   rfl
 rw [pure_bind] at h ⊢
 cases hu : pureRun P (underlying t) with
 | none => rw [hu] at h; cases h
 | some d =>
  rw [hu] at h
  simp only [Option.bind_some] at h ⊢
  cases d <;> first
   | (simp only [stuck, pureRun] at h; cases h; done)
   | skip
  ·rename_i len elem
   simp only at h ⊢
   rw [pure_bind] at h ⊢
   cases hs : pureRun P (sizeOf elem) with
   | none => rw [hs] at h; cases h
   | some n =>
    rw [hs] at h
    simp only [Option.bind_some] at h ⊢
    obtain ⟨cells, e1, e2, e3⟩ := key (fun i => some (i * n, n)) (by
     revert h
     cases Instr.fill (fun i => some (i * n, n)) z.cells parts <;> exact id)
    refine ⟨cells, e1, ?_, e3⟩
    revert e2
    cases Instr.fill (fun i => some (i * n, n)) z.cells (parts.map fun p => (p.1, den r p.2)) <;> exact id
  ·rename_i fields
   simp only at h ⊢
   rw [pure_bind] at h ⊢
   generalize hpl : pureRun P (fields.mapM fun f => do pure (f.offset, ← sizeOf f.type)) = pl at h ⊢
   cases pl with
   | none => cases h
   | some places =>
    simp only [Option.bind_some] at h ⊢
    obtain ⟨cells, e1, e2, e3⟩ := key (fun i => places[i]?) (by
     revert h
     cases Instr.fill (fun i => places[i]?) z.cells parts <;> exact id)
    refine ⟨cells, e1, ?_, e3⟩
    revert e2
    cases Instr.fill (fun i => places[i]?) z.cells (parts.map fun p => (p.1, den r p.2)) <;> exact id
theorem mem_parts {parts : Array (Nat × Operand)} {p : Nat × Operand} (h : p ∈ parts.toList) {t : TypeId} (ho : o.op = .build t parts) : p.2 ∈ o.op.operands := by
 rw [ho]
 simp only [Op.operands]
 simp
 exact ⟨p.1, by simpa using h⟩
theorem build_ok {t : TypeId} {parts : Array (Nat × Operand)} {v z : Value} (hd : dstOk S.nt o.dst = true) (ho : o.op = .build t parts) (h1 : parts.toList.all (fun p => good (S.val p.2) && ones (S.val p.2).cells.toList) = true)
    (h2 : pureRun P (Instr.build t (parts.map fun p => (p.1, S.val p.2))) = some v) (h3 : pureRun P (zeroValue t) = some z) (h4 : ones v.cells.toList = true) (h5 : good v = true) (h6 : z.cells.toList.all (fun c => one c && nil? (ref1 c)) = true) : OpOk P o S v [] [] := by
 rw [List.all_eq_true] at h1 h6
 refine OpOk.value hd h5 ?_
 intro G F E r a w hz hF hE
 have hpart : ∀ p ∈ parts.toList, a.eval p.2 = den r (S.val p.2) ∧ (∀ k ∈ refs (S.val p.2), (E k).tag ≠ 0) ∧ ones (S.val p.2).cells.toList = true := fun p hp => by
  have hg := h1 p hp
  rw [Bool.and_eq_true] at hg
  obtain ⟨e1, e2⟩ := val_ok hz hF (mem_parts hp ho) hg.1
  exact ⟨e1, e2, hg.2⟩
 have e0 : (parts.map fun p => (p.1, S.val p.2)) = ⟨parts.toList.map fun p => (p.1, S.val p.2)⟩ := by
  apply Array.toList_inj.1; simp
 rw [e0] at h2
 obtain ⟨cells, rfl, e2, e3⟩ := build_run (r := r) h2 h3 (fun c hc => (good_cell (h6 c hc)).2) (fun p hp => by
  obtain ⟨q, hq, rfl⟩ := List.mem_map.1 hp
  obtain ⟨g1, g2, g3⟩ := hpart q hq
  rw [cells_den g3 fun k hk => hz.cell1 (g2 k hk)]
  apply Array.toList_inj.1
  simp)
 have h4' : ones cells.toList = true := h4
 refine ⟨fun k hk => ?_, ?_⟩
 ·obtain ⟨c, hc, hk⟩ := refs_agg (l := cells.toList) h4' hk
  rcases e3 c hc with h | ⟨p, hp, h⟩
  ·rw [(good_cell (h6 c h)).2] at hk; cases hk
  ·obtain ⟨q, hq, rfl⟩ := List.mem_map.1 hp
   obtain ⟨g1, g2, g3⟩ := hpart q hq
   exact g2 k (refs_cells g3 h hk)
 ·have hex : execOp a.eval o = (do pure (.value (← Instr.build t (parts.map fun (i, x) => (i, a.eval x)))) : Sem Next) := by unfold execOp; rw [ho]
  rw [hex]
  refine run_val ?_
  have e4 : (parts.map fun (i, x) => (i, a.eval x)) = ⟨(parts.toList.map fun p => (p.1, S.val p.2)).map fun p => (p.1, den r p.2)⟩ := by
   apply Array.toList_inj.1
   rw [Array.toList_map, List.map_map]
   exact List.map_congr_left fun p hp => by
    show (p.1, a.eval p.2) = (p.1, den r (S.val p.2))
    rw [(hpart p hp).1]
  rw [e4]
  have := pureRun_run e2 w
  rw [this]
  congr 1
  have := den_agg (r := r) h4'
  rw [show Value.agg cells = .agg ⟨cells.toList⟩ from rfl, this]
  congr 1
  apply Array.toList_inj.1
  simp
theorem len_ok {args : Array Operand} {ats : Array TypeId} {x : Operand} {n : Nat} {T e : TypeId} {tch : List Nat} (hd : dstOk S.nt o.dst = true) (ho : o.op = .call { callee := .builtin .len, args := args, argTypes := ats }) (hx : args.toList = [x])
    (hT : ats[0]? = some T) (hu : pureRun P (underlying T) = some (.slice e)) (hg : good (S.val x) = true)
    (hv : ∀ {G : Ctx P} {F : Nat → Value} {E : Nat → Ent} {r : Nat → Value} {a : Act} {w : World}, Rz G F E r a w → (∀ k ∈ tch, shp (E k) = shp (S.E k)) → ∃ a c, den r (S.val x) = .slice a n c) : OpSh P o S (.int .i64 n) tch := by
 refine OpSh.value hd rfl ?_
 intro G F E r a w hz hF hE
 have ea : args = #[x] := by apply Array.toList_inj.1; rw [hx]
 subst ea
 obtain ⟨e1, e2⟩ := val_ok hz hF (x := x) (by rw [ho]; simp [Op.operands, Call.operands]) hg
 obtain ⟨sa, sc, hs⟩ := hv hz hE
 refine ⟨fun k hk => (by cases hk), ?_⟩
 have hu' := pureRun_run hu w
 unfold execOp
 rw [ho]
 simp only [resolve, Array.map, invoke, builtin]
 simp [Builtin.len_, hT, e1, hs, hu', goInt, invoke, builtin]
 rfl
theorem bin_ok {op : BinOp} {T yT : TypeId} {x y : Operand} {it : It P} (hd : dstOk S.nt o.dst = true) (ho : o.op = .binOp op T x y yT) (ht : it.tag = 2) (hx : plain (S.val x) = true) (hy : plain (S.val y) = true) (hv : plain it.v = true)
    (hk : (⟨T, op, [S.val x, S.val y], it.rows, it.code, it.s0⟩ : Key) = it.key) : OpOk P o S it.v [] [] := by
 refine OpOk.value hd (plain_good hv) ?_
 intro G F E r a w hz hF hE
 obtain ⟨e1, _⟩ := val_ok hz hF (x := x) (by rw [ho]; simp [Op.operands]) (plain_good hx)
 obtain ⟨f1, _⟩ := val_ok hz hF (x := y) (by rw [ho]; simp [Op.operands]) (plain_good hy)
 refine ⟨fun k hk => (by rw [plain_refs hv] at hk; cases hk), ?_⟩
 have ok := it.ok
 rw [ht] at ok
 have k1 : T = it.n := congrArg Key.n hk
 have k2 : op = it.op := congrArg Key.op hk
 have k3 : [S.val x, S.val y] = it.l := congrArg Key.l hk
 have h2 := ok (S.val x) (S.val y) k3.symm x y w
 rw [← k1, ← k2] at h2
 have hex : execOp a.eval o = (do pure (.value (← (do eqGuard op T x y (a.eval x) (a.eval y); binOp op T (a.eval x) (a.eval y) : Sem Value))) : Sem Next) := by unfold execOp; rw [ho]
 rw [hex, e1, f1, den_plain hx, den_plain hy, den_plain hv]
 exact run_val h2
end
end Go.Sy
namespace Go.Sy
open Go Go.RowKit
section
variable {P : Program} {S : St} {o : Oper} {G : Ctx P} {F : Nat → Value} {E : Nat → Ent} {r : Nat → Value} {a : Act} {w : World}
theorem get_shift {q : List Value} {v : Value} {i : Nat} {f : Nat → Value} {g : Value → Value} (h : ∀ m x, (v :: q)[m]? = some x → f (i + m) = g x) : f i = g v ∧ ∀ m x, q[m]? = some x → f (i + 1 + m) = g x := by
 refine ⟨by simpa using h 0 v rfl, fun m x hx => ?_⟩
 have := h (m + 1) x (by simpa using hx)
 rw [← this]; congr 1; omega
theorem mark_row {v : Value} (h : isMark v = true) : one v = true ∧ ∀ i r', den1 r' (row i (lenOf v)) = r' i := by
 unfold isMark at h
 split at h
 ·exact ⟨rfl, fun _ _ => rfl⟩
 ·cases h
theorem isRow_row {v : Value} (h : isRow v = true) : one v = true ∧ ∀ r, den1 r v = r (markOf v) := by
 unfold isRow at h
 split at h
 ·exact ⟨rfl, fun _ => rfl⟩
 ·cases h
theorem aggL_some {v : Value} {cs : List Value} (h : aggL v = some cs) : v = .agg ⟨cs⟩ := by
 unfold aggL at h
 split at h
 ·simp only [Option.some.injEq] at h; rw [← h]
 ·cases h
theorem canL_ok {r r' : Nat → Value} : ∀ (l : List Value) (i : Nat) (l' q : List Value), canL l i = some (l', q) → ones l = true ∧ ones l' = true ∧
    ((∀ m v, q[m]? = some v → r' (i + m) = den1 r v) → l'.map (den1 r') = l.map (den1 r))
 | [], i, l', q, h => by
  simp only [canL, Option.some.injEq, Prod.mk.injEq] at h
  obtain ⟨rfl, rfl⟩ := h
  exact ⟨rfl, rfl, fun _ => rfl⟩
 | v :: l, i, l', q, h => by
  unfold canL at h
  split at h
  ·rename_i hm
   split at h
   ·rename_i l1 q1 h1
    simp only [Option.some.injEq, Prod.mk.injEq] at h
    obtain ⟨rfl, rfl⟩ := h
    obtain ⟨a1, a2, a3⟩ := canL_ok (r := r) (r' := r') l _ _ _ h1
    obtain ⟨m1, m2⟩ := mark_row hm
    refine ⟨?_, ?_, fun hq => ?_⟩
    ·simp only [ones, List.all_cons, Bool.and_eq_true]; exact ⟨m1, a1⟩
    ·simp only [ones, List.all_cons, Bool.and_eq_true]; exact ⟨rfl, a2⟩
    ·obtain ⟨b1, b2⟩ := get_shift (f := r') (g := den1 r) hq
     rw [List.map_cons, List.map_cons, a3 b2, m2, b1]
   ·cases h
  ·split at h
   ·rename_i l1 q1 h1 h2 h3
    simp only [Option.some.injEq, Prod.mk.injEq] at h
    obtain ⟨rfl, rfl⟩ := h
    obtain ⟨a1, a2, a3⟩ := canL_ok (r := r) (r' := r') l _ _ _ h3
    refine ⟨?_, ?_, fun hq => ?_⟩
    ·simp only [ones, List.all_cons, Bool.and_eq_true]; exact ⟨h1, a1⟩
    ·simp only [ones, List.all_cons, Bool.and_eq_true]; exact ⟨h1, a2⟩
    ·rw [List.map_cons, List.map_cons, a3 hq, den1_one (nil?_iff.1 h2), den1_one (nil?_iff.1 h2)]
   ·cases h
theorem app_get {q q' : List Value} {i : Nat} {f : Nat → Value} {g : Value → Value} (h : ∀ m x, (q ++ q')[m]? = some x → f (i + m) = g x) : (∀ m x, q[m]? = some x → f (i + m) = g x) ∧ ∀ m x, q'[m]? = some x → f (i + q.length + m) = g x := by
 refine ⟨fun m x hx => h m x ?_, fun m x hx => ?_⟩
 ·rw [List.getElem?_append_left (List.getElem?_eq_some_iff.1 hx).1]; exact hx
 ·rw [Nat.add_assoc]
  refine h (q.length + m) x ?_
  rw [List.getElem?_append_right (by omega)]
  rw [← hx]; congr 1; omega
theorem canA_ok {r r' : Nat → Value} : ∀ (l : List Value) (i : Nat) (l' q : List Value), canA l i = some (l', q) →
    (∀ m v, q[m]? = some v → r' (i + m) = den1 r v) → l'.map (den r') = l.map (den r)
 | [], i, l', q, h, _ => by
  simp only [canA, Option.some.injEq, Prod.mk.injEq] at h
  obtain ⟨rfl, rfl⟩ := h
  rfl
 | v :: l, i, l', q, h, hq => by
  unfold canA at h
  split at h
  ·rename_i cs hv
   have hv := aggL_some hv
   subst hv
   split at h
   ·rename_i cs' q1 h1
    split at h
    ·rename_i l1 q2 h2
     simp only [Option.some.injEq, Prod.mk.injEq] at h
     obtain ⟨rfl, rfl⟩ := h
     obtain ⟨b1, b2⟩ := app_get hq
     obtain ⟨a1, a2, a3⟩ := canL_ok (r := r) (r' := r') _ _ _ _ h1
     rw [List.map_cons, List.map_cons, canA_ok l _ _ _ h2 b2, den_agg a2, a3 b1, den_agg a1]
    ·cases h
   ·cases h
  ·split at h
   ·rename_i v' q1 h1
    split at h
    ·rename_i l1 q2 h2
     simp only [Option.some.injEq, Prod.mk.injEq] at h
     obtain ⟨rfl, rfl⟩ := h
     obtain ⟨b1, b2⟩ := app_get hq
     obtain ⟨a1, a2, a3⟩ := canL_ok (r := r) (r' := r') _ _ _ _ h1
     have a4 := a3 b1
     simp only [ones, List.all_cons, List.all_nil, Bool.and_true] at a1 a2
     simp only [List.map_cons, List.map_nil, List.cons.injEq, and_true] at a4
     rw [List.map_cons, List.map_cons, canA_ok l _ _ _ h2 b2, den_one a1, den_one a2, a4]
    ·cases h
   ·cases h
theorem rowsOf_get {own : Bool} : ∀ (q : List Value) (rows : List (Nat × List Value)), rowsOf S own q = some rows → rows.length = q.length ∧ ∀ (i : Nat) (x : Nat × List Value), rows[i]? = some x → ∃ v, q[i]? = some v ∧ rowOf S own v = some x
 | [], rows, h => by
  simp only [rowsOf, Option.some.injEq] at h
  subst h
  exact ⟨rfl, fun i x hx => by simp at hx⟩
 | v :: q, rows, h => by
  unfold rowsOf at h
  split at h
  ·rename_i x xs h1 h2
   simp only [Option.some.injEq] at h
   subst h
   obtain ⟨a1, a2⟩ := rowsOf_get q _ h2
   refine ⟨by simp [a1], fun i y hy => ?_⟩
   cases i with
   | zero =>
    simp only [List.getElem?_cons_zero, Option.some.injEq] at hy
    subst hy
    exact ⟨v, rfl, h1⟩
   | succ i =>
    simp only [List.getElem?_cons_succ] at hy ⊢
    exact a2 i y hy
  ·cases h
theorem rowOf_ok (hz : Rz G F E r a w) {own : Bool} {v : Value} {x : Nat × List Value} (h : rowOf S own v = some x) (hE : E (markOf v) = S.E (markOf v)) :
    RowW w (den1 r v) x.1 x.2 ∧ (own = false → ∃ k, (E k).tag = 2 ∧ den1 r v = r k ∧ x.2 = (E k).cells) := by
 unfold rowOf at h
 split at h
 ·rename_i k n c
  split at h
  ·rename_i ht hown
   simp only [Option.some.injEq] at h
   subst h
   have hE' : E k = S.E k := hE
   have he := (hz.ent k).rowT (by rw [hE']; exact ht)
   rw [hE'] at he
   refine ⟨he.1, fun ho => ⟨k, ?_, rfl, by rw [hE']⟩⟩
   rw [ho, Bool.false_or] at hown
   rw [hE']
   exact Nat.eq_of_beq_eq_true hown
  ·cases h
 ·rename_i k n c
  split at h
  ·rename_i _ ht hp hcap
   rw [Bool.and_eq_true] at hcap
   simp only [Option.some.injEq] at h
   subst h
   have hE' : E k = S.E k := hE
   have he := hz.ent k
   unfold EntOk at he
   rw [hE', ht] at he
   obtain ⟨b, e1, e2, e3⟩ := he
   have hpl : ∀ x ∈ (S.E k).cells, one x = true ∧ ref1 x = [] := fun c hc => by
    rw [List.all_eq_true] at hp
    have hA := hz.entA k c (by rw [hE']; exact hc)
    exact ⟨hA.1, by rw [← refs_one hA.1]; exact plain_refs (hp c hc)⟩
   refine ⟨⟨hpl, .inr ⟨b, c, ?_, Nat.le_of_ble_eq_true hcap.1, Nat.le_of_ble_eq_true hcap.2, (Array.getElem?_eq_some_iff.1 e3).1, .inr ⟨_, _, _, e3, ?_⟩⟩⟩, fun h => by cases h⟩
   ·show Value.slice (some ⟨blkOf (r k), 0, none⟩) n c = _
    rw [e1]; rfl
   ·have : (S.E k).cells.map (den1 r) = (S.E k).cells := map_plain fun c hc => (hpl c hc).2
    show ((S.E k).cells.map (den1 r)).take (S.E k).cells.length = (S.E k).cells
    rw [this, List.take_length]
  ·cases h
 ·cases h
theorem conv_ok {T T' : TypeId} {x : Operand} {it : It P} {q : Nat × List Value} (hd : dstOk S.nt o.dst = true) (ho : o.op = .convert T T' x) (ht : it.tag = 7) (hg : one (S.val x) = true) (hq : rowOf S true (S.val x) = some q) (hv : plain it.v = true)
    (hk : (⟨T, it.op, [.int .i64 T'], [q], it.code, it.s0⟩ : Key) = it.key) : OpOk P o S it.v [] [markOf (S.val x)] := by
 refine OpOk.value hd (plain_good hv) ?_
 intro G F E r a w hz hF hE
 obtain ⟨e1, _⟩ := val_ok hz hF (x := x) (by rw [ho]; simp [Op.operands]) (one_good 2 hg)
 refine ⟨fun k hk => (by rw [plain_refs hv] at hk; cases hk), ?_⟩
 have ok := it.ok
 rw [ht] at ok
 have k1 : T = it.n := congrArg Key.n hk
 have k2 : [(.int .i64 T' : Value)] = it.l := congrArg Key.l hk
 have k3 : [q] = it.rows := congrArg Key.rows hk
 have hr := (rowOf_ok hz hq (hE _ (List.mem_singleton.2 rfl))).1
 have h2 := ok T' k2.symm q k3.symm _ w hr
 rw [← k1] at h2
 have hex : execOp a.eval o = (do pure (.value (← convert T T' (a.eval x))) : Sem Next) := by unfold execOp; rw [ho]
 rw [hex, e1, show den r (S.val x) = den1 r (S.val x) from den_one hg, den_plain hv]
 exact run_val h2
theorem shL_ok {m N : Nat} {r r' : Nat → Value} : ∀ (l l' : List Value), shL m N l = some l' → ones l = true ∧ ones l' = true ∧ ((∀ k ∈ l'.flatMap ref1, ∀ j, k = N + j → r' k = r (m + j)) → l'.map (den1 r') = l.map (den1 r))
 | [], l', h => by
  simp only [shL, Option.some.injEq] at h
  subst h
  exact ⟨rfl, rfl, fun _ => rfl⟩
 | v :: l, l', h => by
  unfold shL at h
  split at h
  ·rename_i hr
   split at h
   ·rename_i l1 h1 h2
    simp only [Option.some.injEq] at h
    subst h
    obtain ⟨a1, a2, a3⟩ := shL_ok (r := r) (r' := r') l _ h2
    obtain ⟨m1, m2⟩ := isRow_row hr
    refine ⟨by simp only [ones, List.all_cons, Bool.and_eq_true]; exact ⟨m1, a1⟩, by simp only [ones, List.all_cons, Bool.and_eq_true]; exact ⟨rfl, a2⟩, fun hq => ?_⟩
    rw [List.map_cons, List.map_cons, a3 fun k hk => hq k (List.mem_append_right _ hk), m2]
    congr 1
    have := hq (N + (markOf v - m)) (List.mem_append_left _ (List.mem_singleton.2 rfl)) (markOf v - m) rfl
    show r' (N + (markOf v - m)) = r (markOf v)
    rw [this]
    have := Nat.le_of_ble_eq_true h1
    congr 1; omega
   ·cases h
  ·split at h
   ·rename_i l1 h1 h2 h3
    simp only [Option.some.injEq] at h
    subst h
    obtain ⟨a1, a2, a3⟩ := shL_ok (r := r) (r' := r') l _ h3
    refine ⟨by simp only [ones, List.all_cons, Bool.and_eq_true]; exact ⟨h1, a1⟩, by simp only [ones, List.all_cons, Bool.and_eq_true]; exact ⟨h1, a2⟩, fun hq => ?_⟩
    rw [List.map_cons, List.map_cons, a3 fun k hk => hq k (List.mem_append_right _ hk), den1_one (nil?_iff.1 h2), den1_one (nil?_iff.1 h2)]
   ·cases h
theorem shA_ok {m N : Nat} {r r' : Nat → Value} : ∀ (l l' : List Value), shA m N l = some l' → (∀ k ∈ l'.flatMap (refD 1), ∀ j, k = N + j → r' k = r (m + j)) → l'.map (denD r' 1) = l.map (denD r 1)
 | [], l', h, _ => by
  simp only [shA, Option.some.injEq] at h
  subst h
  rfl
 | v :: l, l', h, hq => by
  unfold shA at h
  split at h
  ·rename_i cs hv
   have hv := aggL_some hv
   subst hv
   split at h
   ·rename_i cs' l1 h1 h2
    simp only [Option.some.injEq] at h
    subst h
    obtain ⟨a1, a2, a3⟩ := shL_ok (r := r) (r' := r') _ _ h1
    rw [List.map_cons, List.map_cons, shA_ok l _ h2 fun k hk => hq k (List.mem_append_right _ hk)]
    congr 1
    show Value.agg ⟨cs'.map (den1 r')⟩ = Value.agg ⟨cs.map (den1 r)⟩
    rw [a3 fun k hk => hq k (List.mem_append_left _ hk)]
   ·cases h
  ·split at h
   ·rename_i v' l1 h1 h2
    simp only [Option.some.injEq] at h
    subst h
    obtain ⟨a1, a2, a3⟩ := shL_ok (r := r) (r' := r') _ _ h1
    simp only [ones, List.all_cons, List.all_nil, Bool.and_true] at a1 a2
    have a4 := a3 fun k hk => hq k (List.mem_append_left _ (by rw [one_ref 1 a2]; simpa using hk))
    simp only [List.map_cons, List.map_nil, List.cons.injEq, and_true] at a4
    rw [List.map_cons, List.map_cons, shA_ok l _ h2 fun k hk => hq k (List.mem_append_right _ hk), one_den 1 a1, one_den 1 a2, a4]
   ·cases h
theorem shV_ok {m N : Nat} {r r' : Nat → Value} {v v' : Value} (h : shV m N v = some v') (hq : ∀ k ∈ refs v', ∀ j, k = N + j → r' k = r (m + j)) : den r' v' = den r v := by
 unfold shV at h
 split at h
 ·rename_i vs
  split at h
  ·rename_i l h1
   simp only [Option.some.injEq] at h
   subst h
   show Value.tuple ⟨l.map (denD r' 1)⟩ = Value.tuple ⟨vs.toList.map (denD r 1)⟩
   rw [shA_ok _ _ h1 hq]
  ·cases h
 ·rename_i v0 hnt
  split at h
  ·rename_i v1 h1
   simp only [Option.some.injEq] at h
   subst h
   have up : ∀ (x : Value) (r : Nat → Value), (∀ vs, x ≠ .tuple vs) → (∀ cs, x = .agg cs → ones cs.toList = true) → den r x = denD r 1 x ∧ refs x = refD 1 x := by
    intro x r hx ha
    cases x <;> first
     | (rename_i cs; exact absurd rfl (hx cs))
     | (rename_i cs
        have h := ha cs rfl
        constructor
        ·show Value.agg ⟨cs.toList.map (denD r 1)⟩ = Value.agg ⟨cs.toList.map (denD r 0)⟩
         rw [ones_map h]; rfl
        ·show cs.toList.flatMap (refD 1) = cs.toList.flatMap ref1
         unfold ones at h
         rw [List.all_eq_true] at h
         clear hnt h1 hq hx ha
         obtain ⟨l⟩ := cs
         simp only at h ⊢
         induction l with
         | nil => rfl
         | cons y l ih => rw [List.flatMap_cons, List.flatMap_cons, one_ref 1 (h y (List.mem_cons_self ..)), ih fun z hz => h z (List.mem_cons_of_mem _ hz)])
     | exact ⟨rfl, rfl⟩
   have hv : (∀ vs, v1 ≠ .tuple vs) ∧ (∀ cs, v1 = .agg cs → ones cs.toList = true) ∧ (∀ cs, v = .agg cs → ones cs.toList = true) := by
    unfold shA at h1
    split at h1
    ·rename_i cs hcs
     have hcs := aggL_some hcs
     subst hcs
     split at h1
     ·rename_i cs' l1 h2 h3
      simp only [Option.some.injEq, List.cons.injEq] at h1
      obtain ⟨rfl, _⟩ := h1
      obtain ⟨a1, a2, _⟩ := shL_ok (r := r) (r' := r') _ _ h2
      exact ⟨fun vs e => (by cases e), fun cs e => (by cases e; exact a2), fun cs e => (by cases e; exact a1)⟩
     ·cases h1
    ·split at h1
     ·rename_i v' l1 h2 h3
      simp only [Option.some.injEq, List.cons.injEq] at h1
      obtain ⟨rfl, _⟩ := h1
      obtain ⟨a1, a2, _⟩ := shL_ok (r := r) (r' := r') _ _ h2
      simp only [ones, List.all_cons, List.all_nil, Bool.and_true] at a1 a2
      exact ⟨fun vs e => (by subst e; cases a2), fun cs e => (by subst e; cases a2), fun cs e => (by subst e; cases a1)⟩
     ·cases h1
   obtain ⟨u1, u2⟩ := up v1 r' hv.1 hv.2.1
   obtain ⟨u3, _⟩ := up v r (fun vs e => hnt vs e) hv.2.2
   have := shA_ok (r := r) (r' := r') _ _ h1 fun k hk => hq k (by rw [u2]; simpa using hk)
   simp only [List.map_cons, List.map_nil, List.cons.injEq, and_true] at this
   rw [u1, u3, this]
  ·cases h
end
end Go.Sy
namespace Go.Sy
open Go Go.RowKit
section
variable {P : Program} {S : St} {o : Oper} {G : Ctx P} {F : Nat → Value} {E : Nat → Ent} {r : Nat → Value} {a : Act} {w : World}
theorem newRows_keys : ∀ (nr : List (Nat × List Value)) (N : Nat), (newRows N nr).map (·.1) = (List.range nr.length).map (N + ·)
 | [], N => rfl
 | q :: nr, N => by
  simp only [newRows, List.map_cons, List.length_cons]
  rw [newRows_keys nr (N + 1), List.range_succ_eq_map, List.map_cons, List.map_map]
  congr 1
  apply List.map_congr_left
  intro x _
  show N + 1 + x = N + (x + 1)
  omega
theorem upd1_rows {K : Nat} {e : Ent} {v : Value} {b : Nat} (hK : (E K).tag = 0) (he : e.tag = 2) (h : ∀ k', ((E k').tag = 1 → r k' ≠ ptr0 b) ∧ (4 ≤ (E k').tag → ¬ AtB (r k') b)) : ∀ k', ((upd1 E K e k').tag = 1 → upd1 r K v k' ≠ ptr0 b) ∧ (4 ≤ (upd1 E K e k').tag → ¬ AtB (upd1 r K v k') b) := by
 intro k'
 by_cases ek : k' = K
 ·subst ek
  rw [upd1_same, he]
  exact ⟨fun h => absurd h (by decide), fun h => absurd h (by decide)⟩
 ·rw [upd1_other _ _ ek, upd1_other _ _ ek]; exact h k'
theorem rows_ok : ∀ (nr : List (Nat × List Value)) (N : Nat) (u : Nat → Value) (E : Nat → Ent) (r : Nat → Value), Rz G F E r a w → G.rows.length ≤ N → (∀ j, j < nr.length → (E (N + j)).tag = 0) →
    (∀ (j : Nat) (q : Nat × List Value), nr[j]? = some q → RowW w (u j) q.1 q.2 ∧ ∀ b, Loc (u j) q.2 b → (∀ k', ((E k').tag = 1 → r k' ≠ ptr0 b) ∧ (4 ≤ (E k').tag → ¬ AtB (r k') b)) ∧ (G.w0.heap.size ≤ b ∨ ∃ i q', G.rows[i]? = some q' ∧ Loc (G.r0 i) q'.2 b)) →
    ∃ r', Rz G F (updE E (newRows N nr)) r' a w ∧ (∀ j, j < nr.length → r' (N + j) = u j ∧ (updE E (newRows N nr) (N + j)).tag = 2) ∧ (∀ k, (k < N ∨ N + nr.length ≤ k) → r' k = r k)
 | [], N, u, E, r, hz, _, _, _ => ⟨r, hz, fun j hj => (by cases hj), fun _ _ => rfl⟩
 | q :: nr, N, u, E, r, hz, hN, hE, hq => by
  have hE0 : (E N).tag = 0 := by simpa using hE 0 (by simp)
  obtain ⟨h1, h2⟩ := hq 0 q rfl
  have hz1 := hz.row (K := N) (n := q.1) (cells := q.2) (v := u 0) hE0 hN h1 h2
  have eta : rws q.1 q.2 = rws q.1 q.2 := rfl
  obtain ⟨r', g1, g2, g3⟩ := rows_ok nr (N + 1) (fun j => u (j + 1)) _ _ hz1 (by omega) (fun j hj => by
   rw [upd1_other _ _ (by omega)]
   have := hE (j + 1) (by simp; omega)
   rwa [show N + (j + 1) = N + 1 + j by omega] at this) (fun j x hx => by
   obtain ⟨a1, a2⟩ := hq (j + 1) x (by simpa using hx)
   exact ⟨a1, fun b hb => ⟨upd1_rows hE0 rfl (a2 b hb).1, (a2 b hb).2⟩⟩)
  refine ⟨r', g1, fun j hj => ?_, fun k hk => ?_⟩
  ·cases j with
   | zero =>
    rw [Nat.add_zero, g3 N (.inl (by omega)), upd1_same]
    refine ⟨rfl, ?_⟩
    show (updE (upd1 E N (rws q.1 q.2)) (newRows (N + 1) nr) N).tag = 2
    have key : ∀ (l : List (Nat × Ent)) (E : Nat → Ent) (k : Nat), k ∉ l.map (·.1) → updE E l k = E k := by
     intro l
     induction l with
     | nil => intro E k _; rfl
     | cons p l ih =>
      intro E k hk
      show updE (upd1 E p.1 p.2) l k = E k
      simp only [List.map_cons, List.mem_cons, not_or] at hk
      rw [ih _ _ hk.2, upd1_other _ _ hk.1]
    rw [key _ _ _ (by
     rw [newRows_keys]
     intro hm
     obtain ⟨x, _, hx⟩ := List.mem_map.1 hm
     omega), upd1_same]
    rfl
   | succ j =>
    have := g2 j (by simp at hj; omega)
    rw [show N + (j + 1) = N + 1 + j by omega]
    exact this
  ·rw [g3 k (by simp only [List.length_cons] at hk; omega), upd1_other _ _ (by simp only [List.length_cons] at hk; omega)]
theorem run_call {g : Operand} {f : FuncId} {args : Array Operand} {ats : Array TypeId} (ho : o.op = .call { callee := .value g, args := args, argTypes := ats }) (hg : a.eval g = .func (.func f) #[] #[]) :
    execOp a.eval o = callFunc f (args.map a.eval) := by
 unfold execOp
 rw [ho]
 simp only [resolve, hg, Deferred.ofValue]
 show callFunc f (#[] ++ args.map a.eval ++ #[]) = _
 simp
theorem call_ok {g : Operand} {f : FuncId} {args : Array Operand} {ats : Array TypeId} {its : List (It P)} {out : Out P} (hd : dstOk S.nt o.dst = true) (ho : o.op = .call { callee := .value g, args := args, argTypes := ats })
    (hg : S.val g = .func (.func f) ⟨[]⟩ ⟨[]⟩) (hfr : S.fresh) (h : evCall S f (args.toList.map S.val) its = some out) (hk : ∀ p ∈ out.ks, p.1 = p.2) (hgood : ∀ x ∈ args.toList, good (S.val x) = true) : OpOk P o S out.v out.eff out.tch := by
 unfold evCall at h
 split at h
 ·rename_i it its
  split at h
  ·rename_i ht
   split at h
   ·rename_i args' q hcan
    have ok := it.ok
    rw [ht] at ok
    have ok : Sp P it.n it.rows it.l it.v it.nrows := ok
    have common : ∀ {G : Ctx P} {F : Nat → Value} {E : Nat → Ent} {r : Nat → Value} {a : Act} {w : World} {own : Bool} {rows : List (Nat × List Value)}, Rz G F E r a w → (∀ t, Operand.tmp t ∈ o.op.operands → F t = S.F t) → rowsOf S own q = some rows → (∀ k ∈ q.map markOf, E k = S.E k) →
        (⟨f, it.op, args', rows, it.code, it.s0⟩ : Key) = it.key →
        (execOp a.eval o).run P w = .ok (.enter f (args.map a.eval)) w ∧ rows = it.rows ∧ ∃ r0 : Nat → Value, (∀ (m : Nat) (v : Value), q[m]? = some v → r0 m = den1 r v) ∧ (∀ i x, rows[i]? = some x → RowW w (r0 i) x.1 x.2) ∧
         Calls P f (args.map a.eval) w fun e w' => ∃ r' : Nat → Value, (∀ i, i < it.rows.length → r' i = r0 i) ∧ e = .returned (den r' it.v) ∧ Below w.heap.size w w' ∧
          ∀ j q, it.nrows[j]? = some q → RowW w' (r' (it.rows.length + j)) q.1 q.2 ∧ ∀ b, Loc (r' (it.rows.length + j)) q.2 b → w.heap.size ≤ b ∨ ∃ i q', it.rows[i]? = some q' ∧ Loc (r0 i) q'.2 b := by
     intro G F E r a w own rows hz hF hrows hE hkey
     have k1 : f = it.n := congrArg Key.n hkey
     have k2 : args' = it.l := congrArg Key.l hkey
     have k3 : rows = it.rows := congrArg Key.rows hkey
     obtain ⟨sp1, sp2⟩ := ok
     obtain ⟨f1, _⟩ := val_ok hz hF (x := g) (by rw [ho]; simp [Op.operands, Call.operands]) (by rw [hg]; rfl)
     have hev : args.map a.eval = ⟨(args.toList.map S.val).map (den r)⟩ := by
      apply Array.toList_inj.1
      rw [Array.toList_map, List.map_map]
      exact List.map_congr_left fun x hx => (val_ok hz hF (by rw [ho]; exact Array.mem_append.2 (.inr (Array.mem_toList_iff.1 hx))) (hgood x hx)).1
     obtain ⟨l1, l2⟩ := rowsOf_get q rows hrows
     have hrow : ∀ (m : Nat) (v : Value), q[m]? = some v → (fun m => ((q[m]?).map (den1 r)).getD undef) m = den1 r v := fun m v hm => by simp [hm]
     have hc := canA_ok (r := r) (r' := fun m => ((q[m]?).map (den1 r)).getD undef) _ _ _ _ hcan (fun m v hm => by rw [Nat.zero_add]; exact hrow m v hm)
     have hR : ∀ (i : Nat) (x : Nat × List Value), rows[i]? = some x → RowW w ((fun m => ((q[m]?).map (den1 r)).getD undef) i) x.1 x.2 := fun i x hx => by
      obtain ⟨v, hv1, hv2⟩ := l2 i x hx
      rw [hrow i v hv1]
      exact (rowOf_ok hz hv2 (hE _ (List.mem_map.2 ⟨v, List.mem_of_getElem? hv1, rfl⟩))).1
     refine ⟨?_, k3, _, hrow, hR, ?_⟩
     ·rw [run_call ho (by rw [f1, hg]; rfl), k1]
      exact sp1 _ w
     ·rw [hev, ← hc, k1, k2]
      exact sp2 _ w (shaped_below G.inv hz.bel) (by rw [← k3]; exact hR)
    split at h
    ·rename_i hnr
     split at h
     ·rename_i rows hrows hpv
      simp only [Option.some.injEq] at h
      subst h
      intro G F E r a w Q K hm hnt hz hF hE hK
      obtain ⟨c1, c2, r0, c3, c4, c5⟩ := common hz hF hrows hE (hk _ (List.mem_singleton.2 rfl))
      unfold Oper.wp
      rw [c1]
      refine c5.mono ?_
      rintro e w' ⟨r', _, rfl, hb, _⟩
      rw [den_plain hpv]
      have hp := (hz.later hb).put (dst := o.dst) (v := it.v) (plain_good hpv) (fun k hk => by rw [plain_refs hpv] at hk; cases hk) (by rw [hnt]; exact dst_lt hd)
      rw [den_plain hpv] at hp
      exact hK r _ _ hp
     ·cases h
    ·rename_i nr hnr
     split at h
     ·rename_i rows v hrows hsh hlo
      split at h
      ·rename_i hall
       simp only [Option.some.injEq] at h
       subst h
       intro G F E r a w Q K hm hnt hz hF hE hK
       rw [Bool.and_eq_true, List.all_eq_true] at hall
       obtain ⟨hgv, hall⟩ := hall
       obtain ⟨c1, c2, r0, c3, c4, c5⟩ := common hz hF hrows (fun k hk => hE k (List.mem_append_left _ hk)) (hk _ (List.mem_singleton.2 rfl))
       obtain ⟨l1, l2⟩ := rowsOf_get q rows hrows
       unfold Oper.wp
       rw [c1]
       refine c5.mono ?_
       rintro e w' ⟨r', d1, rfl, hb, d2⟩
       have hz' := hz.later hb
       have hml : it.rows.length = q.length := by rw [← c2, l1]
       obtain ⟨r2, g1, g2, g3⟩ := rows_ok it.nrows S.N (fun j => r' (it.rows.length + j)) E r hz' (by rw [hm]; exact Nat.le_of_ble_eq_true hlo) (fun j hj => by
        rw [hE (S.N + j) (List.mem_append_right _ (by rw [newRows_keys]; exact List.mem_map.2 ⟨j, List.mem_range.2 hj, rfl⟩))]
        exact hfr _ (by omega)) (fun j x hx => by
        obtain ⟨e1, e2⟩ := d2 j x hx
        refine ⟨e1, fun b hb' => ?_⟩
        rcases e2 b hb' with h3 | ⟨i, q', h3, h4⟩
        ·refine ⟨fun k' => ⟨fun hk' hr' => ?_, fun hk' hr' => ?_⟩, .inl (Nat.le_trans hz.bel.size h3)⟩
         ·have := (hz.ent k').lt hk' hr'
          omega
         ·have := (((hz.ent k').ownW hk').at hr').2
          omega
        ·rw [← c2] at h3
         obtain ⟨v', hv1, hv2⟩ := l2 i q' h3
         obtain ⟨_, h5⟩ := rowOf_ok hz hv2 (hE _ (List.mem_append_left _ (List.mem_map.2 ⟨v', List.mem_of_getElem? hv1, rfl⟩)))
         obtain ⟨k, h6, h7, h8⟩ := h5 rfl
         rw [c3 i v' hv1, h7, h8] at h4
         exact ⟨fun k' => ⟨fun hk' hr' => hz.sepR k' k b hk' hr' h6 h4, fun hk' hr' => (hz.sepO k' k b hk' hr' (fun e => by subst e; omega)).2.1 h6 h4⟩, hz.locR k b h6 h4⟩)
       have hden : den r2 v = den r' it.v := shV_ok hsh fun k hk j ej => by
        have h1 := hall k hk
        rw [Bool.and_eq_true] at h1
        have h2 : k < S.N + it.nrows.length := by simpa [Nat.blt_eq] using h1.1
        rw [ej, (g2 j (by omega)).1, hml]
       have hp := g1.put (dst := o.dst) (v := v) hgv (fun k hk => by
        have h1 := hall k hk
        rw [Bool.and_eq_true] at h1
        have h2 : k < S.N + it.nrows.length := by simpa [Nat.blt_eq] using h1.1
        have h3 : S.N ≤ k := Nat.le_of_ble_eq_true h1.2
        have := (g2 (k - S.N) (by omega)).2
        rw [show S.N + (k - S.N) = k by omega] at this
        rw [this]; simp) (by rw [hnt]; exact dst_lt hd)
       rw [hden] at hp
       exact hK r2 _ _ hp
      ·cases h
     ·cases h
   ·cases h
  ·cases h
 ·cases h
end
end Go.Sy
namespace Go.Sy
open Go Go.RowKit
section
variable {P : Program} {S : St} {o : Oper}
def EffOk (S : St) (eff : List (Nat × Ent)) (tch : List Nat) (N : Nat) : Prop := (∀ p ∈ eff, p.1 ∈ tch ∧ p.1 < N) ∧ S.N ≤ N
theorem EffOk.none {tch : List Nat} : EffOk S [] tch S.N := ⟨fun p hp => (by cases hp), Nat.le_refl _⟩
def Good (P : Program) (S : St) (o : Oper) (out : Out P) : Prop := OpOk P o S out.v out.eff out.tch ∧ EffOk S out.eff out.tch out.N
theorem Good.mk {v : Value} {tch : List Nat} {its : List (It P)} {ks : List (Key × Key)} (h : OpOk P o S v [] tch) : Good P S o ⟨v, [], tch, S.N, its, ks⟩ := ⟨h, EffOk.none⟩
theorem evE_eff {v : Value} {its : List (It P)} {out : Out P} (h : evE S v its = some out) : EffOk S out.eff out.tch out.N := by
 have key : ∀ its', pl S v its' = some out → EffOk S out.eff out.tch out.N := by
  intro its' h
  unfold pl at h
  split at h
  ·simp only [Option.some.injEq] at h; subst h; exact EffOk.none
  ·cases h
 unfold evE at h
 split at h
 ·exact key _ h
 ·split at h
  ·split at h
   ·simp only [Option.some.injEq] at h; subst h; exact EffOk.none
   ·cases h
  ·exact key _ h
  ·exact key _ h
theorem gen_good {its : List (It P)} {out : Out P} (hd : dstOk S.nt o.dst = true) (h : evGen S o its = some out) (hk : ∀ p ∈ out.ks, p.1 = p.2) : Good P S o out := by
 refine ⟨gen_ok hd h hk, ?_⟩
 unfold evGen at h
 split at h
 ·split at h
  ·split at h
   ·split at h
    ·simp only [Option.some.injEq] at h
     subst h
     exact EffOk.none
    ·cases h
   ·split at h
    ·exact evE_eff h
    ·cases h
  ·split at h
   ·exact evE_eff h
   ·cases h
 ·cases h
theorem blk_eff {cells : List Value} {T : TypeId} {its : List (It P)} {out : Out P} (h : evBlk S cells T its = some out) : EffOk S out.eff out.tch out.N := by
 unfold evBlk at h
 split at h
 ·simp only [Option.some.injEq] at h
  subst h
  refine ⟨fun p hp => ?_, by simp⟩
  have : p = (S.N, blk T cells) := by simpa using hp
  subst this
  exact ⟨List.mem_singleton.2 rfl, by simp⟩
 ·cases h
theorem slice_new {t : TypeId} {n : Nat} {parts : Array (Nat × Value)} {w : World} {e : TypeId} {cells : List Value} (h : pureRun P (sliceCells t n parts) = some (e, cells)) :
    ∃ C : Array Value, C.toList = cells ∧ (Instr.buildSlice t n parts).run P w = .ok (.slice (some ⟨w.heap.size, 0, none⟩) n n) (w.alloc (.cells C e)) := by
 have h2 := pureRun_run h w
 unfold sliceCells at h2
 unfold Instr.buildSlice
 rw [Sem.run_bind] at h2 ⊢
 cases hu : (underlying t).run P w with
 | halt x y => rw [hu] at h2; cases h2
 | ok d w1 =>
  rw [hu] at h2
  simp only [Result.andThen_ok] at h2 ⊢
  cases d <;> first
   | (simp [stuck, Sem.run, bind, Sem.bind, pure] at h2; done)
   | skip
  rename_i elem
  simp only at h2 ⊢
  rw [Sem.run_bind] at h2 ⊢
  cases hs : (sizeOf elem).run P w1 with
  | halt x y => rw [hs] at h2; cases h2
  | ok size w2 =>
   rw [hs] at h2
   simp only [Result.andThen_ok] at h2 ⊢
   by_cases hbig : n * size > 2 ^ 24
   ·rw [if_pos hbig] at h2; simp [unsupported, Sem.run, bind, Sem.bind] at h2
   ·rw [if_neg hbig] at h2 ⊢
    by_cases h0 : n * size = 0
    ·rw [if_pos h0] at h2 ⊢
     rw [Sem.run_bind] at h2 ⊢
     simp only [Sem.run_pure, Result.andThen_ok] at h2 ⊢
     generalize Instr.fill (fun i => some (i * size, size)) _ parts.toList = fl at h2 ⊢
     cases fl with
     | none => simp [stuck, Sem.run] at h2
     | some C =>
      simp only [Sem.run, pure, Result.ok.injEq, Prod.mk.injEq] at h2
      obtain ⟨⟨rfl, h3⟩, rfl⟩ := h2
      exact ⟨C, h3, rfl⟩
    ·rw [if_neg h0] at h2 ⊢
     rw [Sem.run_bind] at h2 ⊢
     cases hz : (zeroValue elem).run P w2 with
     | halt x y => rw [hz] at h2; cases h2
     | ok z w3 =>
      rw [hz] at h2
      simp only [Result.andThen_ok] at h2 ⊢
      rw [Sem.run_bind] at h2 ⊢
      simp only [Sem.run_pure, Result.andThen_ok] at h2 ⊢
      generalize Instr.fill (fun i => some (i * size, size)) _ parts.toList = fl at h2 ⊢
      cases fl with
      | none => simp [stuck, Sem.run] at h2
      | some C =>
       simp only [Sem.run, pure, Result.ok.injEq, Prod.mk.injEq] at h2
       obtain ⟨⟨rfl, h3⟩, rfl⟩ := h2
       exact ⟨C, h3, rfl⟩
theorem bslice_ok {t : TypeId} {n : Nat} {parts : Array (Nat × Operand)} {e : TypeId} {cells : List Value} (hd : dstOk S.nt o.dst = true) (hfr : S.fresh) (ho : o.op = .buildSlice t n parts) (hp : parts.toList.all (fun p => plain (S.val p.2)) = true)
    (h : pureRun P (sliceCells t n (parts.map fun p => (p.1, S.val p.2))) = some (e, cells)) (hc : cells.all (fun c => one c && nil? (ref1 c)) = true) (hlo : (Nat.ble S.lo S.N && Nat.ble n 9223372036854775807) = true) : OpOk P o S (row S.N n) [(S.N, rws n cells)] [S.N] := by
 intro G F E r a w Q K hm hnt hz hF hE hK
 rw [List.all_eq_true] at hp hc
 rw [Bool.and_eq_true] at hlo
 obtain ⟨C, hC, hrun⟩ := slice_new (P := P) (w := w) h
 have hex : execOp a.eval o = (do pure (.value (← Instr.buildSlice t n (parts.map fun (i, x) => (i, a.eval x)))) : Sem Next) := by unfold execOp; rw [ho]
 have he : (parts.map fun (i, x) => (i, a.eval x)) = parts.map fun p => (p.1, S.val p.2) := by
  apply Array.map_congr_left
  intro p hpm
  have hpm' : p ∈ parts.toList := by simpa using hpm
  show (p.1, a.eval p.2) = _
  rw [(val_ok hz hF (x := p.2) (by rw [ho]; simp only [Op.operands]; simp; exact ⟨p.1, by simpa using hpm⟩) (plain_good (hp p hpm'))).1, den_plain (hp p hpm')]
 have eN : E S.N = S.E S.N := hE S.N (List.mem_singleton.2 rfl)
 have h0 : (E S.N).tag = 0 := by rw [eN]; exact hfr _ (Nat.le_refl _)
 have hb : Below w.heap.size w (w.alloc (.cells C e)) := (Below.refl _ _).alloc (Nat.le_refl _) _
 have hz1 := hz.later hb
 have hz2 := hz1.row (K := S.N) (n := n) (cells := cells) (v := .slice (some ⟨w.heap.size, 0, none⟩) n n) h0 (by rw [hm]; exact Nat.le_of_ble_eq_true hlo.1)
  ⟨fun c hcc => good_cell (hc c hcc), .inr ⟨_, _, rfl, Nat.le_refl _, Nat.le_of_ble_eq_true hlo.2, (Array.getElem?_eq_some_iff.1 (heap_new w (.cells C e))).1, .inr ⟨C, e, (0, 0), heap_new w _, by rw [hC, List.take_length]⟩⟩⟩ (fun b hl => by
   obtain ⟨_, a', n', c', e1, rfl⟩ := hl
   simp only [Value.slice.injEq, Option.some.injEq] at e1
   obtain ⟨rfl, _⟩ := e1
   exact ⟨fun k' => ⟨(hz.past k').1, (hz.past k').2.2⟩, .inl hz.bel.size⟩)
 have hp2 := hz2.put (dst := o.dst) (v := row S.N n) rfl (fun k hk => by
  have : k = S.N := by simpa [refs, refD, ref1, row] using hk
  subst this
  rw [upd1_same]; simp [rws]) (by rw [hnt]; exact dst_lt hd)
 rw [show den (upd1 r S.N (.slice (some ⟨w.heap.size, 0, none⟩) n n)) (row S.N n) = .slice (some ⟨w.heap.size, 0, none⟩) n n by
  show upd1 r S.N _ S.N = _
  rw [upd1_same]] at hp2
 refine wp_value (w' := w.alloc (.cells C e)) (u := .slice (some ⟨w.heap.size, 0, none⟩) n n) ?_ (hK _ _ _ hp2)
 rw [hex, he]
 exact run_val hrun
def T4 (e z : Nat) : Nat := e * 4096 + z + 4
theorem bown_ok {t : TypeId} {n : Nat} {parts : Array (Nat × Operand)} {e : TypeId} {cells : List Value} (hd : dstOk S.nt o.dst = true) (hfr : S.fresh) (ho : o.op = .buildSlice t n parts) (hp : parts.toList.all (fun p => plain (S.val p.2)) = true)
    (h : pureRun P (sliceCells t n (parts.map fun p => (p.1, S.val p.2))) = some (e, cells)) (hc : cells.all (fun c => one c && nil? (ref1 c)) = true) (hlo : (Nat.ble S.lo S.N && Nat.ble n 9223372036854775807) = true) {z : Nat} (hz4 : z < 4096) (hlen : cells.length = n * z) : OpOk P o S (row S.N n) [(S.N, own e z n cells)] [S.N] := by
 intro G F E r a w Q K hm hnt hz hF hE hK
 rw [List.all_eq_true] at hp hc
 rw [Bool.and_eq_true] at hlo
 obtain ⟨C, hC, hrun⟩ := slice_new (P := P) (w := w) h
 have hex : execOp a.eval o = (do pure (.value (← Instr.buildSlice t n (parts.map fun (i, x) => (i, a.eval x)))) : Sem Next) := by unfold execOp; rw [ho]
 have he : (parts.map fun (i, x) => (i, a.eval x)) = parts.map fun p => (p.1, S.val p.2) := by
  apply Array.map_congr_left
  intro p hpm
  have hpm' : p ∈ parts.toList := by simpa using hpm
  show (p.1, a.eval p.2) = _
  rw [(val_ok hz hF (x := p.2) (by rw [ho]; simp only [Op.operands]; simp; exact ⟨p.1, by simpa using hpm⟩) (plain_good (hp p hpm'))).1, den_plain (hp p hpm')]
 have eN : E S.N = S.E S.N := hE S.N (List.mem_singleton.2 rfl)
 have h0 : (E S.N).tag = 0 := by rw [eN]; exact hfr _ (Nat.le_refl _)
 have hb : Below w.heap.size w (w.alloc (.cells C e)) := (Below.refl _ _).alloc (Nat.le_refl _) _
 have hz1 := hz.later hb
 have hpl : ∀ x ∈ cells, one x = true ∧ ref1 x = [] := fun c hcc => good_cell (hc c hcc)
 have hz2 := hz1.fresh (K := S.N) (e := own e z n cells) (v := .slice (some ⟨w.heap.size, 0, none⟩) n n) h0 (by rw [hm]; exact Nat.le_of_ble_eq_true hlo.1) (by show T4 e z ≠ 0; unfold T4; omega) (fun c hcc => ⟨(hpl c hcc).1, fun j hj => by rw [(hpl c hcc).2] at hj; cases hj⟩)
  (EntOk.mk_own hz4 ⟨hpl, hlen, w.heap.size, n, C, rfl, hz.bel.size, heap_new w _, Nat.le_refl _, Nat.le_of_ble_eq_true hlo.2, by rw [← hlen, ← hC]; rfl, by rw [hC, ← hlen, List.take_length]⟩)
  (fun h => by have : T4 e z = 1 := h; unfold T4 at this; omega) (fun h => by have : T4 e z = 2 := h; unfold T4 at this; omega) (fun _ b hb k' => by
   obtain ⟨n', c', e1⟩ := hb
   simp only [Value.slice.injEq, Option.some.injEq, Addr.mk.injEq] at e1
   rw [← e1.1.1]
   exact hz.past k')
 have hp2 := hz2.put (dst := o.dst) (v := row S.N n) rfl (fun k hk => by
  have : k = S.N := by simpa [refs, refD, ref1, row] using hk
  subst this
  rw [upd1_same]; show T4 e z ≠ 0; unfold T4; omega) (by rw [hnt]; exact dst_lt hd)
 rw [show den (upd1 r S.N (.slice (some ⟨w.heap.size, 0, none⟩) n n)) (row S.N n) = .slice (some ⟨w.heap.size, 0, none⟩) n n by
  show upd1 r S.N _ S.N = _
  rw [upd1_same]] at hp2
 refine wp_value (w' := w.alloc (.cells C e)) (u := .slice (some ⟨w.heap.size, 0, none⟩) n n) ?_ (hK _ _ _ hp2)
 rw [hex, he]
 exact run_val hrun
theorem elem_facts {t e : TypeId} {z : Nat} (h : elemInfo P t = some (e, z)) : P.underlying t = some (.slice e) ∧ 0 < z ∧ z < 4096 ∧ ∃ i zv, P.info? e = some i ∧ i.zero = some zv ∧ i.size = z ∧ zv.cells.size = z ∧ i.bytes ≤ 100000 := by
 unfold elemInfo at h
 split at h
 ·rename_i e' hu
  split at h
  ·rename_i i hi
   split at h
   ·rename_i zv hz
    split at h
    ·rename_i hb
     simp only [Option.some.injEq, Prod.mk.injEq] at h
     obtain ⟨rfl, rfl⟩ := h
     simp only [Bool.and_eq_true] at hb
     have b1 := Nat.eq_of_beq_eq_true hb.1
     have b2 := Nat.le_of_ble_eq_true hb.2.1
     have b3 := Nat.le_of_ble_eq_true hb.2.2.1
     have b4 := Nat.le_of_ble_eq_true hb.2.2.2
     exact ⟨hu, by omega, by omega, i, zv, hi, hz, rfl, b1, b4⟩
    ·cases h
   ·cases h
  ·cases h
 ·cases h
theorem q_div {e z : Nat} (h : z < 4096) : (e * 4096 + z) / 4096 = e := by omega
theorem q_mod {e z : Nat} (h : z < 4096) : (e * 4096 + z) % 4096 = z := by omega
theorem one_cell' {v : Value} (h : one v = true) : v.oneCell' = true := by
 cases v <;> first | rfl | (simp [one] at h; done)
theorem own_block {v : Value} {B : Nat} {w : World} {T z n : Nat} {cells : List Value} (h : OwnW B w v T z n cells) : ∃ g, v.ownBlock = some g ∧ AtB v g ∧ ∀ b, AtB v b → b = g := by
 obtain ⟨_, _, g, c, cs, rfl, _⟩ := h
 refine ⟨g, rfl, ⟨_, _, rfl⟩, fun b hb => ?_⟩
 obtain ⟨n', c', e⟩ := hb
 simp only [Value.slice.injEq, Option.some.injEq, Addr.mk.injEq] at e
 exact e.1.1.symm
theorem append_ok {args : Array Operand} {ats : Array TypeId} {x y : Operand} {t t' : TypeId} {its : List (It P)} {out : Out P} (hd : dstOk S.nt o.dst = true) (hfr : S.fresh) (ho : o.op = .call { callee := .builtin .append, args := args, argTypes := ats }) (ha : args.toList = [x, y]) (hts : ats.toList = [t, t']) (htt : Nat.beq t t' = true)
    (h : evAppend S t (S.val x) (S.val y) its = some out) : Good P S o out := by
 have htt := Nat.eq_of_beq_eq_true htt
 subst htt
 have ea : args = #[x, y] := by apply Array.toList_inj.1; rw [ha]
 have et : ats = #[t, t] := by apply Array.toList_inj.1; rw [hts]
 subst ea; subst et
 unfold evAppend at h
 split at h
 ·rename_i e z k2 n2 c2 hel hvy
  obtain ⟨u1, u2, u3, i, zv, u4, u5, u6, u7, u8⟩ := elem_facts hel
  split at h
  ·rename_i hr hne hlen hle
   rw [Bool.and_eq_true] at hle
   have hlen := Nat.eq_of_beq_eq_true hlen
   have hle1 := Nat.le_of_ble_eq_true hle.1
   have hle2 := Nat.le_of_ble_eq_true hle.2
   have hcne : (S.E k2).cells ≠ [] := fun e => by rw [e] at hne; cases hne
   have hnpos : (S.E k2).n ≠ 0 := fun e => hcne (List.eq_nil_of_length_eq_zero (by rw [hlen, e, Nat.zero_mul]))
   have core : ∀ {G : Ctx P} {F : Nat → Value} {E : Nat → Ent} {r : Nat → Value} {a : Act} {w : World} (v : Value) (n : Nat) (xs : List Value), Rz G F E r a w → (∀ t, Operand.tmp t ∈ o.op.operands → F t = S.F t) → E k2 = S.E k2 → a.eval x = v → w.ownsRow G.w0.heap.size e z v n xs → n ≤ 1000000 → (∀ c ∈ xs, one c = true ∧ ref1 c = []) →
       ∃ v' w', (execOp a.eval o).run P w = .ok (.value v') w' ∧ OwnW G.w0.heap.size w' v' e z (n + (S.E k2).n) (xs ++ (S.E k2).cells) ∧ w.grownBy w' v.ownBlock ∧ (v'.ownBlock = v.ownBlock ∨ v'.ownBlock = some w.heap.size) := by
    intro G F E r a w v n xs hz hF eE2 hv hown hn hxs
    obtain ⟨f1, f2⟩ := val_ok hz hF (x := y) (by rw [ho]; simp [Op.operands, Call.operands]) (by rw [hvy]; rfl)
    have he2 := (hz.ent k2).rowT (by rw [eE2]; exact hr)
    rw [eE2] at he2
    obtain ⟨hrow, hpl⟩ := he2
    obtain ⟨b, sc, C, ty, fz, hb1, hb3, hb4⟩ := hrow.at hne
    have hnews : ∀ (j : Nat) (u : Value), (S.E k2).cells[j]? = some u → w.cell? ((⟨b, 0, none⟩ : Addr).add j) = some u := fun j u hj => by
     rw [add_none]
     unfold World.cell?
     simp only [hb3]
     have hlt := (List.getElem?_eq_some_iff.1 hj).1
     rw [← hb4, List.drop_zero, List.getElem?_take_of_lt hlt] at hj
     simpa using hj
    obtain ⟨v', w', h1, h2, h3, h4, h5⟩ := run_append_own_at (P := P) w G.w0.heap.size t o.type e i zv z i.bytes u1 u4 u5 u6 rfl u7 u2 v n xs hown ⟨b, 0, none⟩ (S.E k2).n sc (S.E k2).cells hlen hnews (fun u hu => one_cell' (hrow.1 u hu).1) (by simp only [maxLen]; omega) (by
        have := Nat.mul_le_mul (show n + (S.E k2).n ≤ 1001000 by omega) u8
        omega) hz.bel.size
    refine ⟨v', w', ?_, ?_, h3, h5⟩
    ·unfold execOp
     rw [ho]
     simp only [resolve, invoke, builtin, Sem.run_bind, Sem.run_pure, Result.andThen_ok, List.map_toArray, List.map_cons, List.map_nil, hv, f1, hvy]
     rw [show den r (.slice (some ⟨k2, 0, some 1⟩) n2 c2) = .slice (some ⟨b, 0, none⟩) (S.E k2).n sc from hb1, h1]
     rfl
    ·refine OwnW.of (fun c hc => ?_) h2 (fun e => hnpos (h4.1 e).2)
     rcases List.mem_append.1 hc with hc | hc
     ·exact hxs c hc
     ·exact hrow.1 c hc
   split at h
   ·rename_i hvx
    simp only [Option.some.injEq] at h
    subst h
    refine ⟨?_, fun p hp => ?_, by simp⟩
    ·intro G F E r a w Q K hm hnt hz hF hE hK
     obtain ⟨e1, _⟩ := val_ok hz hF (x := x) (by rw [ho]; simp [Op.operands, Call.operands]) (by rw [hvx]; rfl)
     have eN : E S.N = S.E S.N := hE S.N (by simp)
     have h0 : (E S.N).tag = 0 := by rw [eN]; exact hfr _ (Nat.le_refl _)
     obtain ⟨v', w', g1, g2, g3, g4⟩ := core (.slice none 0 0) 0 [] hz hF (hE k2 (by simp)) (by rw [e1, hvx]; rfl) (World.ownsRow_nil w _ e z) (by omega) (fun c hc => by cases hc)
     rw [Nat.zero_add, List.nil_append] at g2
     have hz1 := hz.away g3 (fun g hg => by cases hg)
     obtain ⟨g, q1, q2, q3⟩ := own_block g2
     have hz2 := hz1.fresh (K := S.N) (e := own e z (S.E k2).n (S.E k2).cells) (v := v') h0 (by rw [hm]; exact hle2) (by show T4 e z ≠ 0; unfold T4; omega) (fun c hcc => ⟨(g2.1 c hcc).1, fun j hj => by rw [(g2.1 c hcc).2] at hj; cases hj⟩) (EntOk.mk_own u3 g2)
      (fun h => by have : T4 e z = 1 := h; unfold T4 at this; omega) (fun h => by have : T4 e z = 2 := h; unfold T4 at this; omega) (fun _ b hb k' => by
       rw [q3 b hb]
       rcases g4 with g4 | g4
       ·rw [q1] at g4; cases g4
       ·rw [q1, Option.some.injEq] at g4
        rw [g4]
        exact hz.past k')
     have hp2 := hz2.put (dst := o.dst) (v := row S.N (S.E k2).n) rfl (fun k hk => by
      have : k = S.N := by simpa [refs, refD, ref1, row] using hk
      subst this
      rw [upd1_same]; show T4 e z ≠ 0; unfold T4; omega) (by rw [hnt]; exact dst_lt hd)
     rw [show den (upd1 r S.N v') (row S.N (S.E k2).n) = v' by
      show upd1 r S.N _ S.N = _
      rw [upd1_same]] at hp2
     exact wp_value (w' := w') (u := v') g1 (hK _ _ _ hp2)
    ·have : p = (S.N, own e z (S.E k2).n (S.E k2).cells) := by simpa using hp
     subst this
     exact ⟨by simp, by simp⟩
   ·rename_i k n1 c1 hvx
    split at h
    ·rename_i htag hn1
     have htag := Nat.eq_of_beq_eq_true htag
     have hn1 := Nat.le_of_ble_eq_true hn1
     simp only [Option.some.injEq] at h
     subst h
     have hkN : k < S.N := by
      rcases Nat.lt_or_ge k S.N with h1 | h1
      ·exact h1
      ·have := hfr k h1
       omega
     refine ⟨?_, fun p hp => ?_, by simp⟩
     ·intro G F E r a w Q K hm hnt hz hF hE hK
      obtain ⟨e1, _⟩ := val_ok hz hF (x := x) (by rw [ho]; simp [Op.operands, Call.operands]) (by rw [hvx]; rfl)
      have eN : E S.N = S.E S.N := hE S.N (by simp)
      have h0 : (E S.N).tag = 0 := by rw [eN]; exact hfr _ (Nat.le_refl _)
      have eE : E k = S.E k := hE k (by simp)
      have h4 : 4 ≤ (E k).tag := by rw [eE]; omega
      have hown := (hz.ent k).ownW h4
      rw [eE, htag, Nat.add_sub_cancel, q_div u3, q_mod u3] at hown
      obtain ⟨g0, p1, p2, p3⟩ := own_block hown
      obtain ⟨v', w', g1, g2, g3, g4⟩ := core (r k) (S.E k).n (S.E k).cells hz hF (hE k2 (by simp)) (by rw [e1, hvx]; rfl) hown.owns hn1 hown.1
      have hz1 := hz.kill (k := k) (by unfold isR; rw [Nat.ble_eq_true_of_le h4, Bool.or_true])
      have far : ∀ k', ((upd1 E k dead k').tag = 1 → r k' ≠ ptr0 g0) ∧ ((upd1 E k dead k').tag = 2 → ¬ Loc (r k') (upd1 E k dead k').cells g0) ∧ (4 ≤ (upd1 E k dead k').tag → ¬ AtB (r k') g0) := fun k' => by
       by_cases hk' : k' = k
       ·subst hk'
        rw [upd1_same]
        exact ⟨fun h => absurd h (by decide), fun h => absurd h (by decide), fun h => absurd h (by decide)⟩
       ·rw [upd1_other _ _ hk']
        exact hz.sepO k k' g0 h4 p2 hk'
      have hz2 := hz1.away g3 (fun g hg => by
       rw [p1, Option.some.injEq] at hg
       subst hg
       exact ⟨(hown.at p2).1, far⟩)
      obtain ⟨g, q1, q2, q3⟩ := own_block g2
      have hz3 := hz2.fresh (K := S.N) (e := own e z ((S.E k).n + (S.E k2).n) ((S.E k).cells ++ (S.E k2).cells)) (v := v') (by rw [upd1_other _ _ (by omega)]; exact h0) (by rw [hm]; exact hle2) (by show T4 e z ≠ 0; unfold T4; omega) (fun c hcc => ⟨(g2.1 c hcc).1, fun j hj => by rw [(g2.1 c hcc).2] at hj; cases hj⟩) (EntOk.mk_own u3 g2)
       (fun h => by have : T4 e z = 1 := h; unfold T4 at this; omega) (fun h => by have : T4 e z = 2 := h; unfold T4 at this; omega) (fun _ b hb k' => by
        rw [q3 b hb]
        rcases g4 with g4 | g4
        ·rw [q1, p1, Option.some.injEq] at g4
         rw [g4]
         exact far k'
        ·rw [q1, Option.some.injEq] at g4
         rw [g4]
         exact hz1.past k')
      have hp2 := hz3.put (dst := o.dst) (v := row S.N ((S.E k).n + (S.E k2).n)) rfl (fun k hk => by
       have : k = S.N := by simpa [refs, refD, ref1, row] using hk
       subst this
       rw [upd1_same]; show T4 e z ≠ 0; unfold T4; omega) (by rw [hnt]; exact dst_lt hd)
      rw [show den (upd1 r S.N v') (row S.N ((S.E k).n + (S.E k2).n)) = v' by
       show upd1 r S.N _ S.N = _
       rw [upd1_same]] at hp2
      exact wp_value (w' := w') (u := v') g1 (hK _ _ _ hp2)
     ·have : p = (k, dead) ∨ p = (S.N, own e z ((S.E k).n + (S.E k2).n) ((S.E k).cells ++ (S.E k2).cells)) := by simpa using hp
      rcases this with rfl | rfl
      ·exact ⟨by simp, by show k < S.N + 1; omega⟩
      ·exact ⟨by simp, by simp⟩
    ·cases h
   ·cases h
  ·cases h
 ·cases h
theorem call_eff {f : FuncId} {args : List Value} {its : List (It P)} {out : Out P} (h : evCall S f args its = some out) : EffOk S out.eff out.tch out.N := by
 unfold evCall at h
 split at h
 ·rename_i it its
  split at h
  ·split at h
   ·split at h
    ·split at h
     ·simp only [Option.some.injEq] at h; subst h; exact EffOk.none
     ·cases h
    ·split at h
     ·split at h
      ·simp only [Option.some.injEq] at h
       subst h
       refine ⟨fun p hp => ?_, by simp⟩
       have h1 : p.1 ∈ (newRows S.N it.nrows).map (·.1) := List.mem_map.2 ⟨p, hp, rfl⟩
       refine ⟨List.mem_append_right _ h1, ?_⟩
       rw [newRows_keys] at h1
       obtain ⟨x, hx, hx2⟩ := List.mem_map.1 h1
       rw [List.mem_range] at hx
       rw [← hx2]
       show S.N + x < S.N + it.nrows.length
       omega
      ·cases h
     ·cases h
   ·cases h
  ·cases h
 ·cases h
theorem gen_shape {its : List (It P)} {out : Out P} (h : evGen S o its = some out) (hk : ∀ p ∈ out.ks, p.1 = p.2) : out.eff = [] ∧ out.tch = [] ∧ out.N = S.N := by
 have pl' : ∀ {v : Value} {its' : List (It P)} {out : Out P}, evE S v its' = some out → (∀ p ∈ out.ks, p.1 = p.2) → out.eff = [] ∧ out.tch = [] ∧ out.N = S.N := fun {v its' out} h hk => by
  have key : ∀ {v : Value} {its' : List (It P)} {out : Out P}, pl S v its' = some out → out.eff = [] ∧ out.tch = [] ∧ out.N = S.N := fun {v its' out} h => by
   unfold pl at h
   split at h
   ·simp only [Option.some.injEq] at h; subst h; exact ⟨rfl, rfl, rfl⟩
   ·cases h
  unfold evE at h
  split at h
  ·exact key h
  ·split at h
   ·split at h
    ·simp only [Option.some.injEq] at h; subst h; exact ⟨rfl, rfl, rfl⟩
    ·cases h
   ·exact key h
   ·exact key h
 unfold evGen at h
 split at h
 ·split at h
  ·split at h
   ·split at h
    ·simp only [Option.some.injEq] at h; subst h; exact ⟨rfl, rfl, rfl⟩
    ·cases h
   ·split at h
    ·exact pl' h hk
    ·cases h
  ·split at h
   ·exact pl' h hk
   ·cases h
 ·cases h
theorem lenE_sh {args : Array Operand} {ats : Array TypeId} {its : List (It P)} {out : Out P} (hd : dstOk S.nt o.dst = true) (ho : o.op = .call { callee := .builtin .len, args := args, argTypes := ats }) (h : evLen S o args ats its = some out) (hk : ∀ p ∈ out.ks, p.1 = p.2) : out.eff = [] ∧ OpSh P o S out.v out.tch := by
 have gen : ∀ {out : Out P}, evGen S o its = some out → (∀ p ∈ out.ks, p.1 = p.2) → out.eff = [] ∧ OpSh P o S out.v out.tch := fun {out} h hk => by
  obtain ⟨h1, h2, _⟩ := gen_shape h hk
  refine ⟨h1, ?_⟩
  have h3 := gen_ok hd h hk
  rw [h1, h2] at h3
  rw [h2]
  exact fun G F E r a w Q K g1 g2 g3 g4 g5 g6 => h3 G F E r a w Q K g1 g2 g3 g4 (fun k hk => by cases hk) g6
 unfold evLen at h
 split at h
 ·rename_i x hx
  split at h
  ·rename_i k off n cc hv
   split at h
   ·rename_i e hu
    simp only [Option.some.injEq] at h
    subst h
    obtain ⟨T, hT, hu⟩ := Option.bind_eq_some_iff.1 hu
    refine ⟨rfl, len_ok hd ho hx hT hu (by rw [hv]; rfl) fun hz hE => ?_⟩
    rw [hv]
    exact ⟨_, _, rfl⟩
   ·cases h
  ·rename_i k off s n cc hv
   split at h
   ·rename_i e hu ht
    simp only [Option.some.injEq] at h
    subst h
    obtain ⟨T, hT, hu⟩ := Option.bind_eq_some_iff.1 hu
    refine ⟨rfl, len_ok hd ho hx hT hu (by rw [hv]; rfl) fun {G F E r a w} hz hE => ?_⟩
    rw [hv]
    have eE : shp (E k) = shp (S.E k) := hE k (List.mem_singleton.2 rfl)
    simp only [shp, Prod.mk.injEq] at eE
    obtain ⟨et, en, ec⟩ := eE
    rcases Bool.or_eq_true _ _ ▸ ht with ht | ht
    ·have he := (hz.ent k).rowT (by rw [et]; exact ht)
     obtain ⟨sa, sc, hb1⟩ := he.1.form
     rw [en] at hb1
     exact ⟨sa, sc, hb1⟩
    ·rw [Bool.and_eq_true, Bool.not_eq_true'] at ht
     have he := (hz.ent k).rowQ hz.bel (by rw [et]; unfold isQ; rw [ht.1, Bool.or_true]) (by rw [ec]; exact ht.2)
     obtain ⟨_, b, o', sc, _, _, _, hb1, _⟩ := he
     rw [en] at hb1
     exact ⟨_, sc, hb1⟩
   ·cases h
  ·exact gen h hk
 ·cases h
theorem lenE_N {args : Array Operand} {ats : Array TypeId} {its : List (It P)} {out : Out P} (h : evLen S o args ats its = some out) (hk : ∀ p ∈ out.ks, p.1 = p.2) : out.N = S.N := by
 unfold evLen at h
 split at h
 ·split at h
  ·split at h
   ·simp only [Option.some.injEq] at h; subst h; rfl
   ·cases h
  ·split at h
   ·simp only [Option.some.injEq] at h; subst h; rfl
   ·cases h
  ·exact (gen_shape h hk).2.2
 ·cases h
theorem evOp_ok {its : List (It P)} {out : Out P} (hd : dstOk S.nt o.dst = true) (hfr : S.fresh) (h : evOp S o its = some out) (hk : ∀ p ∈ out.ks, p.1 = p.2) : Good P S o out := by
 unfold evOp at h
 split at h
 ·rename_i T ho
  split at h
  ·rename_i z hz
   split at h
   ·rename_i hp
    rw [List.all_eq_true] at hp
    refine ⟨blk_ok hd h (fun hz' hF => ⟨fun c hc j hj => ?_, ?_⟩) (hfr _ (Nat.le_refl _)), blk_eff h⟩
    ·rw [(good_cell (hp c hc)).2] at hj; cases hj
    ·unfold execOp; rw [ho]
     refine run_val ?_
     rw [run_zero hz, map_plain fun c hc => (good_cell (hp c hc)).2]
     rfl
   ·cases h
  ·cases h
 ·rename_i T x ho
  split at h
  ·rename_i hg
   refine ⟨?_, blk_eff h⟩
   have hones : ones (S.val x).cells.toList = true := by
    unfold evBlk at h
    split at h
    ·assumption
    ·cases h
   refine blk_ok hd h (fun hz' hF => ?_) (hfr _ (Nat.le_refl _))
   obtain ⟨e1, e2⟩ := val_ok hz' hF (x := x) (by rw [ho]; simp [Op.operands]) hg
   refine ⟨fun c hc j hj => e2 j (refs_cells hones hc hj), ?_⟩
   unfold execOp; rw [ho]
   refine run_val ?_
   rw [e1]
   rw [run_box, cells_den hones fun k hk => hz'.cell1 (e2 k hk)]
   rfl
  ·cases h
 ·rename_i t x ho
  refine ⟨load_ok hd ho h, ?_⟩
  unfold evLoad at h
  (repeat' split at h) <;> first | (simp only [Option.some.injEq] at h; subst h; exact EffOk.none) | cases h
 ·rename_i t x y ho
  refine ⟨store_ok hd ho h, ?_⟩
  unfold evStore at h
  split at h
  ·rename_i k off _
   split at h
   ·rename_i n htag _ _ _
    split at h
    ·simp only [Option.some.injEq] at h
     subst h
     refine ⟨fun p hp => ?_, Nat.le_refl _⟩
     have : p.1 = k := by
      have := List.mem_singleton.1 hp
      rw [this]
     rw [this]
     refine ⟨List.mem_singleton.2 rfl, ?_⟩
     rcases Nat.lt_or_ge k S.N with h1 | h1
     ·exact h1
     ·have := hfr k h1
      rw [htag] at this; cases this
    ·cases h
   ·cases h
  ·rename_i k off s _
   split at h
   ·rename_i n htag _ _ _
    split at h
    ·simp only [Option.some.injEq] at h
     subst h
     refine ⟨fun p hp => ?_, Nat.le_refl _⟩
     have : p.1 = k := by
      have := List.mem_singleton.1 hp
      rw [this]
     rw [this]
     refine ⟨List.mem_singleton.2 rfl, ?_⟩
     rcases Nat.lt_or_ge k S.N with h1 | h1
     ·exact h1
     ·have := hfr k h1
      have h4 := Nat.le_of_ble_eq_true htag
      omega
    ·cases h
   ·cases h
  ·cases h
 ·rename_i s x f ho
  refine ⟨field_ok hd ho h, ?_⟩
  unfold evField at h
  (repeat' split at h) <;> first | (simp only [Option.some.injEq] at h; subst h; exact EffOk.none) | cases h
 ·rename_i t x y ho
  refine ⟨index_ok hd ho h hk, ?_⟩
  unfold evIndexAt at h
  (repeat' split at h) <;> first | (simp only [Option.some.injEq] at h; subst h; exact EffOk.none) | cases h
 ·rename_i t x ho
  split at h
  ·exact gen_good hd h hk
  ·refine ⟨slice_ok hd ho h, ?_⟩
   unfold evSlice at h
   (repeat' split at h) <;> first | (simp only [Option.some.injEq] at h; subst h; exact EffOk.none) | cases h
 ·rename_i T T' x ho
  split at h
  ·rename_i hm
   unfold evConv at h
   split at h
   ·rename_i it its
    split at h
    ·rename_i ht
     split at h
     ·rename_i q hq hv
      simp only [Option.some.injEq] at h
      subst h
      exact .mk (conv_ok hd ho ht (mark_row hm).1 hq hv (hk _ (List.mem_singleton.2 rfl)))
     ·cases h
    ·cases h
   ·cases h
  ·exact gen_good hd h hk
 ·rename_i x i ho
  refine ⟨extract_ok hd ho h, ?_⟩
  unfold evExtract at h
  (repeat' split at h) <;> first | (simp only [Option.some.injEq] at h; subst h; exact EffOk.none) | cases h
 ·rename_i x ho
  split at h
  ·rename_i hg
   simp only [Option.some.injEq] at h
   subst h
   exact .mk (move_ok hd (by rw [ho]; simp [Op.operands]) (fun a => by unfold execOp; rw [ho]) hg)
  ·cases h
 ·rename_i x ho
  split at h
  ·rename_i hg
   simp only [Option.some.injEq] at h
   subst h
   exact .mk (move_ok hd (by rw [ho]; simp [Op.operands]) (fun a => by unfold execOp; rw [ho]) hg)
  ·cases h
 ·rename_i c x y ho
  split at h
  ·rename_i hc
   split at h
   ·rename_i hg
    simp only [Option.some.injEq] at h
    subst h
    exact .mk (pick_ok (b := true) hd ho hc hg)
   ·cases h
  ·rename_i hc
   split at h
   ·rename_i hg
    simp only [Option.some.injEq] at h
    subst h
    exact .mk (pick_ok (b := false) hd ho hc hg)
   ·cases h
  ·cases h
 ·rename_i x ho
  split at h
  ·rename_i k off s hv
   split at h
   ·simp only [Option.some.injEq] at h
    subst h
    refine .mk (OpOk.value hd rfl ?_)
    intro G F E r a w hz hF hE
    obtain ⟨e1, e2⟩ := val_ok hz hF (x := x) (by rw [ho]; simp [Op.operands]) (by rw [hv]; rfl)
    refine ⟨fun j hj => e2 j (by rw [hv]; exact hj), ?_⟩
    unfold execOp; rw [ho]
    simp only
    rw [e1, hv]
    rfl
   ·cases h
  ·exact gen_good hd h hk
 ·rename_i t parts ho
  split at h
  ·rename_i hp
   split at h
   ·rename_i v z hv hz
    split at h
    ·rename_i h1 h2 h3
     simp only [Option.some.injEq] at h
     subst h
     exact .mk (build_ok hd ho hp hv hz h1 h2 h3)
    ·cases h
   ·cases h
  ·cases h
 ·rename_i t n parts ho
  split at h
  ·rename_i e cells hp hs
   split at h
   ·rename_i h1 h2
    have plainS : ∀ its', Good P S o ⟨row S.N n, [(S.N, rws n cells)], [S.N], S.N + 1, its', []⟩ := fun its' => by
     refine ⟨bslice_ok hd hfr ho hp hs h1 h2, fun p hp => ?_, by simp⟩
     have : p = (S.N, rws n cells) := by simpa using hp
     subst this
     exact ⟨List.mem_singleton.2 rfl, by simp⟩
    unfold evBs at h
    split at h
    ·split at h
     ·split at h
      ·rename_i e' z hel
       split at h
       ·rename_i hb
        rw [Bool.and_eq_true] at hb
        simp only [Option.some.injEq] at h
        subst h
        refine ⟨bown_ok hd hfr ho hp hs h1 h2 (elem_facts hel).2.2.1 (Nat.eq_of_beq_eq_true hb.2), fun p hp => ?_, by simp⟩
        have : p = (S.N, own e z n cells) := by simpa using hp
        subst this
        exact ⟨List.mem_singleton.2 rfl, by simp⟩
       ·cases h
      ·cases h
     ·simp only [Option.some.injEq] at h
      subst h
      exact plainS _
    ·simp only [Option.some.injEq] at h
     subst h
     exact plainS _
   ·cases h
  ·cases h
 ·rename_i op T x y yT ho
  unfold evBin at h
  split at h
  ·rename_i it its
   split at h
   ·rename_i ht
    split at h
    ·rename_i h1 h2 h3
     simp only [Option.some.injEq] at h
     subst h
     exact .mk (bin_ok hd ho ht h1 h2 h3 (hk _ (List.mem_singleton.2 rfl)))
    ·cases h
   ·exact gen_good hd h hk
  ·exact gen_good hd h hk
 ·rename_i g args ats ho
  split at h
  ·rename_i f hg
   split at h
   ·rename_i hgood
    rw [List.all_eq_true] at hgood
    exact ⟨call_ok hd ho hg hfr h hk hgood, call_eff h⟩
   ·cases h
  ·cases h
 ·rename_i args ats ho
  split at h
  ·rename_i x y t t' hx ht
   split at h
   ·rename_i htt
    exact append_ok hd hfr ho hx ht htt h
   ·cases h
  ·cases h
 ·rename_i args ats ho
  obtain ⟨h1, h2⟩ := lenE_sh hd ho h hk
  refine ⟨by rw [h1]; exact h2.ok, ?_⟩
  rw [h1, lenE_N h hk]
  exact EffOk.none
 ·exact gen_good hd h hk
theorem shOp_ok {its : List (It P)} {out : Out P} (hd : dstOk S.nt o.dst = true) (hs : isShape o.op = true) (h : evOp S o its = some out) (hk : ∀ p ∈ out.ks, p.1 = p.2) : out.eff = [] ∧ OpSh P o S out.v out.tch := by
 unfold isShape at hs
 split at hs
 ·rename_i s x f ho
  unfold evOp at h
  rw [ho] at h
  exact field_sh hd ho h
 ·rename_i s x f ho
  unfold evOp at h
  rw [ho] at h
  exact index_sh hd ho h hk
 ·rename_i args ats ho
  unfold evOp at h
  rw [ho] at h
  exact lenE_sh hd ho h hk
 ·cases hs
end
end Go.Sy
namespace Go.Sy
open Go Go.RowKit
theorem beq_refl' (k : Nat) : Nat.beq k k = true := by simp
theorem look_cons {α : Type} (d : α) (t k : Nat) (x : α) (l : List (Nat × α)) : look d t ((k, x) :: l) = if t = k then x else look d t l := by
 show (match Nat.beq k t with | true => x | false => look d t l) = _
 by_cases h : t = k
 ·subst h; rw [beq_refl', if_pos rfl]
 ·rw [if_neg h]
  have : Nat.beq k t = false := by
   cases hb : Nat.beq k t with
   | false => rfl
   | true => exact absurd (Nat.eq_of_beq_eq_true hb).symm h
  rw [this]
theorem put_F (S : St) (dst : Option Tmp) (v : Value) (eff : List (Nat × Ent)) (N t : Nat) : (S.put dst v eff N).F t = updF S.F dst v t := by
 cases dst with
 | none => unfold updF; simp [St.put, St.F]
 | some d =>
  show look S.d t ((d, v) :: S.fr) = _
  rw [look_cons]
  unfold updF
  by_cases h : t = d
  ·subst h; simp
  ·rw [if_neg h, if_neg (by simpa using Ne.symm h)]; rfl
theorem updE_look : ∀ (eff en : List (Nat × Ent)) (k : Nat), look nob k (eff.reverse ++ en) = updE (fun k => look nob k en) eff k
 | [], en, k => rfl
 | p :: eff, en, k => by
  rw [List.reverse_cons, List.append_assoc]
  rw [updE_look eff ([p] ++ en) k]
  show updE _ eff k = updE (upd1 _ p.1 p.2) eff k
  congr 1
  funext j
  show look nob j ((p.1, p.2) :: en) = _
  rw [look_cons]; rfl
theorem put_E (S : St) (dst : Option Tmp) (v : Value) (eff : List (Nat × Ent)) (N : Nat) : (S.put dst v eff N).E = updE S.E eff := by
 funext k
 cases eff with
 | nil => rfl
 | cons p l => exact updE_look (p :: l) S.en k
def lastE (eff : List (Nat × Ent)) (k : Nat) : Option Ent := eff.foldl (fun o p => if p.1 = k then some p.2 else o) none
theorem lastE_key : ∀ (eff : List (Nat × Ent)) (o : Option Ent) (k : Nat), eff.foldl (fun o p => if p.1 = k then some p.2 else o) o = ((lastE eff k).or o)
 | [], o, k => rfl
 | p :: eff, o, k => by
  unfold lastE
  rw [List.foldl_cons, List.foldl_cons, lastE_key eff, lastE_key eff (if p.1 = k then some p.2 else none)]
  by_cases h : p.1 = k
  ·simp [h]
  ·simp [h]
theorem lastE_cons (p : Nat × Ent) (eff : List (Nat × Ent)) (k : Nat) : lastE (p :: eff) k = (lastE eff k).or (if p.1 = k then some p.2 else none) := by
 conv => lhs; unfold lastE
 rw [List.foldl_cons]
 exact lastE_key eff _ k
theorem updE_last : ∀ (eff : List (Nat × Ent)) (E : Nat → Ent) (k : Nat), updE E eff k = (lastE eff k).getD (E k)
 | [], E, k => rfl
 | p :: eff, E, k => by
  show updE (upd1 E p.1 p.2) eff k = _
  rw [updE_last eff, lastE_cons]
  cases h : lastE eff k with
  | some e => rfl
  | none =>
   show upd1 E p.1 p.2 k = _
   by_cases h2 : p.1 = k
   ·subst h2; rw [upd1_same]; simp
   ·rw [upd1_other _ _ (Ne.symm h2)]; simp [h2]
theorem lastE_mem : ∀ (eff : List (Nat × Ent)) (k : Nat), lastE eff k ≠ none → k ∈ eff.map (·.1)
 | [], k, h => absurd rfl h
 | p :: eff, k, h => by
  rw [lastE_cons] at h
  rw [List.map_cons]
  by_cases h2 : p.1 = k
  ·rw [← h2]; exact List.mem_cons_self ..
  ·rw [if_neg h2] at h
   refine List.mem_cons_of_mem _ (lastE_mem eff k fun e => h ?_)
   rw [e]; rfl
section
variable {P : Program}
def StepOk (P : Program) (all : Array Oper) (S : St) (o : Oper) (v : Value) (eff : List (Nat × Ent)) (tch sh : List Nat) : Prop :=
 ∀ (G : Ctx P) (F : Nat → Value) (E : Nat → Ent) (r : Nat → Value) (a : Act) (w : World) (Q : Exit → Act → World → Prop) (K : Act → World → Prop) (i : Nat), all[i]? = some o → G.rows.length = S.lo → G.nt = S.nt → Rz G F E r a w →
  (∀ t ∈ o.looksAt all, F t = S.F t) → (∀ k ∈ tch, E k = S.E k) → (∀ k ∈ sh, shp (E k) = shp (S.E k)) →
  (∀ r' a' w', Rz G (updF F o.dst v) (updE E eff) r' a' w' → K a' w') → wpOp P all Q i K a w
theorem guard_ok {all : Array Oper} {S : St} {o : Oper} {b : Bool} {G : Ctx P} {F : Nat → Value} {E : Nat → Ent} {r : Nat → Value} {a : Act} {w : World} (h : guardB all S o.guard = some b) (hz : Rz G F E r a w) (hF : ∀ t ∈ o.looksAt all, F t = S.F t) :
    Region.wanted o (yielded all a.tmps) = b := by
 unfold guardB at h
 unfold Region.wanted
 cases hg : o.guard with
 | none => rw [hg] at h; simp only [Option.some.injEq] at h; subst h; rfl
 | some g =>
  obtain ⟨j, want⟩ := g
  rw [hg] at h
  simp only at h ⊢
  cases ht : (all[j]?).bind (·.dst) with
  | none => rw [ht] at h; cases h
  | some t =>
   rw [ht] at h
   simp only at h
   have e := hF t (by simp [Oper.looksAt, hg, ht])
   have key : ∀ c, S.F t = .bool c → yielded all a.tmps j = some c := fun c hc => by
    have h2 := hz.fr t (by rw [e, hc]; intro h; cases h)
    rw [e, hc] at h2
    have h2 : a.tmps.getD t undef = .bool c := h2
    unfold yielded
    rw [ht]
    simp only [Option.bind_some]
    have h3 : a.tmps[t]? = some (.bool c) := by
     cases h4 : a.tmps[t]? with
     | none => rw [Array.getD_eq_getD_getElem?, h4] at h2; cases h2
     | some x => rw [Array.getD_eq_getD_getElem?, h4] at h2; rw [← h2]; rfl
    rw [h3]
   have key0 : S.F t = undef → yielded all a.tmps j = none := fun hc => by
    have h2 := hz.fr t (by rw [e, hc]; intro h; cases h)
    rw [e, hc] at h2
    have h2 : a.tmps.getD t undef = undef := h2
    unfold yielded
    rw [ht]
    simp only [Option.bind_some]
    cases h4 : a.tmps[t]? with
    | none => rfl
    | some x => rw [Array.getD_eq_getD_getElem?, h4] at h2; rw [show x = undef from h2]; rfl
   split at h <;> first | (cases h; done) | (rename_i hc; simp only [Option.some.injEq] at h; subst h; rw [key _ hc]; rfl) | (rename_i hc; simp only [Option.some.injEq] at h; subst h; rw [key0 hc]; rfl)
theorem ev1_ok {all : Array Oper} {S : St} {o : Oper} {its : List (It P)} {out : Out P} (hfr : S.fresh) (h : ev1 P all S o its = some out) (hk : ∀ p ∈ out.ks, p.1 = p.2) :
    StepOk P all S o out.v out.eff (cond (isShape o.op) [] out.tch) (cond (isShape o.op) out.tch []) ∧ EffOk S out.eff out.tch out.N ∧ ∀ p ∈ out.eff, p.1 ∈ cond (isShape o.op) [] out.tch := by
 unfold ev1 at h
 split at h
 ·rename_i hd hg
  obtain ⟨h1, h2⟩ := evOp_ok hd hfr h hk
  cases hs : isShape o.op with
  | false =>
   refine ⟨?_, h2, fun p hp => (h2.1 p hp).1⟩
   intro G F E r a w Q K i hi hm hnt hz hF hE _ hK
   unfold wpOp
   simp only [hi]
   rw [guard_ok hg hz hF, if_pos rfl]
   exact .inl (h1 G F E r a w Q K hm hnt hz (fun t ht => hF t (List.mem_append_left _ (List.mem_filterMap.2 ⟨_, by simpa using ht, rfl⟩))) hE hK)
  | true =>
   obtain ⟨g1, g2⟩ := shOp_ok hd hs h hk
   refine ⟨?_, h2, fun p hp => by rw [g1] at hp; cases hp⟩
   intro G F E r a w Q K i hi hm hnt hz hF _ hE hK
   unfold wpOp
   simp only [hi]
   rw [guard_ok hg hz hF, if_pos rfl]
   rw [g1] at hK
   exact .inl (g2 G F E r a w Q K hm hnt hz (fun t ht => hF t (List.mem_append_left _ (List.mem_filterMap.2 ⟨_, by simpa using ht, rfl⟩))) hE hK)
 ·rename_i hd hg
  simp only [Option.some.injEq] at h
  subst h
  refine ⟨?_, EffOk.none, fun p hp => by cases hp⟩
  intro G F E r a w Q K i hi hm hnt hz hF hE _ hK
  unfold wpOp
  simp only [hi]
  rw [guard_ok hg hz hF, if_neg (by simp)]
  exact hK r _ _ (hz.put (v := undef) rfl (fun k hk => (by cases hk)) (by rw [hnt]; exact dst_lt hd))
 ·cases h
theorem fresh_put {S : St} {dst : Option Tmp} {v : Value} {eff : List (Nat × Ent)} {tch : List Nat} {N : Nat} (hfr : S.fresh) (h : EffOk S eff tch N) : (S.put dst v eff N).fresh := by
 intro k hk
 rw [put_E, updE_last]
 have hk : N ≤ k := hk
 cases hl : lastE eff k with
 | none => exact hfr k (Nat.le_trans h.2 hk)
 | some e =>
  have := lastE_mem eff k (by rw [hl]; simp)
  obtain ⟨p, hp, rfl⟩ := List.mem_map.1 this
  have := (h.1 p hp).2
  omega
def wrF (rs : List Rec) (i t : Nat) : Option Value := (rs[i]?).bind fun q => if q.dst = some t then some q.v else none
def wrE (rs : List Rec) (i k : Nat) : Option Ent := (rs[i]?).bind fun q => lastE q.eff k
theorem stN_cons {α : Type} (wr : Nat → Nat → Option α) (init : Nat → α) (l : Nat) : ∀ m, stN wr init (m + 1) (fun _ => true) l = stN (fun i => wr (i + 1)) (fun l => (wr 0 l).getD (init l)) m (fun _ => true) l
 | 0 => by
  simp only [stN]
  cases wr 0 l <;> rfl
 | m + 1 => by
  rw [stN]
  conv => rhs; rw [stN]
  rw [stN_cons wr init l m]
theorem updF_get (F : Nat → Value) (q : Rec) (t : Nat) (rs : List Rec) : updF F q.dst q.v t = (wrF (q :: rs) 0 t).getD (F t) := by
 unfold updF wrF
 simp only [List.getElem?_cons_zero, Option.bind_some]
 split <;> rfl
theorem updE_get (E : Nat → Ent) (q : Rec) (k : Nat) (rs : List Rec) : updE E q.eff k = (wrE (q :: rs) 0 k).getD (E k) := updE_last ..
theorem evOps_ok {all : Array Oper} : ∀ (l : List Oper) (S S' : St) (its its' : List (It P)) (rs : List Rec) (ks : List (Key × Key)), evOps P all l S its = some (S', its', rs, ks) → (∀ p ∈ ks, p.1 = p.2) → S.fresh →
    S'.fresh ∧ S'.nt = S.nt ∧ S'.lo = S.lo ∧ S'.F = (fun t => stN (wrF rs) S.F l.length (fun _ => true) t) ∧ S'.E = (fun k => stN (wrE rs) S.E l.length (fun _ => true) k) ∧ rs.length = l.length ∧
    ∀ (i : Nat) (o : Oper), l[i]? = some o → ∃ q Si, rs[i]? = some q ∧ q.dst = o.dst ∧ q.rd = o.looksAt all ∧ (∀ p ∈ q.eff, p.1 ∈ q.tch) ∧ Si.nt = S.nt ∧ Si.lo = S.lo ∧ Si.F = (fun t => stN (wrF rs) S.F i (fun _ => true) t) ∧ Si.E = (fun k => stN (wrE rs) S.E i (fun _ => true) k) ∧ StepOk P all Si o q.v q.eff q.tch q.sh
 | [], S, S', its, its', rs, ks, h, hk, hfr => by
  simp only [evOps, Option.some.injEq, Prod.mk.injEq] at h
  obtain ⟨rfl, rfl, rfl, rfl⟩ := h
  exact ⟨hfr, rfl, rfl, rfl, rfl, rfl, fun i o hi => by simp at hi⟩
 | o :: l, S, S', its, its', rs, ks, h, hk, hfr => by
  unfold evOps at h
  split at h
  ·rename_i v eff tch N its1 ks1 h1
   split at h
   ·rename_i S2 its2 rs2 ks2 h2
    simp only [Option.some.injEq, Prod.mk.injEq] at h
    obtain ⟨rfl, rfl, rfl, rfl⟩ := h
    obtain ⟨a1, a2, a3⟩ := ev1_ok hfr h1 fun p hp => hk p (List.mem_append_left _ hp)
    dsimp only at a1 a2 a3
    obtain ⟨b1, b2, b3, b4, b5, b6, b7⟩ := evOps_ok l _ _ _ _ _ _ h2 (fun p hp => hk p (List.mem_append_right _ hp)) (fresh_put hfr a2)
    have eF : ∀ m t, stN (wrF (⟨o.dst, v, eff, o.looksAt all, cond (isShape o.op) [] tch, cond (isShape o.op) tch []⟩ :: rs2)) S.F (m + 1) (fun _ => true) t = stN (wrF rs2) (S.put o.dst v eff N).F m (fun _ => true) t := fun m t => by
     rw [stN_cons]
     congr 1
     funext u
     rw [put_F]
     exact (updF_get S.F ⟨o.dst, v, eff, o.looksAt all, cond (isShape o.op) [] tch, cond (isShape o.op) tch []⟩ u rs2).symm
    have eE : ∀ m k, stN (wrE (⟨o.dst, v, eff, o.looksAt all, cond (isShape o.op) [] tch, cond (isShape o.op) tch []⟩ :: rs2)) S.E (m + 1) (fun _ => true) k = stN (wrE rs2) (S.put o.dst v eff N).E m (fun _ => true) k := fun m k => by
     rw [stN_cons]
     congr 1
     funext u
     rw [put_E]
     exact (updE_get S.E ⟨o.dst, v, eff, o.looksAt all, cond (isShape o.op) [] tch, cond (isShape o.op) tch []⟩ u rs2).symm
    refine ⟨b1, b2, b3, ?_, ?_, by simp [b6], fun i o' hi => ?_⟩
    ·rw [b4]; funext t; rw [List.length_cons, eF]
    ·rw [b5]; funext k; rw [List.length_cons, eE]
    ·cases i with
     | zero =>
      simp only [List.getElem?_cons_zero, Option.some.injEq] at hi
      subst hi
      exact ⟨_, S, rfl, rfl, rfl, a3, rfl, rfl, rfl, rfl, a1⟩
     | succ i =>
      simp only [List.getElem?_cons_succ] at hi
      obtain ⟨q, Si, c1, c2, c3, c4, c5, c6, c7, c8, c9⟩ := b7 i o' hi
      refine ⟨q, Si, by simpa using c1, c2, c3, c4, c5, c6, ?_, ?_, c9⟩
      ·rw [c7]; funext t; rw [eF]
      ·rw [c8]; funext k; rw [eE]
   ·cases h
  ·cases h
theorem wpOps_seq {all : Array Oper} {S : St} {rs : List Rec} {G : Ctx P} {Q : Exit → Act → World → Prop} (hm : G.rows.length = S.lo) (hnt : G.nt = S.nt)
    (hs : ∀ (i : Nat) (o : Oper), all.toList[i]? = some o → ∃ q Si, rs[i]? = some q ∧ q.dst = o.dst ∧ q.rd = o.looksAt all ∧ (∀ p ∈ q.eff, p.1 ∈ q.tch) ∧ Si.nt = S.nt ∧ Si.lo = S.lo ∧ Si.F = (fun t => stN (wrF rs) S.F i (fun _ => true) t) ∧ Si.E = (fun k => stN (wrE rs) S.E i (fun _ => true) k) ∧ StepOk P all Si o q.v q.eff q.tch q.sh)
    (hQ : ∀ r a w, Rz G (fun t => stN (wrF rs) S.F all.size (fun _ => true) t) (fun k => stN (wrE rs) S.E all.size (fun _ => true) k) r a w → Q .normal a w) :
    ∀ (n i : Nat) (r : Nat → Value) (a : Act) (w : World), i + n = all.size → Rz G (fun t => stN (wrF rs) S.F i (fun _ => true) t) (fun k => stN (wrE rs) S.E i (fun _ => true) k) r a w → wpOps P all Q (List.range' i n) a w
 | 0, i, r, a, w, hi, hz => by
  obtain rfl : i = all.size := by omega
  exact hQ r a w hz
 | n + 1, i, r, a, w, hi, hz => by
  rw [List.range'_succ, wpOps_cons]
  have hlt : i < all.toList.length := by simp; omega
  have ho : all.toList[i]? = some all.toList[i] := List.getElem?_eq_getElem hlt
  obtain ⟨q, Si, c1, c2, c3, c4, c5, c6, c7, c8, c9⟩ := hs i _ ho
  refine c9 G _ _ r a w Q _ i (by simp) (by rw [c6]; exact hm) (by rw [c5]; exact hnt) hz (fun t _ => by rw [c7]) (fun k _ => by rw [c8]) (fun k _ => by rw [c8]) fun r' a' w' hz' => ?_
  refine wpOps_seq hm hnt hs hQ n (i + 1) r' a' w' (by omega) ?_
  have e1 : updF (fun t => stN (wrF rs) S.F i (fun _ => true) t) (all.toList[i]).dst q.v = fun t => stN (wrF rs) S.F (i + 1) (fun _ => true) t := by
   funext t
   simp only [stN]
   rw [← c2]
   unfold updF
   have e : wrF rs i t = if q.dst = some t then some q.v else none := by unfold wrF; rw [c1]; rfl
   rw [e]
   by_cases h : q.dst = some t
   ·rw [if_pos h, if_pos h]
   ·rw [if_neg h, if_neg h]
  have e2 : updE (fun k => stN (wrE rs) S.E i (fun _ => true) k) q.eff = fun k => stN (wrE rs) S.E (i + 1) (fun _ => true) k := by
   funext k
   rw [updE_last]
   simp only [stN]
   have e : wrE rs i k = lastE q.eff k := by unfold wrE; rw [c1]; rfl
   rw [e]
   cases lastE q.eff k <;> rfl
  rw [e1, e2] at hz'
  exact hz'
end
end Go.Sy
namespace Go.Sy
open Go Go.RowKit
theorem msk_mem : ∀ (l : List Nat) (t : Nat), Nat.testBit (msk l) t = true ↔ t ∈ l
 | [], t => by simp [msk]
 | k :: l, t => by
  have ih := msk_mem l t
  show Nat.testBit (msk l ||| 2 ^ k) t = true ↔ _
  rw [Nat.testBit_or, Bool.or_eq_true, ih, Nat.testBit_two_pow, List.mem_cons, decide_eq_true_eq]
  constructor
  ·rintro (h | h)
   ·exact .inr h
   ·exact .inl h.symm
  ·rintro (h | h)
   ·exact .inr h.symm
   ·exact .inl h
theorem clash_bit {a b : Msk} {t : Nat} (h : Nat.testBit ((a.d &&& (b.r ||| b.d)) ||| (b.d &&& a.r) ||| (a.w &&& (b.t ||| b.w)) ||| (b.w &&& a.t)) t = true) : clash a b = true := by
 unfold clash
 cases hb : Nat.beq ((a.d &&& (b.r ||| b.d)) ||| (b.d &&& a.r) ||| (a.w &&& (b.t ||| b.w)) ||| (b.w &&& a.t)) 0 with
 | false => rfl
 | true =>
  rw [Nat.eq_of_beq_eq_true hb] at h
  simp at h
section
variable {S : St} {rs : List Rec} {q1 q2 : Rec} {t k : Nat}
theorem clash_dr (h1 : q1.dst = some t) (h2 : t ∈ q2.rd) : clash (q1.msk S rs) (q2.msk S rs) = true := by
 refine clash_bit (t := t) ?_
 simp only [Nat.testBit_or, Nat.testBit_and, Rec.msk]
 rw [(msk_mem q1.dst.toList t).2 (by rw [h1]; exact List.mem_singleton.2 rfl), (msk_mem q2.rd t).2 h2]
 simp
theorem clash_dd (h1 : q1.dst = some t) (h2 : q2.dst = some t) : clash (q1.msk S rs) (q2.msk S rs) = true := by
 refine clash_bit (t := t) ?_
 simp only [Nat.testBit_or, Nat.testBit_and, Rec.msk]
 rw [(msk_mem q1.dst.toList t).2 (by rw [h1]; exact List.mem_singleton.2 rfl), (msk_mem q2.dst.toList t).2 (by rw [h2]; exact List.mem_singleton.2 rfl)]
 simp
theorem clash_rd (h1 : t ∈ q1.rd) (h2 : q2.dst = some t) : clash (q1.msk S rs) (q2.msk S rs) = true := by
 refine clash_bit (t := t) ?_
 simp only [Nat.testBit_or, Nat.testBit_and, Rec.msk]
 rw [(msk_mem q1.rd t).2 h1, (msk_mem q2.dst.toList t).2 (by rw [h2]; exact List.mem_singleton.2 rfl)]
 simp
theorem clash_wt (h1 : k ∈ q1.eff.map (·.1)) (h2 : k ∈ q2.tch ++ q2.sh.filter fun k => !(stableB S rs k)) : clash (q1.msk S rs) (q2.msk S rs) = true := by
 refine clash_bit (t := k) ?_
 simp only [Nat.testBit_or, Nat.testBit_and, Rec.msk]
 rw [(msk_mem (q1.eff.map (·.1)) k).2 h1, (msk_mem (q2.tch ++ q2.sh.filter fun k => !(stableB S rs k)) k).2 h2]
 simp
theorem clash_ww (h1 : k ∈ q1.eff.map (·.1)) (h2 : k ∈ q2.eff.map (·.1)) : clash (q1.msk S rs) (q2.msk S rs) = true := by
 refine clash_bit (t := k) ?_
 simp only [Nat.testBit_or, Nat.testBit_and, Rec.msk]
 rw [(msk_mem (q1.eff.map (·.1)) k).2 h1, (msk_mem (q2.eff.map (·.1)) k).2 h2]
 simp
theorem clash_tw (h1 : k ∈ q1.tch ++ q1.sh.filter fun k => !(stableB S rs k)) (h2 : k ∈ q2.eff.map (·.1)) : clash (q1.msk S rs) (q2.msk S rs) = true := by
 refine clash_bit (t := k) ?_
 simp only [Nat.testBit_or, Nat.testBit_and, Rec.msk]
 rw [(msk_mem (q1.tch ++ q1.sh.filter fun k => !(stableB S rs k)) k).2 h1, (msk_mem (q2.eff.map (·.1)) k).2 h2]
 simp
end
theorem okRow_get {bef : Nat} {b : Msk} : ∀ (l : List Msk) (i : Nat), okRow bef b l i = true → ∀ (j : Nat) (x : Msk), l[j]? = some x → clash x b = true → Nat.testBit bef (i + j) = true
 | [], i, _, j, x, hj, _ => by simp at hj
 | a :: l, i, h, j, x, hj, hc => by
  unfold okRow at h
  split at h
  ·cases h
  ·rename_i hno
   cases j with
   | zero =>
    simp only [List.getElem?_cons_zero, Option.some.injEq] at hj
    subst hj
    cases hb : Nat.testBit bef i with
    | true => rfl
    | false => exact (hno hc hb).elim
   | succ j =>
    simp only [List.getElem?_cons_succ] at hj
    have := okRow_get l (i + 1) h j x hj hc
    rw [show i + (j + 1) = i + 1 + j by omega]; exact this
theorem okAll_get {bs : List Nat} {ms : List Msk} : ∀ (l : List Msk) (j : Nat), okAll bs ms l j = true → ∀ (m : Nat) (b : Msk), l[m]? = some b → ∀ (i : Nat) (a : Msk), i < j + m → ms[i]? = some a → clash a b = true → Nat.testBit (bs.getD (j + m) 0) i = true
 | [], j, _, m, b, hm, _, _, _, _, _ => by simp at hm
 | x :: l, j, h, m, b, hm, i, a, hi, ha, hc => by
  unfold okAll at h
  split at h
  ·rename_i hr
   cases m with
   | zero =>
    simp only [List.getElem?_cons_zero, Option.some.injEq] at hm
    subst hm
    have := okRow_get _ 0 hr i a (by rw [List.getElem?_take_of_lt (by omega)]; exact ha) hc
    rw [Nat.zero_add] at this
    exact this
   | succ m =>
    simp only [List.getElem?_cons_succ] at hm
    have := okAll_get l (j + 1) h m b hm i a (by omega) ha hc
    rw [show j + (m + 1) = j + 1 + m by omega]; exact this
  ·cases h
def Closed (ops : List Oper) (E : Nat → Bool) : Prop := ∀ (j : Nat) (o : Oper), ops[j]? = some o → E j = true → ∀ e ∈ o.after, Region.binds .any e = true → E e.on = true
def stepB (acc : List Nat) (o : Oper) : List Nat :=
 acc ++ [o.after.toList.foldr (fun e s => match Region.binds .any e with
  | true => s ||| (2 ^ e.on ||| acc.getD e.on 0)
  | false => s) 0]
theorem befs_eq (ops : List Oper) : befs ops = ops.foldl stepB [] := rfl
theorem stepB_bit (acc : List Nat) (m : Nat) : ∀ (l : List Edge), Nat.testBit (l.foldr (fun e s => match Region.binds .any e with
    | true => s ||| (2 ^ e.on ||| acc.getD e.on 0)
    | false => s) 0) m = true → ∃ e ∈ l, Region.binds .any e = true ∧ (m = e.on ∨ Nat.testBit (acc.getD e.on 0) m = true)
 | [], h => by simp at h
 | e :: l, h => by
  rw [List.foldr_cons] at h
  split at h
  ·rename_i hb
   rw [Nat.testBit_or, Bool.or_eq_true] at h
   rcases h with h | h
   ·obtain ⟨e', h1, h2⟩ := stepB_bit acc m l h
    exact ⟨e', List.mem_cons_of_mem _ h1, h2⟩
   ·rw [Nat.testBit_or, Bool.or_eq_true, Nat.testBit_two_pow, decide_eq_true_eq] at h
    exact ⟨e, List.mem_cons_self .., hb, h.imp Eq.symm id⟩
  ·obtain ⟨e', h1, h2⟩ := stepB_bit acc m l h
   exact ⟨e', List.mem_cons_of_mem _ h1, h2⟩
theorem befs_ok (ops : List Oper) (E : Nat → Bool) (hE : Closed ops E) : ∀ (j : Nat) (o : Oper), ops[j]? = some o → ∀ m, Nat.testBit ((befs ops).getD j 0) m = true → (∀ e ∈ o.after, Region.binds .any e = true → E e.on = true) → E m = true := by
 have key : ∀ (l pre : List Oper) (acc : List Nat), ops = pre ++ l → acc.length = pre.length →
     (∀ (j : Nat) (o : Oper), ops[j]? = some o → j < acc.length → ∀ m, Nat.testBit (acc.getD j 0) m = true → (∀ e ∈ o.after, Region.binds .any e = true → E e.on = true) → E m = true) →
     ∀ (j : Nat) (o : Oper), ops[j]? = some o → ∀ m, Nat.testBit ((l.foldl stepB acc).getD j 0) m = true → (∀ e ∈ o.after, Region.binds .any e = true → E e.on = true) → E m = true := by
  intro l
  induction l with
  | nil =>
   intro pre acc he hl h j o hj m hm hd
   refine h j o hj ?_ m hm hd
   have := (List.getElem?_eq_some_iff.1 hj).1
   rw [he, List.append_nil] at this
   omega
  | cons o l ih =>
   intro pre acc he hl h
   refine ih (pre ++ [o]) (stepB acc o) (by rw [he, List.append_assoc]; rfl) (by simp [stepB, hl]) ?_
   intro j o' hj hjl m hm hd
   unfold stepB at hjl hm
   rw [List.length_append, List.length_singleton] at hjl
   by_cases hlt : j < acc.length
   ·refine h j o' hj hlt m ?_ hd
    rw [List.getD_eq_getElem?_getD, List.getElem?_append_left hlt] at hm
    rw [List.getD_eq_getElem?_getD]; exact hm
   ·obtain rfl : j = acc.length := by omega
    rw [List.getD_eq_getElem?_getD, List.getElem?_append_right (Nat.le_refl _), Nat.sub_self] at hm
    simp only [List.getElem?_cons_zero, Option.getD_some] at hm
    have e1 : o' = o := by
     rw [he, hl, List.getElem?_append_right (Nat.le_refl _), Nat.sub_self] at hj
     simpa using hj.symm
    subst e1
    obtain ⟨e, h1, h2, h3⟩ := stepB_bit acc m _ hm
    have h1' : e ∈ o'.after := by simpa using h1
    rcases h3 with rfl | h3
    ·exact hd e h1' h2
    ·have hon : e.on < acc.length := by
       apply Decidable.byContradiction
       intro hno
       rw [List.getD_eq_getElem?_getD, List.getElem?_eq_none (by omega)] at h3
       simp at h3
     have hops : e.on < ops.length := by
      rw [he, List.length_append]; omega
     exact h e.on ops[e.on] (List.getElem?_eq_getElem hops) hon m h3 fun e' he' hb' => hE e.on _ (List.getElem?_eq_getElem hops) (hd e h1' h2) e' he' hb'
 rw [befs_eq]
 exact key ops [] [] rfl rfl fun j o _ h => by cases h
section
variable {P : Program}
theorem lastE_in : ∀ (eff : List (Nat × Ent)) (k : Nat) (e : Ent), lastE eff k = some e → (k, e) ∈ eff
 | [], k, e, h => by cases h
 | p :: eff, k, e, h => by
  rw [lastE_cons] at h
  cases hl : lastE eff k with
  | some e' =>
   rw [hl] at h
   simp only [Option.some_or, Option.some.injEq] at h
   subst h
   exact List.mem_cons_of_mem _ (lastE_in eff k e' hl)
  | none =>
   rw [hl] at h
   simp only [Option.none_or] at h
   split at h
   ·rename_i hp
    simp only [Option.some.injEq] at h
    subst h; subst hp
    exact List.mem_cons_self ..
   ·cases h
theorem shpB_eq {e e' : Ent} (h : shpB e e' = true) : shp e = shp e' := by
 unfold shpB at h
 rw [Bool.and_eq_true, Bool.and_eq_true] at h
 obtain ⟨h1, h2, h3⟩ := h
 unfold shp
 rw [Nat.eq_of_beq_eq_true h1, Nat.eq_of_beq_eq_true h2]
 split at h3
 ·rename_i a b; rw [a, b]
 ·rename_i a b; rw [a, b]
 ·cases h3
theorem stN_shp {S : St} {rs : List Rec} {k : Nat} (h : stableB S rs k = true) {done : Nat → Bool} : ∀ {n : Nat}, shp (stN (wrE rs) S.E n done k) = shp (S.E k)
 | 0 => rfl
 | n + 1 => by
  simp only [stN]
  split
  ·rename_i e _ hw
   unfold wrE at hw
   cases hq : rs[n]? with
   | none => rw [hq] at hw; cases hw
   | some q =>
    rw [hq] at hw
    have hin := lastE_in _ _ _ (by simpa using hw)
    unfold stableB at h
    rw [List.all_eq_true] at h
    have h1 := h q (List.mem_of_getElem? hq)
    rw [List.all_eq_true] at h1
    have h2 := h1 _ hin
    rw [Bool.or_eq_true] at h2
    rcases h2 with h2 | h2
    ·simp at h2
    ·exact shpB_eq h2
  ·exact stN_shp h
theorem reg_any {all : Array Oper} {S : St} {rs : List Rec} {G : Ctx P} {Q : Exit → Act → World → Prop} {id : Nat} (hf : P.follows .mixedOrders = true) (hok : okDraw all S rs = true) (hm : G.rows.length = S.lo) (hnt : G.nt = S.nt) (hlen : rs.length = all.toList.length)
    (hs : ∀ (i : Nat) (o : Oper), all.toList[i]? = some o → ∃ q Si, rs[i]? = some q ∧ q.dst = o.dst ∧ q.rd = o.looksAt all ∧ (∀ p ∈ q.eff, p.1 ∈ q.tch) ∧ Si.nt = S.nt ∧ Si.lo = S.lo ∧ Si.F = (fun t => stN (wrF rs) S.F i (fun _ => true) t) ∧ Si.E = (fun k => stN (wrE rs) S.E i (fun _ => true) k) ∧ StepOk P all Si o q.v q.eff q.tch q.sh)
    {r : Nat → Value} {a : Act} {w : World} (hz : Rz G S.F S.E r a w)
    (hQ : ∀ r a w, Rz G (fun t => stN (wrF rs) S.F all.size (fun _ => true) t) (fun k => stN (wrE rs) S.E all.size (fun _ => true) k) r a w → Q .normal a w) : (Code.region id all true).wp P Q a w := by
 unfold okDraw at hok
 rw [Bool.and_eq_true] at hok
 obtain ⟨hearly, hall⟩ := hok
 refine wp_region_any hf ?_
 have main := wpAny_inv (P := P) (ops := all) (md := .any) (n := all.size) (g := 0) (Q' := Q)
  (Inv := fun listed a w => ∃ r, Rz G (fun t => stN (wrF rs) S.F all.size (fun i => listed.getD i false) t) (fun k => stN (wrE rs) S.E all.size (fun i => listed.getD i false) k) r a w) (Nat.le_refl _) hearly
  (fun listed _ _ j hj => by
   obtain ⟨_, o, ho, _⟩ := mem_ready.1 hj
   exact (Array.getElem?_eq_some_iff.1 ho).1) ?_ ?_ all.size (Array.replicate all.size false) a { w with drawn := w.drawn + 1 } (unlisted_all _ _ (Nat.le_refl _))
  ⟨by simp, fun j oj _ hl => (by rw [getD_replicate_false] at hl; cases hl), fun t _ ht => getD_in (by simpa using ht) (getD_replicate_false _ _)⟩ ?_
 ·exact main
 ·rintro i hi listed a w inv ⟨r, hz⟩ hr
  obtain ⟨hun, o, ho, hready⟩ := mem_ready.1 hr
  have hoL : all.toList[i]? = some o := by rw [Array.getElem?_toList]; exact ho
  obtain ⟨q, Si, c1, c2, c3, c4, c5, c6, c7, c8, c9⟩ := hs i o hoL
  have hcl : Closed all.toList (fun i => listed.getD i false) := fun j o' hj hE => inv.closed j o' (by rw [Array.getElem?_toList] at hj; exact hj) hE
  have hno : listed.getD i false = false := getD_both hun
  have hmi : (rs.map (Rec.msk S rs))[i]? = some (q.msk S rs) := by rw [List.getElem?_map, c1]; rfl
  have before : ∀ (m : Nat) (qm : Rec), rs[m]? = some qm → m < i → clash (qm.msk S rs) (q.msk S rs) = true → listed.getD m false = true := fun m qm hqm hmi' hc => by
   have := okAll_get _ 0 hall i (q.msk S rs) hmi m (qm.msk S rs) (by omega) (by rw [List.getElem?_map, hqm]; rfl) hc
   rw [Nat.zero_add] at this
   exact befs_ok all.toList _ hcl i o hoL m this fun e he hb => hready e he hb
  have behind : ∀ (m : Nat) (qm : Rec), rs[m]? = some qm → i < m → clash (q.msk S rs) (qm.msk S rs) = true → listed.getD m false = false := fun m qm hqm him hc => by
   have := okAll_get _ 0 hall m (qm.msk S rs) (by rw [List.getElem?_map, hqm]; rfl) i (q.msk S rs) (by omega) hmi hc
   rw [Nat.zero_add] at this
   cases hl : listed.getD m false with
   | false => rfl
   | true =>
    have hmlt : m < all.toList.length := by rw [← hlen]; exact (List.getElem?_eq_some_iff.1 hqm).1
    have hom : all.toList[m]? = some all.toList[m] := List.getElem?_eq_getElem hmlt
    have := befs_ok all.toList _ hcl m _ hom i this (hcl m _ hom hl)
    rw [this] at hno; cases hno
  have hisz : i < listed.size := by rw [inv.size]; exact hi
  have whole : ∀ k, k ∈ q.tch ++ q.sh.filter (fun k => !(stableB S rs k)) → stN (wrE rs) S.E all.size (fun i => listed.getD i false) k = Si.E k := fun k hk => by
   rw [c8]
   refine stN_seen _ _ _ _ _ _ (Nat.le_of_lt hi) (fun m hm' hw => ?_) (fun m him hmn hw => ?_)
   ·unfold wrE at hw
    cases hqm : rs[m]? with
    | none => rw [hqm] at hw; exact absurd rfl hw
    | some qm =>
     rw [hqm] at hw
     simp only [Option.bind_some] at hw
     exact before m qm hqm hm' (clash_wt (lastE_mem _ _ hw) hk)
   ·rcases Nat.lt_or_ge i m with h1 | h1
    ·unfold wrE at hw
     cases hqm : rs[m]? with
     | none => rw [hqm] at hw; exact absurd rfl hw
     | some qm =>
      rw [hqm] at hw
      simp only [Option.bind_some] at hw
      exact behind m qm hqm h1 (clash_tw hk (lastE_mem _ _ hw))
    ·obtain rfl : m = i := by omega
     exact hno
  refine c9 G _ _ r a w Q _ i ho (by rw [c6]; exact hm) (by rw [c5]; exact hnt) hz (fun t ht => ?_) (fun k hk => whole k (List.mem_append_left _ hk)) (fun k hk => ?_) fun r' a' w' hz' => ⟨r', ?_⟩
  ·rw [c7]
   refine stN_seen _ _ _ _ _ _ (Nat.le_of_lt hi) (fun m hm' hw => ?_) (fun m him hmn hw => ?_)
   ·unfold wrF at hw
    cases hqm : rs[m]? with
    | none => rw [hqm] at hw; exact absurd rfl hw
    | some qm =>
     rw [hqm] at hw
     simp only [Option.bind_some] at hw
     split at hw
     ·rename_i hd
      exact before m qm hqm hm' (clash_dr hd (by rw [c3]; exact ht))
     ·exact absurd rfl hw
   ·rcases Nat.lt_or_ge i m with h1 | h1
    ·unfold wrF at hw
     cases hqm : rs[m]? with
     | none => rw [hqm] at hw; exact absurd rfl hw
     | some qm =>
      rw [hqm] at hw
      simp only [Option.bind_some] at hw
      split at hw
      ·rename_i hd
       exact behind m qm hqm h1 (clash_rd (by rw [c3]; exact ht) hd)
      ·exact absurd rfl hw
    ·obtain rfl : m = i := by omega
     exact hno
  ·by_cases hst : stableB S rs k = true
   ·rw [c8]
    dsimp only
    rw [stN_shp hst, stN_shp hst]
   ·rw [whole k (List.mem_append_right _ (List.mem_filter.2 ⟨hk, by simp [hst]⟩))]
  ·have e1 : (fun t => stN (wrF rs) S.F all.size (fun j => (listed.setIfInBounds i true).getD j false) t) = updF (fun t => stN (wrF rs) S.F all.size (fun i => listed.getD i false) t) o.dst q.v := by
     funext t
     rw [stN_step (wrF rs) S.F (fun i => listed.getD i false) (fun j => (listed.setIfInBounds i true).getD j false) t all.size i hi (fun m hm' => getD_set_ne false (Ne.symm hm')) (by simp [hisz]) hno (fun hw m him hmn hwm => ?_)]
     ·unfold updF
      have e : wrF rs i t = if q.dst = some t then some q.v else none := by unfold wrF; rw [c1]; rfl
      rw [e, ← c2]
      by_cases h : q.dst = some t
      ·rw [if_pos h, if_pos h]; rfl
      ·rw [if_neg h, if_neg h]; rfl
     ·unfold wrF at hw hwm
      rw [c1] at hw
      simp only [Option.bind_some] at hw
      cases hqm : rs[m]? with
      | none => rw [hqm] at hwm; exact absurd rfl hwm
      | some qm =>
       rw [hqm] at hwm
       simp only [Option.bind_some] at hwm
       split at hw
       ·rename_i hd
        split at hwm
        ·rename_i hd'
         exact behind m qm hqm him (clash_dd hd hd')
        ·exact absurd rfl hwm
       ·exact absurd rfl hw
   have e2 : (fun k => stN (wrE rs) S.E all.size (fun j => (listed.setIfInBounds i true).getD j false) k) = updE (fun k => stN (wrE rs) S.E all.size (fun i => listed.getD i false) k) q.eff := by
    funext k
    rw [stN_step (wrE rs) S.E (fun i => listed.getD i false) (fun j => (listed.setIfInBounds i true).getD j false) k all.size i hi (fun m hm' => getD_set_ne false (Ne.symm hm')) (by simp [hisz]) hno (fun hw m him hmn hwm => ?_)]
    ·rw [updE_last]
     have e : wrE rs i k = lastE q.eff k := by unfold wrE; rw [c1]; rfl
     rw [e]
    ·unfold wrE at hw hwm
     rw [c1] at hw
     simp only [Option.bind_some] at hw
     cases hqm : rs[m]? with
     | none => rw [hqm] at hwm; exact absurd rfl hwm
     | some qm =>
      rw [hqm] at hwm
      simp only [Option.bind_some] at hwm
      exact behind m qm hqm him (clash_ww (lastE_mem _ _ hw) (lastE_mem _ _ hwm))
   show Rz G (fun t => stN (wrF rs) S.F all.size (fun j => (listed.setIfInBounds i true).getD j false) t) (fun k => stN (wrE rs) S.E all.size (fun j => (listed.setIfInBounds i true).getD j false) k) r' a' w'
   rw [e1, e2]
   exact hz'
 ·rintro a w ⟨r, hz⟩
  have eh : ∀ m, m < all.size → (Region.head all.size all.size).getD m false = true := fun m hm' => by rw [head_getD _ _ _ _ hm']; simpa using hm'
  refine ⟨?_, hQ r a w ?_⟩
  ·cases hr : Region.ready .any all (Region.head all.size all.size) with
   | nil => rfl
   | cons x xs =>
    have hx : x ∈ Region.ready .any all (Region.head all.size all.size) := by rw [hr]; exact List.mem_cons_self ..
    obtain ⟨h1, o, h2, _⟩ := mem_ready.1 hx
    have h3 := getD_both h1
    rw [eh x (Array.getElem?_eq_some_iff.1 h2).1] at h3
    cases h3
  ·have e1 : (fun t => stN (wrF rs) S.F all.size (fun i => (Region.head all.size all.size).getD i false) t) = fun t => stN (wrF rs) S.F all.size (fun _ => true) t := by
     funext t
     exact stN_agree _ _ _ _ _ _ fun m hm' _ => eh m hm'
   have e2 : (fun k => stN (wrE rs) S.E all.size (fun i => (Region.head all.size all.size).getD i false) k) = fun k => stN (wrE rs) S.E all.size (fun _ => true) k := by
    funext t
    exact stN_agree _ _ _ _ _ _ fun m hm' _ => eh m hm'
   rw [← e1, ← e2]
   exact hz
 ·refine ⟨r, ?_⟩
  have none : ∀ {α : Type} (wr : Nat → Nat → Option α) (init : Nat → α) (l n : Nat), stN wr init n (fun i => (Array.replicate all.size false).getD i false) l = init l := by
   intro α wr init l n
   induction n with
   | zero => rfl
   | succ n ih =>
    simp only [stN]
    rw [getD_replicate_false]
    exact ih
  have e1 : (fun t => stN (wrF rs) S.F all.size (fun i => (Array.replicate all.size false).getD i false) t) = S.F := by funext t; exact none ..
  have e2 : (fun k => stN (wrE rs) S.E all.size (fun i => (Array.replicate all.size false).getD i false) k) = S.E := by funext t; exact none ..
  show Rz G (fun t => stN (wrF rs) S.F all.size (fun i => (Array.replicate all.size false).getD i false) t) (fun k => stN (wrE rs) S.E all.size (fun i => (Array.replicate all.size false).getD i false) k) r a _
  rw [e1, e2]
  exact hz.later ⟨rfl, rfl, rfl, Nat.le_refl _, fun _ _ => rfl⟩
end
end Go.Sy
namespace Go.Sy
open Go Go.RowKit
section
variable {P : Program}
theorem reg_ok (hf : P.follows .mixedOrders = true) {id : Nat} {ops : Array Oper} {draw : Bool} {S S' : St} {its its' : List (It P)} {ks : List (Key × Key)} {e : Exit} (h : evReg P ops draw S its = some (e, S', its', ks)) (hk : ∀ p ∈ ks, p.1 = p.2) : CodeOk P (.region id ops draw) S e S' := by
 intro hfr
 unfold evReg at h
 split at h
 ·rename_i S1 its1 rs ks1 h1
  have main : (∀ p ∈ ks1, p.1 = p.2) → S1.fresh ∧ S1.nt = S.nt ∧ S1.lo = S.lo ∧ ∀ (G : Ctx P) (Q : Exit → Act → World → Prop) (r : Nat → Value) (a : Act) (w : World), (draw = true → okDraw ops S rs = true) → G.rows.length = S.lo → G.nt = S.nt → Rz G S.F S.E r a w →
      (∀ r' a' w', Rz G S1.F S1.E r' a' w' → Q .normal a' w') → (Code.region id ops draw).wp P Q a w := by
   intro hk
   obtain ⟨b1, b2, b3, b4, b5, b6, b7⟩ := evOps_ok _ _ _ _ _ _ _ h1 hk hfr
   refine ⟨b1, b2, b3, fun G Q r a w hd hm hnt hz hQ => ?_⟩
   have hQ' : ∀ r a w, Rz G (fun t => stN (wrF rs) S.F ops.size (fun _ => true) t) (fun k => stN (wrE rs) S.E ops.size (fun _ => true) k) r a w → Q .normal a w := fun r a w hz => hQ r a w (by rw [b4, b5]; exact hz)
   cases draw with
   | false =>
    refine wp_region ?_
    rw [List.range_eq_range']
    exact wpOps_seq hm hnt b7 hQ' ops.size 0 r a w (by omega) hz
   | true => exact reg_any hf (hd rfl) hm hnt b6 b7 hz hQ'
  split at h
  ·simp only [Option.some.injEq, Prod.mk.injEq] at h
   obtain ⟨rfl, rfl, rfl, rfl⟩ := h
   obtain ⟨m1, m2, m3, m4⟩ := main hk
   exact ⟨m1, m2, m3, fun G Q r a w => m4 G Q r a w (fun h => by cases h)⟩
  ·split at h
   ·rename_i hok
    simp only [Option.some.injEq, Prod.mk.injEq] at h
    obtain ⟨rfl, rfl, rfl, rfl⟩ := h
    obtain ⟨m1, m2, m3, m4⟩ := main hk
    exact ⟨m1, m2, m3, fun G Q r a w => m4 G Q r a w fun _ => hok⟩
   ·cases h
 ·cases h
theorem _root_.Go.Sy.CodeOk.seq {a b : Code} {S S' S'' : St} {e : Exit} (h1 : CodeOk P a S .normal S') (h2 : CodeOk P b S' e S'') : CodeOk P (.seq a b) S e S'' := by
 intro hfr
 obtain ⟨a1, a2, a3, a4⟩ := h1 hfr
 obtain ⟨b1, b2, b3, b4⟩ := h2 a1
 refine ⟨b1, b2.trans a2, b3.trans a3, fun G Q r x w hm hnt hz hQ => wp_seq ?_⟩
 exact a4 G _ r x w hm hnt hz fun r' x' w' hz' => b4 G Q r' x' w' (by rw [a3]; exact hm) (by rw [a2]; exact hnt) hz' hQ
theorem then_out {e : Exit} {K : Act → World → Prop} {Q : Exit → Act → World → Prop} {a : Act} {w : World} (he : e ≠ .normal) (h : Q e a w) : Exit.then K Q e a w := by
 cases e <;> first | exact absurd rfl he | exact h
theorem _root_.Go.Sy.CodeOk.seq_out {a b : Code} {S S' : St} {e : Exit} (he : e ≠ .normal) (h1 : CodeOk P a S e S') : CodeOk P (.seq a b) S e S' := by
 intro hfr
 obtain ⟨a1, a2, a3, a4⟩ := h1 hfr
 exact ⟨a1, a2, a3, fun G Q r x w hm hnt hz hQ => wp_seq (a4 G _ r x w hm hnt hz fun r' x' w' hz' => then_out he (hQ r' x' w' hz'))⟩
def RoundsOk (P : Program) (c : Code) (S : St) (e : Exit) (S' : St) : Prop :=
 S.fresh → S'.fresh ∧ S'.nt = S.nt ∧ S'.lo = S.lo ∧ ∃ m, ∀ (G : Ctx P) (Q : Exit → Act → World → Prop) (r : Nat → Value) (a : Act) (w : World), G.rows.length = S.lo → G.nt = S.nt → Rz G S.F S.E r a w →
  (∀ r' a' w', Rz G S'.F S'.E r' a' w' → Q e a' w') → Code.rounds P c Q m a w
theorem RoundsOk.loop {c : Code} {S S' : St} {e : Exit} (h : RoundsOk P c S e S') : CodeOk P (.loop c) S e S' := by
 intro hfr
 obtain ⟨a1, a2, a3, m, a4⟩ := h hfr
 exact ⟨a1, a2, a3, fun G Q r a w hm hnt hz hQ => wp_loop_rounds m (a4 G Q r a w hm hnt hz hQ)⟩
theorem RoundsOk.more {c : Code} {S S' S'' : St} {e : Exit} (h1 : CodeOk P c S .normal S') (h2 : RoundsOk P c S' e S'') : RoundsOk P c S e S'' := by
 intro hfr
 obtain ⟨a1, a2, a3, a4⟩ := h1 hfr
 obtain ⟨b1, b2, b3, m, b4⟩ := h2 a1
 refine ⟨b1, b2.trans a2, b3.trans a3, m + 1, fun G Q r a w hm hnt hz hQ => ?_⟩
 rw [rounds_succ]
 exact a4 G _ r a w hm hnt hz fun r' a' w' hz' => b4 G Q r' a' w' (by rw [a3]; exact hm) (by rw [a2]; exact hnt) hz' hQ
theorem RoundsOk.out {c : Code} {S S' : St} {e : Exit} (he : e ≠ .normal) (h1 : CodeOk P c S e S') : RoundsOk P c S e S' := by
 intro hfr
 obtain ⟨a1, a2, a3, a4⟩ := h1 hfr
 refine ⟨a1, a2, a3, 1, fun G Q r a w hm hnt hz hQ => ?_⟩
 rw [rounds_succ]
 exact a4 G _ r a w hm hnt hz fun r' a' w' hz' => then_out he (hQ r' a' w' hz')
theorem rounds_ok {c : Code} {ev : St → List (It P) → Option (Exit × St × List (It P) × List (Key × Key))} (hev : ∀ S its e S' its' ks, ev S its = some (e, S', its', ks) → (∀ p ∈ ks, p.1 = p.2) → CodeOk P c S e S') :
    ∀ (m : Nat) (S S' : St) (its its' : List (It P)) (ks : List (Key × Key)) (e : Exit), rounds P ev m S its = some (e, S', its', ks) → (∀ p ∈ ks, p.1 = p.2) → RoundsOk P c S e S'
 | 0, S, S', its, its', ks, e, h, _ => by simp [rounds] at h
 | m + 1, S, S', its, its', ks, e, h, hk => by
  unfold rounds at h
  split at h
  ·rename_i e1 S1 its1 ks1 h1
   split at h
   ·split at h
    ·rename_i e2 S2 its2 ks2 h2
     simp only [Option.some.injEq, Prod.mk.injEq] at h
     obtain ⟨rfl, rfl, rfl, rfl⟩ := h
     exact .more (hev _ _ _ _ _ _ h1 fun p hp => hk p (List.mem_append_left _ hp)) (rounds_ok hev m _ _ _ _ _ _ h2 fun p hp => hk p (List.mem_append_right _ hp))
    ·cases h
   ·rename_i he
    simp only [Option.some.injEq, Prod.mk.injEq] at h
    obtain ⟨rfl, rfl, rfl, rfl⟩ := h
    exact .out he (hev _ _ _ _ _ _ h1 hk)
  ·cases h
theorem blt_of {a b : Nat} (h : Nat.blt a b = true) : a < b := by simpa [Nat.blt_eq] using h
theorem has_mem : ∀ (l : List Nat) (k : Nat), has k l = true → k ∈ l
 | x :: l, k, h => by
  unfold has at h
  split at h
  ·rename_i hb; rw [Nat.eq_of_beq_eq_true hb]; exact List.mem_cons_self ..
  ·exact List.mem_cons_of_mem _ (has_mem l k h)
theorem mem_has : ∀ (l : List Nat) (k : Nat), k ∈ l → has k l = true
 | x :: l, k, h => by
  unfold has
  split
  ·rfl
  ·rename_i hb
   rcases List.mem_cons.1 h with e | h
   ·rw [e, beq_refl'] at hb; cases hb
   ·exact mem_has l k h
theorem alone_get : ∀ (l : List (Nat × Nat)) (f : Nat × Nat → Nat), alone (l.map f) = true → ∀ p ∈ l, ∀ q ∈ l, f p = f q → p = q
 | x :: l, f, h, p, hp, q, hq, e => by
  rw [List.map_cons] at h
  unfold alone at h
  split at h
  ·cases h
  ·rename_i hno
   have key : ∀ y ∈ l, f y ≠ f x := fun y hy e => by
    rw [mem_has _ _ (List.mem_map.2 ⟨y, hy, e⟩)] at hno; cases hno
   rcases List.mem_cons.1 hp with e1 | hp2
   ·rcases List.mem_cons.1 hq with e2 | hq2
    ·rw [e1, e2]
    ·exact absurd (by rw [← e, e1]) (key q hq2)
   ·rcases List.mem_cons.1 hq with e2 | hq2
    ·exact absurd (by rw [e, e2]) (key p hp2)
    ·exact alone_get l f h p hp2 q hq2 e
theorem ren_mem : ∀ (src : List (Nat × Nat)) (k : Nat), k ∈ src.map (·.2) → (ren src k, k) ∈ src
 | p :: l, k, h => by
  unfold ren
  split
  ·rename_i hb
   have e := Nat.eq_of_beq_eq_true hb
   subst e; exact List.mem_cons_self ..
  ·rename_i hb
   rw [List.map_cons] at h
   rcases List.mem_cons.1 h with e | h
   ·rw [e, beq_refl'] at hb; cases hb
   ·exact List.mem_cons_of_mem _ (ren_mem l k h)
theorem look_map {α : Type} (d : α) (f : Nat × Nat → α) : ∀ (l : List (Nat × Nat)) (t : Nat), (∃ p ∈ l, p.1 = t ∧ look d t (l.map fun p => (p.1, f p)) = f p) ∨ ((∀ p ∈ l, p.1 ≠ t) ∧ look d t (l.map fun p => (p.1, f p)) = d)
 | [], t => .inr ⟨fun p hp => (by cases hp), rfl⟩
 | p :: l, t => by
  rw [List.map_cons, look_cons]
  by_cases h : t = p.1
  ·exact .inl ⟨p, List.mem_cons_self .., h.symm, if_pos h⟩
  ·rw [if_neg h]
   rcases look_map d f l t with ⟨q, h1, h2, h3⟩ | ⟨h1, h2⟩
   ·exact .inl ⟨q, List.mem_cons_of_mem _ h1, h2, h3⟩
   ·refine .inr ⟨fun q hq => ?_, h2⟩
    rcases List.mem_cons.1 hq with rfl | hq
    ·exact Ne.symm h
    ·exact h1 q hq
theorem look_mapF (d : Value) (f : Nat → Value) : ∀ (l : List (Nat × Value)) (t : Nat), look d t (l.map fun p => (p.1, f p.1)) = f t ∧ t ∈ l.map (·.1) ∨ look d t (l.map fun p => (p.1, f p.1)) = d
 | [], t => .inr rfl
 | p :: l, t => by
  rw [List.map_cons, look_cons]
  by_cases h : t = p.1
  ·rw [if_pos h, h]; exact .inl ⟨rfl, List.mem_cons_self ..⟩
  ·rw [if_neg h]
   exact (look_mapF d f l t).imp (fun h => ⟨h.1, List.mem_cons_of_mem _ h.2⟩) id
section
variable {src : List (Nat × Nat)} {r r' : Nat → Value}
theorem ren1_den : ∀ {v : Value}, (∀ k ∈ ref1 v, r' (ren src k) = r k) → den1 r' (ren1 src v) = den1 r v
 | .pointer (some ⟨k, off, some 0⟩), h => by simp only [den1, ren1]; rw [h k (List.mem_singleton.2 rfl)]
 | .pointer (some ⟨k, off, some (_ + 1)⟩), h => by simp only [den1, ren1]; rw [h k (List.mem_singleton.2 rfl)]
 | .slice (some ⟨k, off, some 0⟩) n c, h => by simp only [den1, ren1]; rw [h k (List.mem_singleton.2 rfl)]
 | .slice (some ⟨k, off, some (_ + 1)⟩) n c, h => by simp only [den1, ren1]; rw [h k (List.mem_singleton.2 rfl)]
 | .pointer (some ⟨k, off, none⟩), _ => rfl
 | .pointer none, _ => rfl
 | .slice (some ⟨k, off, none⟩) n c, _ => rfl
 | .slice none n c, _ => rfl
 | .bool _, _ => rfl
 | .int _ _, _ => rfl
 | .float _ _, _ => rfl
 | .complex _ _ _, _ => rfl
 | .string _, _ => rfl
 | .map _, _ => rfl
 | .chan _, _ => rfl
 | .func _ _ _, _ => rfl
 | .nilFunc, _ => rfl
 | .iface _ _, _ => rfl
 | .nilIface, _ => rfl
 | .agg _, _ => rfl
 | .tuple _, _ => rfl
theorem ren1_ref : ∀ (v : Value), ref1 (ren1 src v) = (ref1 v).map (ren src) := by
 intro v
 unfold ren1
 split
 ·rfl
 ·rfl
 ·rename_i h1 h2
  have : ref1 v = [] := by
   unfold ref1
   split
   ·exact absurd rfl (h1 _ _ _)
   ·exact absurd rfl (h2 _ _ _ _ _)
   ·rfl
  rw [this]; rfl
theorem ren1_one : ∀ (v : Value), one (ren1 src v) = one v := by
 intro v
 unfold ren1
 split <;> rfl
theorem renD_den : ∀ (n : Nat) (v : Value), goodD n v = true → (∀ k ∈ refD n v, r' (ren src k) = r k) → denD r' n (renD src n v) = denD r n v
 | 0, v, _, h => ren1_den h
 | n + 1, v, hg, h => by
  by_cases ho : one v = true
  ·have e1 : renD src (n + 1) v = ren1 src v := by cases v <;> first | rfl | (simp [one] at ho; done)
   rw [e1, one_den (n + 1) (by rw [ren1_one]; exact ho), one_den (n + 1) ho]
   rw [one_ref (n + 1) ho] at h
   exact ren1_den h
  ·cases v <;> first
     | (simp [one] at ho; done)
     | (simp [goodD, one] at hg; done)
     | (rename_i cs
        simp only [goodD] at hg
        rw [List.all_eq_true] at hg
        simp only [denD, refD, renD, List.map_map] at h ⊢
        congr 2
        exact List.map_congr_left fun x hx => renD_den n x (hg x hx) fun k hk => h k (List.mem_flatMap.2 ⟨x, hx, hk⟩))
     | exact absurd hg ho
theorem renD_ref : ∀ (n : Nat) (v : Value), goodD n v = true → refD n (renD src n v) = (refD n v).map (ren src)
 | 0, v, _ => ren1_ref v
 | n + 1, v, hg => by
  by_cases ho : one v = true
  ·have e1 : renD src (n + 1) v = ren1 src v := by cases v <;> first | rfl | (simp [one] at ho; done)
   rw [e1, one_ref (n + 1) (by rw [ren1_one]; exact ho), one_ref (n + 1) ho, ren1_ref]
  ·cases v <;> first
     | (simp [one] at ho; done)
     | (simp [goodD, one] at hg; done)
     | (rename_i cs
        simp only [goodD] at hg
        rw [List.all_eq_true] at hg
        simp only [renD, refD]
        rw [List.flatMap_map, List.map_flatMap]
        have key : ∀ l : List Value, (∀ x ∈ l, goodD n x = true) → l.flatMap (fun x => refD n (renD src n x)) = l.flatMap fun x => (refD n x).map (ren src) := by
         intro l hl
         induction l with
         | nil => rfl
         | cons x l ih => rw [List.flatMap_cons, List.flatMap_cons, renD_ref n x (hl x (List.mem_cons_self ..)), ih fun y hy => hl y (List.mem_cons_of_mem _ hy)]
        exact key _ hg)
     | exact absurd hg ho
theorem renD_good : ∀ (n : Nat) (v : Value), goodD n v = true → goodD n (renD src n v) = true
 | 0, v, h => by show one (ren1 src v) = true; rw [ren1_one]; exact h
 | n + 1, v, hg => by
  by_cases ho : one v = true
  ·have e1 : renD src (n + 1) v = ren1 src v := by cases v <;> first | rfl | (simp [one] at ho; done)
   rw [e1]
   exact one_good (n + 1) (by rw [ren1_one]; exact ho)
  ·cases v <;> first
     | (simp [one] at ho; done)
     | (simp [goodD, one] at hg; done)
     | (rename_i cs
        simp only [goodD] at hg
        rw [List.all_eq_true] at hg
        simp only [renD, goodD]
        rw [List.all_eq_true]
        intro x hx
        obtain ⟨y, hy, rfl⟩ := List.mem_map.1 hx
        exact renD_good n y (hg y hy))
     | exact absurd hg ho
end
theorem keep_ok {S s s' : St} {src : List (Nat × Nat)} (h : S.keep s src = some s') : s'.fresh ∧ s'.nt = S.nt ∧ s'.lo = S.lo ∧ ∀ {G : Ctx P} {r : Nat → Value} {a : Act} {w : World}, G.rows.length = S.lo → Rz G S.F S.E r a w → ∃ r', Rz G s'.F s'.E r' a w := by
 unfold St.keep at h
 split at h
 ·rename_i h1 h2 h3 h4
  simp only [Option.some.injEq] at h
  rw [List.all_eq_true] at h1 h2 h3
  rw [Bool.and_eq_true] at h4
  have inj1 := alone_get src (·.1) h4.1
  have inj2 := alone_get src (·.2) h4.2
  have eE : ∀ k, (∃ p ∈ src, p.1 = k ∧ s'.E k = renE src (S.E p.2)) ∨ ((∀ p ∈ src, p.1 ≠ k) ∧ s'.E k = nob) := fun k => by
   subst h
   exact look_map nob (fun p => renE src (S.E p.2)) src k
  have eF : ∀ t, s'.F t = renD src 2 (S.F t) ∧ t ∈ s.fr.map (·.1) ∨ s'.F t = junk := fun t => by
   subst h
   exact look_mapF junk (fun t => renD src 2 (S.F t)) s.fr t
  refine ⟨fun k hk => ?_, by subst h; rfl, by subst h; rfl, fun {G r a w} hm hz => ?_⟩
  ·rcases eE k with ⟨p, hp, e, _⟩ | ⟨_, e⟩
   ·have h5 := h3 p hp
    rw [Bool.and_eq_true] at h5
    have := blt_of h5.1
    have hk : s.N ≤ k := by subst h; exact hk
    omega
   ·rw [e]; rfl
  ·let r' : Nat → Value := fun k => match src.find? (fun p => p.1 == k) with
     | some p => r p.2
     | none => r k
   have hr1 : ∀ p ∈ src, r' p.1 = r p.2 := fun p hp => by
    show (match src.find? (fun q => q.1 == p.1) with | some p => r p.2 | none => r p.1) = r p.2
    cases hf : src.find? (fun q => q.1 == p.1) with
    | none =>
     have := List.find?_eq_none.1 hf p hp
     simp at this
    | some q =>
     have hq1 := List.mem_of_find?_eq_some hf
     have hq2 := List.find?_some hf
     have hq2 : q.1 = p.1 := by simpa using hq2
     rw [inj1 q hq1 p hp hq2]
   have hr2 : ∀ k, (∀ p ∈ src, p.1 ≠ k) → r' k = r k := fun k hk => by
    show (match src.find? (fun q => q.1 == k) with | some p => r p.2 | none => r k) = r k
    cases hf : src.find? (fun q => q.1 == k) with
    | none => rfl
    | some q =>
     have hq1 := List.mem_of_find?_eq_some hf
     have hq2 := List.find?_some hf
     exact absurd (by simpa using hq2) (hk q hq1)
   have hren : ∀ k, k ∈ src.map (·.2) → r' (ren src k) = r k := fun k hk => hr1 _ (ren_mem src k hk)
   have eR : ∀ p ∈ src, renE src (S.E p.2) = ⟨(S.E p.2).tag, (S.E p.2).n, (S.E p.2).cells.map (ren1 src)⟩ := fun p hp => by
    unfold renE
    split
    ·rename_i ht
     congr 1
     conv => lhs; rw [← List.map_id (S.E p.2).cells]
     refine List.map_congr_left fun c hc => ?_
     have he := (hz.ent p.2).rowT ht
     have := he.2 c hc
     unfold ren1
     split
     ·simp [ref1] at this
     ·simp [ref1] at this
     ·rfl
    ·rfl
   have cellM : ∀ p ∈ src, ∀ c ∈ (S.E p.2).cells, one c = true ∧ ∀ k ∈ ref1 c, k ∈ src.map (·.2) := fun p hp c hc => by
    have h5 := h2 p hp
    split at h5
    ·rename_i ht
     have he := (hz.ent p.2).rowT ht
     exact ⟨(hz.entA p.2 c hc).1, fun k hk => by rw [he.2 c hc] at hk; cases hk⟩
    ·rw [List.all_eq_true] at h5
     have h6 := h5 c hc
     rw [Bool.and_eq_true, List.all_eq_true] at h6
     exact ⟨h6.1, fun k hk => has_mem _ _ (h6.2 k hk)⟩
   have tagM : ∀ k, k ∈ src.map (·.2) → (s'.E (ren src k)).tag = (S.E k).tag := fun k hk => by
    have hp := ren_mem src k hk
    rcases eE (ren src k) with ⟨q, hq, e1, e2⟩ | ⟨e1, _⟩
    ·have := inj1 q hq _ hp e1
     subst this
     rw [e2]; rfl
    ·exact absurd rfl (e1 _ hp)
   have eE : ∀ k, (∃ p ∈ src, p.1 = k ∧ s'.E k = ⟨(S.E p.2).tag, (S.E p.2).n, (S.E p.2).cells.map (ren1 src)⟩) ∨ ((∀ p ∈ src, p.1 ≠ k) ∧ s'.E k = nob) := fun k =>
    (eE k).imp (fun ⟨p, hp, h1, h2⟩ => ⟨p, hp, h1, by rw [h2, eR p hp]⟩) id
   refine ⟨r', hz.bel, hz.size, hz.df, fun i hi => ?_, fun t ht => ?_, fun t ht => ?_, fun t k hk => ?_, fun k => ?_, fun k c hc => ?_, fun k k' b a1 a2 a3 a4 => ?_, fun k k' b a1 a2 a3 => ?_, fun k b a1 => ?_, fun k k' b a1 a2 a3 => ?_⟩
   ·by_cases hx : ∃ p ∈ src, p.1 = i
    ·obtain ⟨p, hp, rfl⟩ := hx
     rw [hr1 p hp]
     have h5 := h3 p hp
     rw [Bool.and_eq_true, Bool.or_eq_true] at h5
     rcases h5.2 with h6 | h6
     ·rw [← Nat.eq_of_beq_eq_true h6]; exact hz.arg _ hi
     ·have := Nat.le_of_ble_eq_true h6
      omega
    ·rw [hr2 i fun p hp e => hx ⟨p, hp, e⟩]; exact hz.arg i hi
   ·rcases eF t with ⟨e, hmem⟩ | e
    ·have hne : S.F t ≠ junk := fun hj => by rw [e, hj] at ht; exact ht rfl
     rw [hz.fr t hne, e]
     refine (renD_den 2 _ (hz.frG t hne) fun k hk => hren k ?_).symm
     obtain ⟨p, hp, e2⟩ := List.mem_map.1 hmem
     have h5 := h1 p hp
     rw [List.all_eq_true] at h5
     exact has_mem _ _ (h5 k (by rw [e2]; exact hk))
    ·exact absurd e ht
   ·rcases eF t with ⟨e, _⟩ | e
    ·have hne : S.F t ≠ junk := fun hj => by rw [e, hj] at ht; exact ht rfl
     rw [e]; exact renD_good 2 _ (hz.frG t hne)
    ·exact absurd e ht
   ·rcases eF t with ⟨e, hmem⟩ | e
    ·by_cases hj : S.F t = junk
     ·rw [e, hj] at hk; cases hk
     ·rw [e] at hk
      have hk : k ∈ refD 2 (renD src 2 (S.F t)) := hk
      rw [renD_ref 2 _ (hz.frG t hj)] at hk
      obtain ⟨j, hj2, rfl⟩ := List.mem_map.1 hk
      obtain ⟨p, hp, e2⟩ := List.mem_map.1 hmem
      have h5 := h1 p hp
      rw [List.all_eq_true] at h5
      rw [tagM j (has_mem _ _ (h5 j (by rw [e2]; exact hj2)))]
      exact hz.frA t j hj2
    ·rw [e] at hk; cases hk
   ·rcases eE k with ⟨p, hp, rfl, e2⟩ | ⟨_, e2⟩
    ·rw [e2, hr1 p hp]
     have he := hz.ent p.2
     unfold EntOk at he ⊢
     dsimp only
     split at he
     ·trivial
     ·obtain ⟨b, b1, b2, b3⟩ := he
      refine ⟨b, b1, b2, ?_⟩
      rw [b3, List.map_map]
      congr 3
      exact List.map_congr_left fun c hc => (ren1_den fun j hj => hren j ((cellM p hp c hc).2 j hj)).symm
     ·have ec : (S.E p.2).cells.map (ren1 src) = (S.E p.2).cells := by
        conv => rhs; rw [← List.map_id (S.E p.2).cells]
        refine List.map_congr_left fun c hc => ?_
        have := he.2 c hc
        unfold ren1
        split
        ·simp [ref1] at this
        ·simp [ref1] at this
        ·rfl
      rw [ec]
      exact he
     ·refine ⟨he.1, fun hne => ?_⟩
      by_cases h0 : (S.E p.2).cells = []
      ·rw [h0] at hne; exact absurd rfl hne
      have hg := he.2 h0
      have ec : (S.E p.2).cells.map (ren1 src) = (S.E p.2).cells := by
       conv => rhs; rw [← List.map_id (S.E p.2).cells]
       refine List.map_congr_left fun c hc => ?_
       have := (hg.1 c hc).2
       unfold ren1
       split
       ·simp [ref1] at this
       ·simp [ref1] at this
       ·rfl
      rw [ec]
      exact hg
     ·have ec : (S.E p.2).cells.map (ren1 src) = (S.E p.2).cells := by
        conv => rhs; rw [← List.map_id (S.E p.2).cells]
        refine List.map_congr_left fun c hc => ?_
        have := (he.1 c hc).2
        unfold ren1
        split
        ·simp [ref1] at this
        ·simp [ref1] at this
        ·rfl
      rw [ec]
      exact he
    ·rw [e2]; trivial
   ·rcases eE k with ⟨p, hp, rfl, e2⟩ | ⟨_, e2⟩
    ·rw [e2] at hc
     obtain ⟨c', hc', rfl⟩ := List.mem_map.1 hc
     refine ⟨by rw [ren1_one]; exact (cellM p hp c' hc').1, fun j hj => ?_⟩
     rw [ren1_ref] at hj
     obtain ⟨j', hj', rfl⟩ := List.mem_map.1 hj
     rw [tagM j' ((cellM p hp c' hc').2 j' hj')]
     exact (hz.entA p.2 c' hc').2 j' hj'
    ·rw [e2] at hc; cases hc
   ·rcases eE k with ⟨p, hp, rfl, e2⟩ | ⟨_, e2⟩
    ·rcases eE k' with ⟨q, hq, rfl, e3⟩ | ⟨_, e3⟩
     ·rw [e2] at a1
      rw [e3] at a3
      rw [hr1 p hp] at a2
      rw [hr1 q hq] at a4
      have := hz.sep p.2 q.2 b a1 a2 a3 a4
      rw [inj2 p hp q hq this]
     ·rw [e3] at a3; cases a3
    ·rw [e2] at a1; cases a1
   ·rcases eE k with ⟨p, hp, rfl, e2⟩ | ⟨_, e2⟩
    ·rcases eE k' with ⟨q, hq, rfl, e3⟩ | ⟨_, e3⟩
     ·rw [e2] at a1
      rw [e3] at a3 ⊢
      rw [hr1 p hp] at a2
      rw [hr1 q hq]
      have := hz.sepR p.2 q.2 b a1 a2 a3
      rintro ⟨c1, c2⟩
      exact this ⟨fun e => c1 (by simp [e]), c2⟩
     ·rw [e3] at a3; cases a3
    ·rw [e2] at a1; cases a1
   ·rcases eE k with ⟨p, hp, rfl, e2⟩ | ⟨_, e2⟩
    ·rw [e2] at a1 ⊢
     rw [hr1 p hp]
     rintro ⟨c1, c2⟩
     exact hz.locR p.2 b a1 ⟨fun e => c1 (by simp [e]), c2⟩
    ·rw [e2] at a1; cases a1
   ·rcases eE k with ⟨p, hp, rfl, e2⟩ | ⟨_, e2⟩
    ·rw [e2] at a1
     rw [hr1 p hp] at a2
     rcases eE k' with ⟨q, hq, rfl, e3⟩ | ⟨_, e3⟩
     ·have := hz.sepO p.2 q.2 b a1 a2 fun e => a3 (by rw [inj2 q hq p hp e])
      rw [e3, hr1 q hq]
      refine ⟨this.1, fun a4 => ?_, this.2.2⟩
      rintro ⟨c1, c2⟩
      exact this.2.1 a4 ⟨fun e => c1 (by simp [e]), c2⟩
     ·rw [e3]
      exact ⟨fun h => absurd h (by decide), fun h => absurd h (by decide), fun h => absurd h (by decide)⟩
    ·rw [e2] at a1; simp [nob] at a1
 ·cases h
theorem keep_code {c : Code} {S s s' S' : St} {e : Exit} {src : List (Nat × Nat)} (h : S.keep s src = some s') (hc : CodeOk P c s' e S') : CodeOk P c S e S' := by
 intro hfr
 obtain ⟨k1, k2, k3, k4⟩ := keep_ok h
 obtain ⟨a1, a2, a3, a4⟩ := hc k1
 refine ⟨a1, a2.trans k2, a3.trans k3, fun G Q r a w hm hnt hz hQ => ?_⟩
 obtain ⟨r', hz'⟩ := k4 hm hz
 exact a4 G Q r' a w (by rw [k3]; exact hm) (by rw [k2]; exact hnt) hz' hQ
theorem keep_end {c : Code} {S s s' S' : St} {e : Exit} {src : List (Nat × Nat)} (hc : CodeOk P c S e S') (h : S'.keep s src = some s') : CodeOk P c S e s' := by
 intro hfr
 obtain ⟨k1, k2, k3, k4⟩ := keep_ok h
 obtain ⟨a1, a2, a3, a4⟩ := hc hfr
 refine ⟨k1, k2.trans a2, k3.trans a3, fun G Q r a w hm hnt hz hQ => a4 G Q r a w hm hnt hz fun r' a' w' hz' => ?_⟩
 obtain ⟨r2, hz2⟩ := k4 (by rw [a3]; exact hm) hz'
 exact hQ r2 a' w' hz2
theorem code_ok (hf : P.follows .mixedOrders = true) : ∀ (n : Nat) (c : Code) (S S' : St) (its its' : List (It P)) (ks : List (Key × Key)) (e : Exit), evCode P n c S its = some (e, S', its', ks) → (∀ p ∈ ks, p.1 = p.2) → CodeOk P c S e S'
 | 0, c, S, S', its, its', ks, e, h, _ => by simp [evCode] at h
 | n + 1, c, S, S', its, its', ks, e, h, hk => by
  have ih := code_ok hf n
  unfold evCode at h
  split at h
  ·simp only [Option.some.injEq, Prod.mk.injEq] at h
   obtain ⟨rfl, rfl, rfl, rfl⟩ := h
   exact fun hfr => ⟨hfr, rfl, rfl, fun G Q r a w _ _ hz hQ => wp_skip (hQ r a w hz)⟩
  ·simp only [Option.some.injEq, Prod.mk.injEq] at h
   obtain ⟨rfl, rfl, rfl, rfl⟩ := h
   exact fun hfr => ⟨hfr, rfl, rfl, fun G Q r a w _ _ hz hQ => wp_label (hQ r a w hz)⟩
  ·simp only [Option.some.injEq, Prod.mk.injEq] at h
   obtain ⟨rfl, rfl, rfl, rfl⟩ := h
   exact fun hfr => ⟨hfr, rfl, rfl, fun G Q r a w _ _ hz hQ => wp_exit (hQ r a w hz)⟩
  ·simp only [Option.some.injEq, Prod.mk.injEq] at h
   obtain ⟨rfl, rfl, rfl, rfl⟩ := h
   exact fun hfr => ⟨hfr, rfl, rfl, fun G Q r a w _ _ hz hQ => wp_ret (hQ r a w hz)⟩
  ·exact reg_ok hf h hk
  ·split at h
   ·rename_i e1 S1 its1 ks1 h1
    split at h
    ·split at h
     ·rename_i e2 S2 its2 ks2 h2
      simp only [Option.some.injEq, Prod.mk.injEq] at h
      obtain ⟨rfl, rfl, rfl, rfl⟩ := h
      exact .seq (ih _ _ _ _ _ _ _ h1 fun p hp => hk p (List.mem_append_left _ hp)) (ih _ _ _ _ _ _ _ h2 fun p hp => hk p (List.mem_append_right _ hp))
     ·cases h
    ·rename_i he
     simp only [Option.some.injEq, Prod.mk.injEq] at h
     obtain ⟨rfl, rfl, rfl, rfl⟩ := h
     exact .seq_out he (ih _ _ _ _ _ _ _ h1 hk)
   ·cases h
  ·rename_i x c1 c2
   have hev : ∀ {b : Bool}, S.val x = .bool b → ∀ {G : Ctx P} {r : Nat → Value} {a : Act} {w : World}, Rz G S.F S.E r a w → a.eval x = .bool b := by
    intro b hb G r a w hz
    have hx : x ∈ (⟨none, .move x, 0, "", #[], none⟩ : Oper).op.operands := by simp [Op.operands]
    have := (val_ok (S := S) (o := ⟨none, .move x, 0, "", #[], none⟩) hz (fun _ _ => rfl) hx (by rw [hb]; rfl)).1
    rw [this, hb]; rfl
   split at h
   ·rename_i hb
    intro hfr
    obtain ⟨a1, a2, a3, a4⟩ := ih _ _ _ _ _ _ _ h hk hfr
    exact ⟨a1, a2, a3, fun G Q r a w hm hnt hz hQ => wp_cond_true (hev hb hz) (a4 G Q r a w hm hnt hz hQ)⟩
   ·rename_i hb
    intro hfr
    obtain ⟨a1, a2, a3, a4⟩ := ih _ _ _ _ _ _ _ h hk hfr
    exact ⟨a1, a2, a3, fun G Q r a w hm hnt hz hQ => wp_cond_false (hev hb hz) (a4 G Q r a w hm hnt hz hQ)⟩
   ·cases h
  ·rename_i id c1
   have key : ∀ {e' : Exit}, CodeOk P c1 S e' S' → (∀ (Q : Exit → Act → World → Prop) a w, Q e a w → Exit.inBlock id Q e' a w) → CodeOk P (.block id c1) S e S' := by
    intro e' hc hq hfr
    obtain ⟨a1, a2, a3, a4⟩ := hc hfr
    exact ⟨a1, a2, a3, fun G Q r a w hm hnt hz hQ => wp_block (a4 G _ r a w hm hnt hz fun r' a' w' hz' => hq Q a' w' (hQ r' a' w' hz'))⟩
   split at h
   ·rename_i e1 S1 its1 ks1 h1
    split at h
    ·rename_i id'
     split at h
     ·rename_i hid
      simp only [Option.some.injEq, Prod.mk.injEq] at h
      obtain ⟨rfl, rfl, rfl, rfl⟩ := h
      refine key (ih _ _ _ _ _ _ _ h1 hk) fun Q a w hQ => ?_
      show if id' = id then Q .normal a w else _
      rw [if_pos (Nat.eq_of_beq_eq_true hid)]; exact hQ
     ·rename_i hid
      simp only [Option.some.injEq, Prod.mk.injEq] at h
      obtain ⟨rfl, rfl, rfl, rfl⟩ := h
      refine key (ih _ _ _ _ _ _ _ h1 hk) fun Q a w hQ => ?_
      show if id' = id then _ else Q (.exit id') a w
      rw [if_neg (fun e => by subst e; rw [beq_refl'] at hid; cases hid)]; exact hQ
    ·rename_i hne
     simp only [Option.some.injEq, Prod.mk.injEq] at h
     obtain ⟨rfl, rfl, rfl, rfl⟩ := h
     refine key (ih _ _ _ _ _ _ _ h1 hk) fun Q a w hQ => ?_
     cases e1 <;> first | exact hQ | exact absurd rfl (hne _)
   ·cases h
  ·rename_i c1
   split at h
   ·rename_i it its1
    have ok := it.ok
    split at h
    ·rename_i ht
     split at h
     ·rename_i s hs
      simp only [Option.some.injEq, Prod.mk.injEq] at h
      obtain ⟨rfl, rfl, rfl, rfl⟩ := h
      rw [ht] at ok
      have ok : CodeOk P it.code it.s0 it.ex it.s1 := ok
      have e := hk _ (List.mem_singleton.2 rfl)
      have k1 : Code.loop c1 = it.code := congrArg Key.code e
      have k2 : s = it.s0 := congrArg Key.s0 e
      rw [← k1, ← k2] at ok
      exact keep_code hs ok
     ·cases h
    ·exact (rounds_ok (fun S its e S' its' ks => ih _ _ _ _ _ _ _) _ _ _ _ _ _ _ h hk).loop
   ·exact (rounds_ok (fun S its e S' its' ks => ih _ _ _ _ _ _ _) _ _ _ _ _ _ _ h hk).loop
  ·cases h
end
end Go.Sy
namespace Go.Sy
open Go Go.RowKit
section
variable {P : Program} {S : St} {G : Ctx P} {r : Nat → Value} {a : Act} {w : World}
theorem map_fst_eq {α : Type} : ∀ (l : List (α × α)), l.map (·.1) = l.map (·.2) → ∀ p ∈ l, p.1 = p.2
 | [], _, p, hp => by cases hp
 | q :: l, h, p, hp => by
  simp only [List.map_cons, List.cons.injEq] at h
  rcases List.mem_cons.1 hp with rfl | hp
  ·exact h.1
  ·exact map_fst_eq l h.2 p hp
theorem lhs_rhs {α : Type} {q : α} {o : Option (α × List (Key × Key))} (h : lhs' o = rhs' q o) : ∃ ks, o = some (q, ks) ∧ ∀ p ∈ ks, p.1 = p.2 := by
 cases o with
 | none => cases h
 | some x =>
  obtain ⟨q', ks⟩ := x
  simp only [lhs', rhs', Option.some.injEq, Prod.mk.injEq] at h
  obtain ⟨rfl, h⟩ := h
  exact ⟨ks, rfl, map_fst_eq ks h⟩
theorem look_frame (d : Value) : ∀ (args : List Value) (i t : Nat), look d t (frame i args) = if i ≤ t then (args[t - i]?).getD d else d
 | [], i, t => by simp [frame, look]
 | v :: args, i, t => by
  unfold frame
  rw [look_cons, look_frame d args (i + 1) t]
  by_cases h : t = i
  ·subst h; simp
  ·rw [if_neg h]
   by_cases h2 : i ≤ t
   ·rw [if_pos h2, if_pos (by omega), show t - i = (t - (i + 1)) + 1 by omega, List.getElem?_cons_succ]
   ·rw [if_neg h2, if_neg (by omega)]
theorem look_rows : ∀ (rows : List (Nat × List Value)) (N k : Nat), look nob k (newRows N rows) = if N ≤ k then ((rows[k - N]?).map fun q => rws q.1 q.2).getD nob else nob
 | [], N, k => by simp [newRows, look]
 | q :: rows, N, k => by
  unfold newRows
  rw [look_cons, look_rows rows (N + 1) k]
  by_cases h : k = N
  ·subst h; simp
  ·rw [if_neg h]
   by_cases h2 : N ≤ k
   ·rw [if_pos h2, if_pos (by omega), show k - N = (k - (N + 1)) + 1 by omega, List.getElem?_cons_succ]
   ·rw [if_neg h2, if_neg (by omega)]
theorem start_E {nt : Nat} {rows : List (Nat × List Value)} {args : List Value} (k : Nat) : (start nt rows args).E k = ((rows[k]?).map fun q => rws q.1 q.2).getD nob := by
 show look nob k (newRows 0 rows) = _
 rw [look_rows, if_pos (Nat.zero_le _), Nat.sub_zero]
theorem start_F {nt : Nat} {rows : List (Nat × List Value)} {args : List Value} (t : Nat) : (start nt rows args).F t = (args[t]?).getD undef := by
 show look undef t (frame 0 args) = _
 rw [look_frame, if_pos (Nat.zero_le _), Nat.sub_zero]
theorem start_ok {nt : Nat} {rows : List (Nat × List Value)} {args : List Value} (h1 : args.all good = true) (h2 : Nat.ble args.length nt = true) (h4 : (args.flatMap refs).all (fun k => Nat.blt k rows.length) = true)
    (hinv : w.ShapedOpen P) (hr : ∀ i q, rows[i]? = some q → RowW w (r i) q.1 q.2) :
    Rz (P := P) ⟨w, nt, rows, r, hinv⟩ (start nt rows args).F (start nt rows args).E r { tmps := (⟨args.map (den r)⟩ : Array Value) ++ Array.replicate (nt - args.length) undef, defers := [] } w := by
 rw [List.all_eq_true] at h1 h4
 have h2 := Nat.le_of_ble_eq_true h2
 have tag1 : ∀ k, ((start nt rows args).E k).tag ≠ 1 := fun k => by
  rw [start_E]; cases rows[k]? <;> simp [rws, nob]
 have tag2 : ∀ k, ((start nt rows args).E k).tag ≠ 0 → ∃ q, rows[k]? = some q ∧ (start nt rows args).E k = rws q.1 q.2 := fun k hk => by
  rw [start_E] at hk ⊢
  cases h : rows[k]? with
  | none => rw [h] at hk; exact absurd rfl hk
  | some q => exact ⟨q, rfl, rfl⟩
 refine ⟨Below.refl _ _, ?_, rfl, fun _ _ => rfl, fun t _ => ?_, fun t _ => ?_, fun t k hk => ?_, fun k => ?_, fun k c hc => ?_, fun k _ _ h => absurd h (tag1 k), fun k _ _ h => absurd h (tag1 k), fun k b ht hl => ?_, fun k _ _ h4 => by
  obtain ⟨q, _, e⟩ := tag2 k (by omega)
  rw [e] at h4
  simp [rws] at h4⟩
 ·show (_ ++ _ : Array Value).size = nt
  rw [Array.size_append, Array.size_replicate]
  show (args.map (den r)).length + _ = nt
  rw [List.length_map]; omega
 ·rw [start_F]
  show (_ ++ _ : Array Value).getD t undef = _
  rw [Array.getD_eq_getD_getElem?]
  by_cases h : t < args.length
  ·rw [Array.getElem?_append_left (by show t < (args.map (den r)).length; rw [List.length_map]; exact h)]
   rw [List.getElem?_eq_getElem h]
   simp [h]
  ·rw [Array.getElem?_append_right (by show (args.map (den r)).length ≤ t; rw [List.length_map]; omega), List.getElem?_eq_none (by omega)]
   simp only [Option.getD_none]
   rw [show den r undef = undef from rfl]
   cases hx : (Array.replicate (nt - args.length) undef)[t - (⟨args.map (den r)⟩ : Array Value).size]? with
   | none => rfl
   | some x =>
    rw [Array.getElem?_replicate] at hx
    split at hx
    ·simp only [Option.some.injEq] at hx; rw [← hx]; rfl
    ·cases hx
 ·rw [start_F]
  cases h : args[t]? with
  | none => rfl
  | some v => exact h1 v (List.mem_of_getElem? h)
 ·rw [start_F] at hk
  cases h : args[t]? with
  | none => rw [h] at hk; cases hk
  | some v =>
   rw [h] at hk
   have := blt_of (h4 k (List.mem_flatMap.2 ⟨v, List.mem_of_getElem? h, hk⟩))
   rw [start_E, List.getElem?_eq_getElem this]
   simp [rws]
 ·rw [start_E]
  cases h : rows[k]? with
  | none => exact trivial
  | some q =>
   exact ⟨hr k q h, fun c hc => ((hr k q h).1 c hc).2⟩
 ·rw [start_E] at hc
  cases h : rows[k]? with
  | none => rw [h] at hc; cases hc
  | some q =>
   rw [h] at hc
   have h6 := (hr k q h).1 c hc
   exact ⟨h6.1, fun j hj => by rw [h6.2] at hj; cases hj⟩
 ·obtain ⟨q, hq, e⟩ := tag2 k (by rw [ht]; simp)
  rw [e] at hl
  exact .inr ⟨k, q, hq, hl⟩
theorem start_fresh {nt : Nat} {rows : List (Nat × List Value)} {args : List Value} : (start nt rows args).fresh := by
 intro k hk
 have hk : rows.length ≤ k := hk
 rw [start_E, List.getElem?_eq_none hk]; rfl
def resSem (tmps : Array Value) : ResultVar → Sem Value
 | .tmp t => pure (tmps.getD t undef)
 | .cell x t => do loadVar t (← asAddr (tmps.getD x undef))
theorem run_res (hz : Rz G S.F S.E r a w) {q : ResultVar} {v : Value} (h : evRes P S q = some v) :
    (resSem a.tmps q).run P w = .ok (den r v) w ∧ good v = true ∧ ∀ k ∈ refs v, (S.E k).tag ≠ 0 := by
 cases q with
 | tmp t =>
  simp only [evRes] at h
  split at h
  ·rename_i hg
   simp only [Option.some.injEq] at h
   subst h
   refine ⟨?_, hg, hz.frA t⟩
   show Result.ok (a.tmps.getD t undef) w = _
   rw [hz.fr t (good_ne hg)]
  ·cases h
 | cell x t =>
  simp only [evRes] at h
  split at h
  ·rename_i k off hv
   split at h
   ·rename_i htag
    have he := hz.ent k
    unfold EntOk at he
    rw [htag] at he
    obtain ⟨b, e1, e2, e3⟩ := he
    obtain ⟨r1, r2, r3⟩ := read_ok (P := P) (r := r) (o' := 0) e3 (by rw [List.drop_zero]; exact List.take_of_length_le (by simp)) (fun c hc => (hz.entA k c hc).1) h
    refine ⟨?_, r2, fun j hj => ?_⟩
    ·have h1 := hz.fr x (by rw [hv]; intro h; cases h)
     rw [hv] at h1
     have h1 : a.tmps.getD x undef = .pointer (some ⟨b, off, none⟩) := by
      rw [h1]
      show Value.pointer (some ⟨blkOf (r k), off, none⟩) = _
      rw [e1]; rfl
     show (asAddr (a.tmps.getD x undef) >>= loadVar t).run P w = _
     rw [h1]
     rw [Nat.zero_add] at r1
     exact r1
    ·obtain ⟨c, hc, hjc⟩ := r3 j hj
     exact (hz.entA k c hc).2 j hjc
   ·cases h
  ·cases h
theorem run_ress (hz : Rz G S.F S.E r a w) : ∀ (l : List ResultVar) (vs : List Value), evRess P S l = some vs →
    (l.mapM (resSem a.tmps)).run P w = .ok (vs.map (den r)) w
 | [], vs, h => by
  simp only [evRess, Option.some.injEq] at h
  subst h
  rfl
 | q :: l, vs, h => by
  unfold evRess at h
  split at h
  ·rename_i v vs' h1 h2
   simp only [Option.some.injEq] at h
   subst h
   rw [List.mapM_cons, Sem.run_bind, (run_res hz h1).1]
   simp only [Result.andThen_ok]
   rw [Sem.run_bind, run_ress hz l _ h2]
   rfl
  ·cases h
theorem canA_good : ∀ (l : List Value) (i : Nat) (l' q : List Value), canA l i = some (l', q) → (∀ v ∈ l, goodD 1 v = true) ∧ (∀ v ∈ l', goodD 1 v = true) ∧ l'.length = l.length
 | [], i, l', q, h => by
  simp only [canA, Option.some.injEq, Prod.mk.injEq] at h
  obtain ⟨rfl, rfl⟩ := h
  exact ⟨fun v hv => (by cases hv), fun v hv => (by cases hv), rfl⟩
 | v :: l, i, l', q, h => by
  have agg : ∀ {cs : List Value}, ones cs = true → goodD 1 (.agg ⟨cs⟩) = true := fun {cs} h => h
  unfold canA at h
  split at h
  ·rename_i cs hv
   have hv := aggL_some hv
   subst hv
   split at h
   ·rename_i cs' q1 h1
    split at h
    ·rename_i l1 q2 h2
     simp only [Option.some.injEq, Prod.mk.injEq] at h
     obtain ⟨rfl, rfl⟩ := h
     obtain ⟨a1, a2, _⟩ := canL_ok (r := fun _ => undef) (r' := fun _ => undef) _ _ _ _ h1
     obtain ⟨b1, b2, b3⟩ := canA_good l _ _ _ h2
     refine ⟨fun x hx => ?_, fun x hx => ?_, by simp [b3]⟩
     ·rcases List.mem_cons.1 hx with rfl | hx
      ·exact agg a1
      ·exact b1 x hx
     ·rcases List.mem_cons.1 hx with rfl | hx
      ·exact agg a2
      ·exact b2 x hx
    ·cases h
   ·cases h
  ·split at h
   ·rename_i v' q1 h1
    split at h
    ·rename_i l1 q2 h2
     simp only [Option.some.injEq, Prod.mk.injEq] at h
     obtain ⟨rfl, rfl⟩ := h
     obtain ⟨a1, a2, _⟩ := canL_ok (r := fun _ => undef) (r' := fun _ => undef) _ _ _ _ h1
     simp only [ones, List.all_cons, List.all_nil, Bool.and_true] at a1 a2
     obtain ⟨b1, b2, b3⟩ := canA_good l _ _ _ h2
     refine ⟨fun x hx => ?_, fun x hx => ?_, by simp [b3]⟩
     ·rcases List.mem_cons.1 hx with rfl | hx
      ·exact one_good 1 a1
      ·exact b1 x hx
     ·rcases List.mem_cons.1 hx with rfl | hx
      ·exact one_good 1 a2
      ·exact b2 x hx
    ·cases h
   ·cases h
theorem fin_den {l : List Value} (h : ∀ v ∈ l, goodD 1 v = true) : den r (finV l) = if hl : (l.map (den r)).toArray.size = 1 then (l.map (den r)).toArray[0] else .tuple (l.map (den r)).toArray := by
 have e : l.map (denD r 1) = l.map (den r) := List.map_congr_left fun v hv => (den_up 1 v (h v hv)).symm
 match l, h, e with
 | [], _, _ => rfl
 | [v], _, _ => rfl
 | v :: u :: l, _, e =>
  rw [dif_neg (by simp)]
  show Value.tuple ⟨(v :: u :: l).map (denD r 1)⟩ = _
  rw [e]
theorem end_ok {fn : Func} {v : Value} {nr : List (Nat × List Value)} (hz : Rz G S.F S.E r a w) (h : evEnd P fn S = some (v, nr)) (hm : G.rows.length = S.lo) : ∃ u r', (results fn a.tmps).run P w = .ok u w ∧ (∀ i, i < G.rows.length → r' i = G.r0 i) ∧ u = den r' v ∧
    ∀ (j : Nat) (q : Nat × List Value), nr[j]? = some q → RowW w (r' (G.rows.length + j)) q.1 q.2 ∧ ∀ b, Loc (r' (G.rows.length + j)) q.2 b → G.w0.heap.size ≤ b ∨ ∃ i q', G.rows[i]? = some q' ∧ Loc (G.r0 i) q'.2 b := by
 unfold evEnd at h
 split at h
 ·rename_i vs h1
  split at h
  ·rename_i vs' q h2
   split at h
   ·rename_i nr' h3
    simp only [Option.some.injEq, Prod.mk.injEq] at h
    obtain ⟨rfl, rfl⟩ := h
    let r' : Nat → Value := fun i => if i < G.rows.length then G.r0 i else ((q[i - G.rows.length]?).map (den1 r)).getD undef
    have hr' : ∀ (m : Nat) (x : Value), q[m]? = some x → r' (S.lo + m) = den1 r x := fun m x hx => by
     show (if S.lo + m < G.rows.length then _ else _) = _
     rw [if_neg (by omega), show S.lo + m - G.rows.length = m by omega, hx]; rfl
    have hc := canA_ok (r := r) (r' := r') _ _ _ _ h2 hr'
    obtain ⟨g1, g2, _⟩ := canA_good _ _ _ _ h2
    refine ⟨den r (finV vs), r', ?_, fun i hi => if_pos hi, ?_, fun j x hx => ?_⟩
    ·show (do let vs ← fn.results.mapM (resSem a.tmps); pure (if h : vs.size = 1 then vs[0] else .tuple vs) : Sem Value).run P w = _
     rw [Sem.run_bind, Array.mapM_eq_mapM_toList, Sem.run_map]
     rw [run_ress hz _ _ h1]
     simp only [Result.andThen_ok]
     rw [fin_den g1]
     rfl
    ·rw [fin_den g1, fin_den g2]
     simp only [hc]
    ·obtain ⟨l1, l2⟩ := rowsOf_get q _ h3
     obtain ⟨x', hx1, hx2⟩ := l2 j x hx
     have e : r' (G.rows.length + j) = den1 r x' := by rw [hm]; exact hr' j x' hx1
     rw [e]
     have hro := rowOf_ok hz hx2 rfl
     refine ⟨hro.1, fun b hb => ?_⟩
     unfold rowOf at hx2
     split at hx2
     ·rename_i k n cc
      split at hx2
      ·rename_i ht _
       simp only [Option.some.injEq] at hx2
       subst hx2
       rcases isR_cases ht with ht | ht
       ·exact hz.locR k b ht hb
       ·have ho := (hz.ent k).ownW ht
        exact .inl (ho.at (ho.loc hb)).1
      ·cases hx2
     ·rename_i k n cc
      split at hx2
      ·rename_i _ ht _ _
       simp only [Option.some.injEq] at hx2
       subst hx2
       left
       have he := hz.ent k
       unfold EntOk at he
       rw [ht] at he
       obtain ⟨b', e1, e2, e3⟩ := he
       obtain ⟨_, a', n', c', e4, rfl⟩ := hb
       have e4 : Value.slice (some ⟨blkOf (r k), 0, none⟩) n cc = .slice (some a') n' c' := e4
       rw [e1] at e4
       simp only [Value.slice.injEq, Option.some.injEq] at e4
       rw [← e4.1]
       exact e2
      ·cases hx2
     ·cases hx2
   ·cases h
  ·cases h
 ·cases h
theorem walk {f : FuncId} {fn : Func} {code : Code} {rows : List (Nat × List Value)} {args : List Value} {v : Value} {nr : List (Nat × List Value)} (its : List (It P)) (hf : P.follows .mixedOrders = true) (hfn : P.funcs[f]? = some fn) (hb : fn.body = some code)
    (hen : ∀ xs w, (callFunc f xs).run P w = .ok (.enter f xs) w) (h : lhs' (evFn P fn code rows args its) = rhs' (v, nr) (evFn P fn code rows args its)) : Sp P f rows args v nr := by
 obtain ⟨ks, h, hk⟩ := lhs_rhs h
 refine ⟨hen, fun r w hinv hr => calls_of_wp hfn hb ?_⟩
 unfold evFn at h
 split at h
 ·rename_i h1 h2 h4
  have hst := start_ok (w := w) (r := r) h1 h2 h4 hinv hr
  have hsz : (⟨args.map (den r)⟩ : Array Value).size = args.length := by show (args.map (den r)).length = _; rw [List.length_map]
  rw [hsz]
  split at h
  ·rename_i e S its' ks' hc
   split at h
   ·have main : ∀ {q : Value × List (Nat × List Value)}, evEnd P fn S = some q → q = (v, nr) → ks' = ks → (e = .normal ∨ e = .ret) → code.wp P (bodyPost P fn fun e w' => ∃ r' : Nat → Value, (∀ i, i < rows.length → r' i = r i) ∧ e = .returned (den r' v) ∧ Below w.heap.size w w' ∧
        ∀ (j : Nat) (q : Nat × List Value), nr[j]? = some q → RowW w' (r' (rows.length + j)) q.1 q.2 ∧ ∀ b, Loc (r' (rows.length + j)) q.2 b → w.heap.size ≤ b ∨ ∃ i q', rows[i]? = some q' ∧ Loc (r i) q'.2 b)
        { tmps := (⟨args.map (den r)⟩ : Array Value) ++ Array.replicate (fn.ntmps - args.length) undef, defers := [] } w := by
     intro q hq hqe hks he
     subst hqe; subst hks
     obtain ⟨a1, a2, a3, a4⟩ := code_ok hf _ _ _ _ _ _ _ _ hc hk start_fresh
     refine a4 ⟨w, fn.ntmps, rows, r, hinv⟩ _ r _ w rfl rfl hst fun r2 a2' w2 hz2 => ?_
     obtain ⟨u, r', u1, u2, u3, u4⟩ := end_ok hz2 hq (by rw [a3]; rfl)
     have hgoal : a2'.defers = [] ∧ ∃ v', (results fn a2'.tmps).run P w2 = .ok v' w2 ∧ (∃ r' : Nat → Value, (∀ i, i < rows.length → r' i = r i) ∧ Ending.returned v' = .returned (den r' v) ∧ Below w.heap.size w w2 ∧
      ∀ (j : Nat) (q : Nat × List Value), nr[j]? = some q → RowW w2 (r' (rows.length + j)) q.1 q.2 ∧ ∀ b, Loc (r' (rows.length + j)) q.2 b → w.heap.size ≤ b ∨ ∃ i q', rows[i]? = some q' ∧ Loc (r i) q'.2 b) :=
      ⟨hz2.df, u, u1, r', u2, by rw [u3], hz2.bel, u4⟩
     rcases he with rfl | rfl
     ·exact hgoal
     ·exact hgoal
    split at h
    ·split at h
     ·rename_i q hq
      simp only [Option.some.injEq, Prod.mk.injEq] at h
      exact main hq h.1 h.2 (.inl rfl)
     ·cases h
    ·split at h
     ·rename_i q hq
      simp only [Option.some.injEq, Prod.mk.injEq] at h
      exact main hq h.1 h.2 (.inr rfl)
     ·cases h
    ·cases h
   ·cases h
  ·cases h
 ·cases h
def SpG (P : Program) (f : FuncId) (rows : List (Nat × List Value)) (args : List Value) (v : Value) : Prop :=
 ∀ (r : Nat → Value) (w : World), w.ShapedOpen P → (∀ i q, rows[i]? = some q → RowG w (r i) q.1 q.2) →
  Calls P f ⟨args.map (den r)⟩ w fun e w' => e = .returned v ∧ Below w.heap.size w w'
theorem look_old : ∀ (rows : List (Nat × List Value)) (N k : Nat), look nob k (oldRows N rows) = if N ≤ k then ((rows[k - N]?).map fun q => (⟨3, q.1, q.2⟩ : Ent)).getD nob else nob
 | [], N, k => by simp [oldRows, look]
 | q :: rows, N, k => by
  unfold oldRows
  rw [look_cons, look_old rows (N + 1) k]
  by_cases h : k = N
  ·subst h; simp
  ·rw [if_neg h]
   by_cases h2 : N ≤ k
   ·rw [if_pos h2, if_pos (by omega), show k - N = (k - (N + 1)) + 1 by omega, List.getElem?_cons_succ]
   ·rw [if_neg h2, if_neg (by omega)]
theorem startG_E {nt : Nat} {rows : List (Nat × List Value)} {args : List Value} (k : Nat) : (startG nt rows args).E k = ((rows[k]?).map fun q => (⟨3, q.1, q.2⟩ : Ent)).getD nob := by
 show look nob k (oldRows 0 rows) = _
 rw [look_old, if_pos (Nat.zero_le _), Nat.sub_zero]
theorem startG_F {nt : Nat} {rows : List (Nat × List Value)} {args : List Value} (t : Nat) : (startG nt rows args).F t = (args[t]?).getD undef := by
 show look undef t (frame 0 args) = _
 rw [look_frame, if_pos (Nat.zero_le _), Nat.sub_zero]
theorem startG_ok {nt : Nat} {rows : List (Nat × List Value)} {args : List Value} (h1 : args.all good = true) (h2 : Nat.ble args.length nt = true) (h4 : (args.flatMap refs).all (fun k => Nat.blt k rows.length) = true)
    (hinv : w.ShapedOpen P) (hr : ∀ i q, rows[i]? = some q → RowG w (r i) q.1 q.2) :
    Rz (P := P) ⟨w, nt, rows, r, hinv⟩ (startG nt rows args).F (startG nt rows args).E r { tmps := (⟨args.map (den r)⟩ : Array Value) ++ Array.replicate (nt - args.length) undef, defers := [] } w := by
 rw [List.all_eq_true] at h1 h4
 have h2 := Nat.le_of_ble_eq_true h2
 have tag3 : ∀ k, ((startG nt rows args).E k).tag = 0 ∨ ((startG nt rows args).E k).tag = 3 := fun k => by
  rw [startG_E]; cases rows[k]?
  ·exact .inl rfl
  ·exact .inr rfl
 refine ⟨Below.refl _ _, ?_, rfl, fun _ _ => rfl, fun t _ => ?_, fun t _ => ?_, fun t k hk => ?_, fun k => ?_, fun k c hc => ?_, fun k _ _ h => ?_, fun k _ _ h => ?_, fun k b ht hl => ?_, fun k _ _ h4 => ?_⟩
 ·show (_ ++ _ : Array Value).size = nt
  rw [Array.size_append, Array.size_replicate]
  show (args.map (den r)).length + _ = nt
  rw [List.length_map]; omega
 ·rw [startG_F]
  show (_ ++ _ : Array Value).getD t undef = _
  rw [Array.getD_eq_getD_getElem?]
  by_cases h : t < args.length
  ·rw [Array.getElem?_append_left (by show t < (args.map (den r)).length; rw [List.length_map]; exact h)]
   rw [List.getElem?_eq_getElem h]
   simp [h]
  ·rw [Array.getElem?_append_right (by show (args.map (den r)).length ≤ t; rw [List.length_map]; omega), List.getElem?_eq_none (by omega)]
   simp only [Option.getD_none]
   rw [show den r undef = undef from rfl]
   cases hx : (Array.replicate (nt - args.length) undef)[t - (⟨args.map (den r)⟩ : Array Value).size]? with
   | none => rfl
   | some x =>
    rw [Array.getElem?_replicate] at hx
    split at hx
    ·simp only [Option.some.injEq] at hx; rw [← hx]; rfl
    ·cases hx
 ·rw [startG_F]
  cases h : args[t]? with
  | none => rfl
  | some v => exact h1 v (List.mem_of_getElem? h)
 ·rw [startG_F] at hk
  cases h : args[t]? with
  | none => rw [h] at hk; cases hk
  | some v =>
   rw [h] at hk
   have := blt_of (h4 k (List.mem_flatMap.2 ⟨v, List.mem_of_getElem? h, hk⟩))
   rw [startG_E, List.getElem?_eq_getElem this]
   simp
 ·rw [startG_E]
  cases h : rows[k]? with
  | none => exact trivial
  | some q =>
   have hg := hr k q h
   obtain ⟨_, b, o, c, cs, ty, fz, e, _⟩ := id hg
   exact ⟨⟨_, _, _, e⟩, fun _ => hg⟩
 ·rw [startG_E] at hc
  cases h : rows[k]? with
  | none => rw [h] at hc; cases hc
  | some q =>
   rw [h] at hc
   have h6 := (hr k q h).1 c hc
   exact ⟨h6.1, fun j hj => by rw [h6.2] at hj; cases hj⟩
 ·rcases tag3 k with e | e <;> rw [e] at h <;> cases h
 ·rcases tag3 k with e | e <;> rw [e] at h <;> cases h
 ·rcases tag3 k with e | e <;> rw [e] at ht <;> cases ht
 ·rcases tag3 k with e | e <;> rw [e] at h4 <;> omega
theorem startG_fresh {nt : Nat} {rows : List (Nat × List Value)} {args : List Value} : (startG nt rows args).fresh := by
 intro k hk
 have hk : rows.length ≤ k := hk
 rw [startG_E, List.getElem?_eq_none hk]; rfl
theorem walkG {f : FuncId} {fn : Func} {code : Code} {rows : List (Nat × List Value)} {args : List Value} {v : Value} (its : List (It P)) (hf : P.follows .mixedOrders = true) (hfn : P.funcs[f]? = some fn) (hb : fn.body = some code)
    (hv : plain v = true) (h : lhs' (evFnG P fn code rows args its) = rhs' v (evFnG P fn code rows args its)) : SpG P f rows args v := by
 obtain ⟨ks, h, hk⟩ := lhs_rhs h
 refine fun r w hinv hr => calls_of_wp hfn hb ?_
 unfold evFnG at h
 split at h
 ·rename_i h1 h2 h4 h5
  have hst := startG_ok (w := w) (r := r) h1 h2 h4 hinv hr
  have hsz : (⟨args.map (den r)⟩ : Array Value).size = args.length := by show (args.map (den r)).length = _; rw [List.length_map]
  rw [hsz]
  split at h
  ·rename_i e S its' ks' hc
   split at h
   ·have main : ∀ {u : Value}, evEnd P fn S = some (u, []) → u = v → ks' = ks → (e = .normal ∨ e = .ret) → code.wp P (bodyPost P fn fun e w' => e = .returned v ∧ Below w.heap.size w w')
        { tmps := (⟨args.map (den r)⟩ : Array Value) ++ Array.replicate (fn.ntmps - args.length) undef, defers := [] } w := by
     intro q hq hqe hks he
     subst hqe; subst hks
     obtain ⟨a1, a2, a3, a4⟩ := code_ok hf _ _ _ _ _ _ _ _ hc hk startG_fresh
     refine a4 ⟨w, fn.ntmps, rows, r, hinv⟩ _ r _ w rfl rfl hst fun r2 a2' w2 hz2 => ?_
     obtain ⟨u, r', u1, u2, u3, u4⟩ := end_ok hz2 hq (by rw [a3]; rfl)
     have hgoal : a2'.defers = [] ∧ ∃ v', (results fn a2'.tmps).run P w2 = .ok v' w2 ∧ (Ending.returned v' = .returned q ∧ Below w.heap.size w w2) :=
      ⟨hz2.df, u, u1, by rw [u3, den_plain hv], hz2.bel⟩
     rcases he with rfl | rfl
     ·exact hgoal
     ·exact hgoal
    split at h
    ·split at h
     ·rename_i q hq
      simp only [Option.some.injEq, Prod.mk.injEq] at h
      exact main hq h.1 h.2 (.inl rfl)
     ·cases h
    ·split at h
     ·rename_i q hq
      simp only [Option.some.injEq, Prod.mk.injEq] at h
      exact main hq h.1 h.2 (.inr rfl)
     ·cases h
    ·cases h
   ·cases h
  ·cases h
 ·cases h
theorem piece {code : Code} {S s1 : St} {e : Exit} (src : List (Nat × Nat)) (its : List (It P)) (hf : P.follows .mixedOrders = true) (h : lhs' (evTo P code S s1 src its) = rhs' (e, s1) (evTo P code S s1 src its)) : CodeOk P code S e s1 := by
 obtain ⟨ks, h, hk⟩ := lhs_rhs h
 unfold evTo at h
 split at h
 ·rename_i e' S' its' ks' hc
  split at h
  ·rename_i s hs
   simp only [Option.some.injEq, Prod.mk.injEq] at h
   obtain ⟨⟨rfl, rfl⟩, rfl⟩ := h
   exact keep_end (code_ok hf _ _ _ _ _ _ _ _ hc hk) hs
  ·cases h
 ·cases h
theorem Sp.value {f : FuncId} {rows nr : List (Nat × List Value)} {args : List Value} {v v' : Value} (e : v = v') (h : Sp P f rows args v nr) : Sp P f rows args v' nr := e ▸ h
theorem Sp.of {f : FuncId} {args : List Value} {v : Value} (hen : ∀ xs w, (callFunc f xs).run P w = .ok (.enter f xs) w) (ha : args.all plain = true) (hv : plain v = true) (h : ∀ w, Calls P f ⟨args⟩ w fun e w' => e = .returned v ∧ Below w.heap.size w w') : Sp P f [] args v [] := by
 rw [List.all_eq_true] at ha
 refine ⟨hen, fun r w _ _ => ?_⟩
 have e : args.map (den r) = args := by
  conv => rhs; rw [← List.map_id args]
  exact List.map_congr_left fun x hx => den_plain (ha x hx)
 rw [e]
 exact (h w).mono fun e w' ⟨h1, h2⟩ => ⟨r, fun _ _ => rfl, by rw [den_plain hv]; exact h1, h2, fun j q hq => by simp at hq⟩
theorem Sp.calls {f : FuncId} {args : List Value} {v : Value} (h : Sp P f [] args v []) (ha : args.all plain = true) (hv : plain v = true) (w : World) (hw : w.ShapedOpen P) : Calls P f ⟨args⟩ w fun e w' => e = .returned v ∧ Below w.heap.size w w' := by
 rw [List.all_eq_true] at ha
 have e : args.map (den fun _ => undef) = args := by
  conv => rhs; rw [← List.map_id args]
  exact List.map_congr_left fun x hx => den_plain (ha x hx)
 have := h.2 (fun _ => undef) w hw fun i q hq => by simp at hq
 rw [e] at this
 exact this.mono fun e w' ⟨r', _, h1, h2, _⟩ => ⟨by rw [den_plain hv] at h1; exact h1, h2⟩
end
def loopsOf : Code → List Code
 | .seq a b => loopsOf a ++ loopsOf b
 | .cond _ a b => loopsOf a ++ loopsOf b
 | .block _ a => loopsOf a
 | .loop a => a :: loopsOf a
 | _ => []
def nthLoop (n : Nat) (c : Code) : Code := (loopsOf c).getD n .skip
end Go.Sy

end
