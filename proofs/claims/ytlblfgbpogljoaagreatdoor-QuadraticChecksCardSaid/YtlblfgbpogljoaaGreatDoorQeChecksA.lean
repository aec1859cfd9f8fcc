/- Part 1 of the proof; what it holds is said text by text. -/
import Derived.ProofKit
import Derived.OpenShut
import Derived.Lib.SmallJoins
import Derived.OwnWalk
import Derived.Deep.DeepCutAuto
import Derived.Deep.CutBlock
import Derived.Test.YtlblfgbpogljoaaGreatDoorQbL
set_option linter.unusedSimpArgs false
set_option linter.unusedVariables false
section
/- No program in sight: values without places (structs and arrays of bools, ints and strings, one in another): what their cells are, and that they read alike in every world. -/
namespace Go.Flat
open Go
section
variable {H : Type} {enc : TypeId × Value → H} {P : Program}
end
def leafB (B : Nat) : Leaf → Value → Prop
 | .b, v => ∃ x, v = .bool x
 | .i k, v => ∃ n, v = .int k n ∧ (Lit.int k n).wf = true
 | .s, v => ∃ s, v = .string s ∧ s.size ≤ B
def fitsB (B : Nat) : List Leaf → List Value → Prop
 | [], [] => True
 | l :: ls, v :: vs => leafB B l v ∧ fitsB B ls vs
 | _, _ => False
theorem fitsB_append {B : Nat} : ∀ {l1 l2 : List Leaf} {c1 c2 : List Value}, fitsB B l1 c1 → fitsB B l2 c2 → fitsB B (l1 ++ l2) (c1 ++ c2)
 | [], _, [], _, _, h => h
 | _ :: _, _, _ :: _, _, h1, h2 => ⟨h1.1, fitsB_append h1.2 h2⟩
 | [], _, _ :: _, _, h, _ => h.elim
 | _ :: _, _, [], _, h, _ => h.elim
theorem fitsB_cons {B : Nat} {l : Leaf} {ls : List Leaf} {cs : List Value} (h : fitsB B (l :: ls) cs) : ∃ v vs, cs = v :: vs ∧ leafB B l v ∧ fitsB B ls vs := by
 cases cs with
 | nil => exact h.elim
 | cons v vs => exact ⟨v, vs, rfl, h.1, h.2⟩
theorem fitsB_nil {B : Nat} {cs : List Value} (h : fitsB B [] cs) : cs = [] := by
 cases cs with
 | nil => rfl
 | cons v vs => exact h.elim
section
variable {H : Type} {enc : TypeId × Value → H} {P : Program}
theorem each_bound {B : Nat} {g : Field → Option (DataW H × List MemPlace)} : ∀ {fs : List Field} {xs : List (DataW H × List MemPlace)}, fs.mapM g = some xs →
    (∀ m ∈ DataW.weightsEach P (fs.map (·.type)) (xs.map (·.1)), m ≤ B) → ∀ f ∈ fs, ∃ y, g f = some y ∧ ∀ m ∈ y.1.weights P f.type, m ≤ B
 | [], _, _, _, f, hf => by cases hf
 | a :: fs, xs, h, hb, f, hf => by
  rw [List.mapM_cons] at h
  cases hx : g a with
  | none => rw [hx] at h; cases h
  | some z =>
   rw [hx] at h
   cases hl : fs.mapM g with
   | none => rw [hl] at h; cases h
   | some ys =>
    rw [hl] at h
    obtain rfl : z :: ys = xs := Option.some.inj h
    simp only [List.map_cons, DataW.weightsEach, List.mem_append] at hb
    rcases List.mem_cons.1 hf with rfl | hf
    ·exact ⟨z, hx, fun m hm => hb m (.inl hm)⟩
    ·exact each_bound hl (fun m hm => hb m (.inr hm)) f hf
theorem all_bound {B : Nat} {e : TypeId} {g : Nat → Option (DataW H × List MemPlace)} : ∀ {l : List Nat} {xs : List (DataW H × List MemPlace)}, l.mapM g = some xs →
    (∀ m ∈ DataW.weightsAll P e (xs.map (·.1)), m ≤ B) → ∀ i ∈ l, ∃ y, g i = some y ∧ ∀ m ∈ y.1.weights P e, m ≤ B
 | [], _, _, _, f, hf => by cases hf
 | a :: fs, xs, h, hb, f, hf => by
  rw [List.mapM_cons] at h
  cases hx : g a with
  | none => rw [hx] at h; cases h
  | some z =>
   rw [hx] at h
   cases hl : fs.mapM g with
   | none => rw [hl] at h; cases h
   | some ys =>
    rw [hl] at h
    obtain rfl : z :: ys = xs := Option.some.inj h
    simp only [List.map_cons, DataW.weightsAll, List.mem_append] at hb
    rcases List.mem_cons.1 hf with rfl | hf
    ·exact ⟨z, hx, fun m hm => hb m (.inl hm)⟩
    ·exact all_bound hl (fun m hm => hb m (.inr hm)) f hf
theorem flatFB {B : Nat} {w : World} {base : Nat} {sp : Nat → Bool} {held : Bool} {fuel n : Nat} {cs : List Value}
    (ih : ∀ {t : TypeId} {ls : List Leaf} {cs : List Value} {x : DataW H × List MemPlace}, leaves P n t = some ls → DataW.trod enc P w base sp held fuel t cs = some x → (∀ m ∈ x.1.weights P t, m ≤ B) → fitsB B ls cs) :
    ∀ (fs : List Field) (off : Nat) (l : List Leaf), leavesF (leaves P n) P.cellsOf fs off = some l → (∀ f ∈ fs, ∃ y, DataW.trod enc P w base sp held fuel f.type ((cs.drop f.offset).take (P.cellsOf f.type)) = some y ∧ ∀ m ∈ y.1.weights P f.type, m ≤ B) →
     fitsB B l ((cs.drop off).take l.length)
 | [], off, l, h, _ => by
  obtain rfl : [] = l := Option.some.inj h
  exact trivial
 | f :: fs, off, l, h, hy => by
  unfold leavesF at h
  split at h
  ·rename_i lf l' hf hfs
   split at h
   ·rename_i ho
    obtain ⟨rfl, hlen⟩ := ho
    obtain rfl : lf ++ l' = l := Option.some.inj h
    obtain ⟨y, hy0, hb⟩ := hy f List.mem_cons_self
    have h1 := ih hf hy0 hb
    have h3 := flatFB ih fs _ l' hfs fun g hg => hy g (List.mem_cons_of_mem _ hg)
    rw [List.length_append, List.take_add, hlen, List.drop_drop]
    exact fitsB_append h1 h3
   ·cases h
  ·cases h
theorem flatAB {B : Nat} {l : List Leaf} {C : Nat} {cs : List Value} (hl : l.length = C) : ∀ m, (∀ i, i < m → fitsB B l ((cs.drop (i * C)).take C)) → fitsB B (leavesA l m) (cs.take (m * C))
 | 0, _ => by simp [leavesA, fitsB]
 | m + 1, h => by
  rw [leavesA, Nat.succ_mul, List.take_add]
  exact fitsB_append (flatAB hl m fun i hi => h i (by omega)) (h m (by omega))
theorem flatB {B : Nat} {w : World} {base : Nat} {sp : Nat → Bool} {held : Bool} : ∀ (fuel n : Nat) {t : TypeId} {ls : List Leaf} {cs : List Value} {x : DataW H × List MemPlace},
    leaves P n t = some ls → DataW.trod enc P w base sp held fuel t cs = some x → (∀ m ∈ x.1.weights P t, m ≤ B) → fitsB B ls cs
 | 0, _, _, _, _, _, _, h, _ => by simp [DataW.trod] at h
 | _, 0, _, _, _, _, h, _, _ => by cases h
 | fuel + 1, n + 1, t, ls, cs, x, hl, h, hb => by
  have ih : ∀ {t : TypeId} {ls : List Leaf} {cs : List Value} {x : DataW H × List MemPlace}, leaves P n t = some ls → DataW.trod enc P w base sp held fuel t cs = some x → (∀ m ∈ x.1.weights P t, m ≤ B) → fitsB B ls cs := fun h1 h2 h3 => flatB fuel n h1 h2 h3
  unfold leaves at hl
  cases hu : P.underlying t with
  | none => rw [hu] at hl; cases hl
  | some u =>
   rw [hu] at hl
   cases u with
   | bool =>
    simp only [Option.some.injEq] at hl
    subst hl
    obtain ⟨b, rfl, rfl⟩ := DataW.trod_bool hu h
    exact ⟨⟨b, rfl⟩, trivial⟩
   | int k =>
    simp only [Option.some.injEq] at hl
    subst hl
    obtain ⟨m, rfl, rfl, h1⟩ := DataW.trod_int hu h
    exact ⟨⟨m, rfl, h1⟩, trivial⟩
   | string =>
    simp only [Option.some.injEq] at hl
    subst hl
    obtain ⟨s, rfl, rfl, h1⟩ := DataW.trod_string hu h
    have := hb s.data.toList.length (by simp [DataW.weights])
    exact ⟨⟨s, rfl, by simpa using this⟩, trivial⟩
   | struct fs =>
    simp only at hl
    split at hl
    ·rename_i l hf
     split at hl
     ·rename_i hlen
      obtain rfl : l = ls := Option.some.inj hl
      unfold DataW.trod at h
      simp only [hu] at h
      split at h
      ·rename_i hcs
       cases hm : fs.toList.mapM fun f => DataW.trod enc P w base sp held fuel f.type ((cs.drop f.offset).take (P.cellsOf f.type)) with
       | none => rw [hm] at h; cases h
       | some xs =>
        rw [hm] at h
        obtain rfl : (DataW.agg (xs.map (·.1)), xs.flatMap (·.2)) = x := Option.some.inj h
        have hb' : ∀ m ∈ DataW.weightsEach P (fs.toList.map (·.type)) (xs.map (·.1)), m ≤ B := fun m hm' => hb m (by simpa [DataW.weights, hu] using hm')
        have h1 := flatFB ih fs.toList 0 l hf (each_bound hm hb')
        rw [List.drop_zero, List.take_of_length_le (by omega)] at h1
        exact h1
      ·cases h
     ·cases hl
    ·cases hl
   | array m e =>
    simp only at hl
    split at hl
    ·rename_i l hf
     split at hl
     ·rename_i hlen
      obtain rfl : leavesA l m = ls := Option.some.inj hl
      unfold DataW.trod at h
      simp only [hu] at h
      split at h
      ·rename_i hcs
       cases hm : (List.range m).mapM fun i => DataW.trod enc P w base sp held fuel e ((cs.drop (i * P.cellsOf e)).take (P.cellsOf e)) with
       | none => rw [hm] at h; cases h
       | some xs =>
        rw [hm] at h
        obtain rfl : (DataW.agg (xs.map (·.1)), xs.flatMap (·.2)) = x := Option.some.inj h
        have hb' : ∀ m ∈ DataW.weightsAll P e (xs.map (·.1)), m ≤ B := fun m hm' => hb m (by simpa [DataW.weights, hu] using hm')
        have := flatAB (B := B) (cs := cs) hlen.1 m fun i hi => by
            obtain ⟨y, hy, hy2⟩ := all_bound hm hb' i (List.mem_range.2 hi)
            exact ih hf hy hy2
        rw [hlen.2, List.take_of_length_le (by omega)] at this
        exact this
      ·cases h
     ·cases hl
    ·cases hl
   | _ => simp at hl
theorem open_flatB {W : World} {r : Reach} {base : Nat} {sp0 : Nat → Bool} {t : TypeId} {v : Value} {d : DataW H} {p : List MemPlace} {ls : List Leaf} {ts : List TypeId} {ds : List (DataW H)} {j : Nat} (n : Nat)
    (hl : leaves P n t = some ls) (ha : isAggT P t = true) (hR : (DataW.weightsEach P ts ds).all (· ≤ reachBytes) = true) (ht : ts[j]? = some t) (hd : ds[j]? = some d) (hv : Value.okWide P W r base t v) (h : DataW.Trod enc P W 0 sp0 true t v d p) :
    ∃ cs : List Value, v = .agg ⟨cs⟩ ∧ p = [] ∧ fitsB reachBytes ls cs ∧ ∀ (W' : World) (sp : Nat → Bool), DataW.Trod enc P W' 0 sp true t (.agg ⟨cs⟩) d [] := by
 obtain ⟨cs, rfl, hp, _, hs⟩ := open_flat n hl ha hv h
 refine ⟨cs, rfl, hp, ?_, hs⟩
 obtain ⟨fuel, hf⟩ := h
 refine flatB fuel n hl hf fun m hm => ?_
 have := List.all_eq_true.1 hR _ (DataW.weights_mem_each ht hd m hm)
 simpa using this
end
end Go.Flat

end
section
namespace Go.Proofs.YtlblfgbpogljoaaGreatDoor
open Go Go.RowKit
open Vi
theorem DT.num_lt {w : World} {v : Value} {x : Nat} (h : DT w v x) : x < 256 ^ nd 256 x := h.1
end Go.Proofs.YtlblfgbpogljoaaGreatDoor

end
section
/- Contracts for the reckoner: integers; digits as rows. -/
namespace Go.Proofs.YtlblfgbpogljoaaGreatDoor
open Go Go.RowKit Go.Sy
open Vi
section
variable {f : FuncId}
end
end Go.Proofs.YtlblfgbpogljoaaGreatDoor
namespace Go.Proofs.YtlblfgbpogljoaaGreatDoor
open Go Go.RowKit Go.Sy
open Vi
end Go.Proofs.YtlblfgbpogljoaaGreatDoor
namespace Go.Proofs.YtlblfgbpogljoaaGreatDoor
open Go Go.RowKit Go.Sy
open Vi
end Go.Proofs.YtlblfgbpogljoaaGreatDoor
namespace Go.Proofs.YtlblfgbpogljoaaGreatDoor
open Go Go.RowKit
open Vi
set_option maxHeartbeats 400000 in
theorem sIsInt_c (b : Bool) (s : ByteArray) (w : World) (hs : s.size ≤ 9223372036854775807) : Calls Tryz.prog 159 #[.agg #[.bool b, .string s]] w fun e w' => e = .returned (.bool (okInt b s)) ∧ Below w.heap.size w w' := by
 cases he : s.toList.isEmpty
 ·have hp : 0 < s.size := by
    rcases Nat.eq_zero_or_pos s.size with h | h
    ·rw [toList_data] at he
     have : s.data.toList.length = 0 := h
     rw [List.eq_nil_of_length_eq_zero this] at he; simp at he
    ·exact h
  have hc := can_first s hp
  by_cases h0 : (s[0]'hp).toNat = 0
  ·have e : okInt b s = false := by
     unfold okInt; rw [he]
     have h1 : ¬ Vi.Can s := fun h => (hc.1 h) h0
     unfold Vi.Can at h1
     have h2 : s.data.toList.head? = some 0 := Decidable.byContradiction h1
     rw [h2]; rfl
   rw [e]
   clear hc
   go_enter Tryz.func159, Tryz.ntmps159
   go_wp2
   go_ret
   exact ⟨rfl, by (exact belA)⟩
  ·have e : okInt b s = true := by
     unfold okInt; rw [he]
     have h1 : Vi.Can s := hc.2 h0
     unfold Vi.Can at h1
     simp [h1]
   rw [e]
   have hb : ((s[0].toNat : Int) != 0) = true := by simpa using h0
   clear hc
   go_enter Tryz.func159, Tryz.ntmps159
   go_wp2
   go_ret
   exact ⟨by simp [h0], by (exact belA)⟩
 ·have e : okInt b s = !b := by unfold okInt; rw [he]; rfl
  rw [e]
  have hz : s.size = 0 := by
   rw [toList_data] at he
   have h2 : s.data.toList = [] := by simpa using he
   have : s.data.toList.length = 0 := by rw [h2]; rfl
   exact this
  cases b
  all_goals
   go_enter Tryz.func159, Tryz.ntmps159
   go_wp2
   go_ret
   exact ⟨rfl, by (exact belA)⟩
theorem okRat_rat (b1 : Bool) (s1 : ByteArray) (b2 : Bool) (s2 : ByteArray) (h : okRat b1 s1 b2 s2 = true) : ∃ q : Rat, b1 = sg q.num ∧ s1 = mg q.num ∧ b2 = sg (dn q) ∧ s2 = mg (dn q) := by
 unfold okRat at h
 simp only [Bool.and_eq_true, Bool.or_eq_true] at h
 obtain ⟨⟨⟨h1, h2⟩, h3⟩, h4⟩ := h
 obtain ⟨n, rfl, rfl⟩ := okInt_num b1 s1 h1
 obtain ⟨d, rfl, rfl⟩ := okInt_num b2 s2 h2
 have h5 : 0 ≤ d := by
  unfold sg at h3
  simpa using h3
 rcases h4 with h4 | h4
 ·have hd : d = 0 := by rw [mg_isEmpty] at h4; simpa using h4
  refine ⟨(n : Rat), rfl, rfl, ?_⟩
  rw [hd]
  exact ⟨rfl, rfl⟩
 ·rw [num_mg, num_mg] at h4
  by_cases hd : d = 0
  ·refine ⟨(n : Rat), rfl, rfl, ?_⟩
   rw [hd]
   exact ⟨rfl, rfl⟩
  ·have h6 : d.natAbs ≠ 1 ∧ Nat.gcd n.natAbs d.natAbs = 1 := by simpa using h4
   refine ⟨Rat.mk' n d.natAbs (by omega) h6.2, rfl, rfl, ?_⟩
   have e : dn (Rat.mk' n d.natAbs (by omega) h6.2) = d := by
    unfold dn
    rw [if_neg h6.1]
    show (d.natAbs : Int) = d
    omega
   rw [e]
   exact ⟨rfl, rfl⟩
end Go.Proofs.YtlblfgbpogljoaaGreatDoor
namespace Go.Proofs.YtlblfgbpogljoaaGreatDoor
open Go Go.RowKit Go.Sy
open Vi
theorem rIsInt (b : Bool) (s : ByteArray) (hs : s.size ≤ 9223372036854775807) : Sp Tryz.prog 159 [] [.agg #[.bool b, .string s]] (.bool (okInt b s)) [] := Sp.of (fun xs w => Tryz.call159 xs w) (by kernel_rfl) (by kernel_rfl) (fun w => sIsInt_c b s w hs)
end Go.Proofs.YtlblfgbpogljoaaGreatDoor
namespace Go.Proofs.YtlblfgbpogljoaaGreatDoor
open Go Go.RowKit Go.Sy
open Vi
end Go.Proofs.YtlblfgbpogljoaaGreatDoor
namespace Go.Proofs.YtlblfgbpogljoaaGreatDoor
open Go Go.RowKit Go.Sy
open Vi
end Go.Proofs.YtlblfgbpogljoaaGreatDoor
namespace Go.Proofs.YtlblfgbpogljoaaGreatDoor
open Go Go.RowKit Go.Sy
open Vi
theorem isOne {s : ByteArray} (h : okInt false s = true) : (s.toList == (⟨#[1]⟩ : ByteArray).toList) = (num s == 1) := by
 obtain ⟨z, h1, rfl⟩ := okInt_num false s h
 rw [num_mg, ← mg1]
 have := int_beq z 1
 rw [← h1, show sg 1 = false by decide] at this
 simp only [BEq.rfl, Bool.true_and] at this
 rw [this]
 have : 0 ≤ z := by
  have h1 := h1.symm
  unfold sg at h1
  have : ¬ z < 0 := by simpa using h1
  omega
 rw [Bool.eq_iff_iff]
 simp
 omega
theorem rCheck (b1 : Bool) (s1 : ByteArray) (b2 : Bool) (s2 : ByteArray) (h1 : s1.size ≤ 131000) (h2 : s2.size ≤ 131000) : Sp Tryz.prog 121 [] [.agg #[.bool b1, .string s1, .bool b2, .string s2]] (.bool (okRat b1 s1 b2 s2)) [] := by
 have c1 := rIsInt b1 s1 (by omega)
 have c2 := rIsInt b2 s2 (by omega)
 unfold okRat
 cases k1 : okInt b1 s1 <;> rw [k1] at c1
 ·exact walk (code := Tryz.f121.body.getD .skip) [c c1] fol Tryz.func121 (by kernel_rfl) (fun xs w => Tryz.call121 xs w) (by kernel_rfl)
 cases k2 : okInt b2 s2 <;> rw [k2] at c2
 ·exact walk (code := Tryz.f121.body.getD .skip) [c c1, c c2] fol Tryz.func121 (by kernel_rfl) (fun xs w => Tryz.call121 xs w) (by kernel_rfl)
 cases b2
 case true => exact walk (code := Tryz.f121.body.getD .skip) [c c1, c c2] fol Tryz.func121 (by kernel_rfl) (fun xs w => Tryz.call121 xs w) (by kernel_rfl)
 cases k3 : (s2.toList == [])
 ·have n1 : nd 256 (num s1) ≤ 131000 := Nat.le_trans (nd_le 256 (by omega) _ s1.size (num_lt s1)) h1
  have n2 : nd 256 (num s2) ≤ 131000 := Nat.le_trans (nd_le 256 (by omega) _ s2.size (num_lt s2)) h2
  have k4 : s2.toList.isEmpty = false := by rw [← k3]; cases s2.toList <;> rfl
  have hi := isOne k2
  have hC := dCommon (num s1) (num s2) (by omega) (by omega)
  rw [k4, Nat.gcd_comm (num s1) (num s2)]
  obtain ⟨G, hG⟩ : ∃ G, G = Nat.gcd (num s2) (num s1) := ⟨_, rfl⟩
  rw [← hG] at hC ⊢
  have hd1 := dDigits b1 s1 (by omega)
  have hd2 := dDigits false s2 (by omega)
  cases k5 : (num s2 == 1)
  ·rw [show (num s2 != 1) = true by show (!(num s2 == 1)) = true; rw [k5]; rfl]
   have e5 : (!(s2.toList == (⟨#[1]⟩ : ByteArray).toList)) = true := by rw [hi, k5]; rfl
   by_cases k6 : nd 256 G = 1
   ·have g0 : 0 < G := by
      rcases Nat.eq_zero_or_pos G with h | h
      ·rw [h, nd_zero] at k6; omega
      ·exact h
    have g1 : G < 256 := by have := lt_pow_nd 256 (by omega) G; rw [k6] at this; simpa using this
    rw [k6, rD_small G g0 g1] at hC
    have e7 : ((true && true && !false && (false || true && G == 1)) : Bool) = decide ((G : Int) = 1) := by
     rw [Bool.eq_iff_iff]; simp; omega
    show Sp _ _ _ _ (.bool (true && true && !false && (false || true && G == 1))) _
    rw [e7]
    exact walk (code := Tryz.f121.body.getD .skip) [c c1, c c2, L, eb k3, cr hd1, cr hd2, cr hC, eb e5] fol Tryz.func121 (by kernel_rfl) (fun xs w => Tryz.call121 xs w) (by kernel_rfl)
   ·have e6 : decide ((nd 256 G : Int) = 1) = false := decide_eq_false (by omega)
    have e7 : (G == 1) = false := by
     have : G ≠ 1 := fun h => k6 (by rw [h]; exact nd_small 1 (by omega) (by omega))
     simpa using this
    rw [e7]
    exact walk (code := Tryz.f121.body.getD .skip) [c c1, c c2, L, eb k3, cr hd1, cr hd2, cr hC, eb e5, eb e6] fol Tryz.func121 (by kernel_rfl) (fun xs w => Tryz.call121 xs w) (by kernel_rfl)
  ·rw [show (num s2 != 1) = false by show (!(num s2 == 1)) = false; rw [k5]; rfl]
   have e5 : (!(s2.toList == (⟨#[1]⟩ : ByteArray).toList)) = false := by rw [hi, k5]; rfl
   exact walk (code := Tryz.f121.body.getD .skip) [c c1, c c2, L, eb k3, cr hd1, cr hd2, cr hC, eb e5] fol Tryz.func121 (by kernel_rfl) (fun xs w => Tryz.call121 xs w) (by kernel_rfl)
 ·have k4 : s2.toList.isEmpty = true := by rw [← k3]; cases s2.toList <;> rfl
  rw [k4]
  exact walk (code := Tryz.f121.body.getD .skip) [c c1, c c2, L, eb k3] fol Tryz.func121 (by kernel_rfl) (fun xs w => Tryz.call121 xs w) (by kernel_rfl)
end Go.Proofs.YtlblfgbpogljoaaGreatDoor
namespace Go.Proofs.YtlblfgbpogljoaaGreatDoor
open Go Go.RowKit Go.Sy
open Vi
end Go.Proofs.YtlblfgbpogljoaaGreatDoor
namespace Go.Proofs.YtlblfgbpogljoaaGreatDoor
open Go Go.RowKit Go.Sy
open Vi
end Go.Proofs.YtlblfgbpogljoaaGreatDoor

end
section
/- Reference 04: numbers with a root, functions and their values. -/
namespace Go.Proofs.YtlblfgbpogljoaaGreatDoor
open Go Go.RowKit Go.Sy
open Vi
theorem vDegree (a b c : Rat) : Sp Tryz.prog 40 [] [qV a b c] (nV (dgQ a b c)) [] := by
 unfold dgQ
 have S1 := rSgn c
 have S2 := rSgn b
 have S3 := rSgn a
 have e1 := sgQ_ne0 c
 have e2 := sgQ_ne0 b
 have e3 := sgQ_ne0 a
 generalize sgQ c = z1 at *
 generalize sgQ b = z2 at *
 generalize sgQ a = z3 at *
 by_cases h1 : c = 0
 ·rw [decide_eq_false (by simp [h1])] at e1
  rw [if_neg (by simp [h1])]
  by_cases h2 : b = 0
  ·rw [decide_eq_false (by simp [h2])] at e2
   rw [if_neg (by simp [h2])]
   by_cases h3 : a = 0
   ·rw [decide_eq_false (by simp [h3])] at e3
    rw [if_neg (by simp [h3])]
    clear h1 h2 h3
    exact walk (code := Tryz.f40.body.getD .skip) [Sy.c S1, eb e1, Sy.c S2, eb e2, Sy.c S3, eb e3] fol Tryz.func40 (by kernel_rfl) (fun xs w => Tryz.call40 xs w) (by kernel_rfl)
   ·rw [decide_eq_true h3] at e3
    rw [if_pos h3]
    clear h1 h2 h3
    exact walk (code := Tryz.f40.body.getD .skip) [Sy.c S1, eb e1, Sy.c S2, eb e2, Sy.c S3, eb e3] fol Tryz.func40 (by kernel_rfl) (fun xs w => Tryz.call40 xs w) (by kernel_rfl)
  ·rw [decide_eq_true h2] at e2
   rw [if_pos h2]
   clear h1 h2
   exact walk (code := Tryz.f40.body.getD .skip) [Sy.c S1, eb e1, Sy.c S2, eb e2] fol Tryz.func40 (by kernel_rfl) (fun xs w => Tryz.call40 xs w) (by kernel_rfl)
 ·rw [decide_eq_true h1] at e1
  rw [if_pos h1]
  clear h1
  exact walk (code := Tryz.f40.body.getD .skip) [Sy.c S1, eb e1] fol Tryz.func40 (by kernel_rfl) (fun xs w => Tryz.call40 xs w) (by kernel_rfl)
end Go.Proofs.YtlblfgbpogljoaaGreatDoor

end
section
/- Chapter 4's law about checks and degrees. -/
namespace Go.Proofs.YtlblfgbpogljoaaGreatDoor
open Go Go.RowKit Go.Sy
open Vi
abbrev frV (b1 : Bool) (s1 : ByteArray) (b2 : Bool) (s2 : ByteArray) : Value := .agg #[.bool b1, .string s1, .bool b2, .string s2]
abbrev quV (b1 : Bool) (s1 : ByteArray) (b2 : Bool) (s2 : ByteArray) (b3 : Bool) (s3 : ByteArray) (b4 : Bool) (s4 : ByteArray) (b5 : Bool) (s5 : ByteArray) (b6 : Bool) (s6 : ByteArray) : Value := .agg #[.bool b1, .string s1, .bool b2, .string s2, .bool b3, .string s3, .bool b4, .string s4, .bool b5, .string s5, .bool b6, .string s6]
theorem wShort (b1 : Bool) (s1 : ByteArray) (b2 : Bool) (s2 : ByteArray) : ∃ q, Sp Tryz.prog 66 [] [frV b1 s1 b2 s2] (.bool q) [] ∧ (q = true → s1.size ≤ 40 ∧ s2.size ≤ 40) := by
 by_cases c1 : s1.size ≤ 40
 ·have e1 : decide ((s1.size : Int) ≤ 40) = true := decide_eq_true (by omega)
  by_cases c2 : s2.size ≤ 40
  ·have e2 : decide ((s2.size : Int) ≤ 40) = true := decide_eq_true (by omega)
   refine ⟨true, ?_, fun _ => ⟨c1, c2⟩⟩
   clear c1 c2
   exact walk (code := Tryz.f66.body.getD .skip) [L, eb e1, L, eb e2] fol Tryz.func66 (by kernel_rfl) (fun xs w => Tryz.call66 xs w) (by kernel_rfl)
  ·have e2 : decide ((s2.size : Int) ≤ 40) = false := decide_eq_false (by omega)
   refine ⟨false, ?_, fun h => by cases h⟩
   clear c1 c2
   exact walk (code := Tryz.f66.body.getD .skip) [L, eb e1, L, eb e2] fol Tryz.func66 (by kernel_rfl) (fun xs w => Tryz.call66 xs w) (by kernel_rfl)
 ·have e1 : decide ((s1.size : Int) ≤ 40) = false := decide_eq_false (by omega)
  refine ⟨false, ?_, fun h => by cases h⟩
  clear c1
  exact walk (code := Tryz.f66.body.getD .skip) [L, eb e1] fol Tryz.func66 (by kernel_rfl) (fun xs w => Tryz.call66 xs w) (by kernel_rfl)
section
variable (b1 : Bool) (s1 : ByteArray) (b2 : Bool) (s2 : ByteArray) (b3 : Bool) (s3 : ByteArray) (b4 : Bool) (s4 : ByteArray) (b5 : Bool) (s5 : ByteArray) (b6 : Bool) (s6 : ByteArray)
theorem uCk1 (A : Sp Tryz.prog 123 [] [frV b1 s1 b2 s2] (nV 5) []) : Sp Tryz.prog 67 [] [quV b1 s1 b2 s2 b3 s3 b4 s4 b5 s5 b6 s6] (nV 5) [] := by
 exact walk (code := Tryz.f67.body.getD .skip) [c A] fol Tryz.func67 (by kernel_rfl) (fun xs w => Tryz.call67 xs w) (by kernel_rfl)
theorem uCk2 (A : Sp Tryz.prog 123 [] [frV b1 s1 b2 s2] (nV 0) []) (B : Sp Tryz.prog 123 [] [frV b3 s3 b4 s4] (nV 5) []) : Sp Tryz.prog 67 [] [quV b1 s1 b2 s2 b3 s3 b4 s4 b5 s5 b6 s6] (nV 5) [] := by
 exact walk (code := Tryz.f67.body.getD .skip) [c A, c B] fol Tryz.func67 (by kernel_rfl) (fun xs w => Tryz.call67 xs w) (by kernel_rfl)
theorem uCk3 (A : Sp Tryz.prog 123 [] [frV b1 s1 b2 s2] (nV 0) []) (B : Sp Tryz.prog 123 [] [frV b3 s3 b4 s4] (nV 0) []) (C : Sp Tryz.prog 123 [] [frV b5 s5 b6 s6] (nV 5) []) : Sp Tryz.prog 67 [] [quV b1 s1 b2 s2 b3 s3 b4 s4 b5 s5 b6 s6] (nV 5) [] := by
 exact walk (code := Tryz.f67.body.getD .skip) [c A, c B, c C] fol Tryz.func67 (by kernel_rfl) (fun xs w => Tryz.call67 xs w) (by kernel_rfl)
theorem uCk4 (A : Sp Tryz.prog 123 [] [frV b1 s1 b2 s2] (nV 0) []) (B : Sp Tryz.prog 123 [] [frV b3 s3 b4 s4] (nV 0) []) (C : Sp Tryz.prog 123 [] [frV b5 s5 b6 s6] (nV 0) []) : Sp Tryz.prog 67 [] [quV b1 s1 b2 s2 b3 s3 b4 s4 b5 s5 b6 s6] (nV 0) [] := by
 exact walk (code := Tryz.f67.body.getD .skip) [c A, c B, c C] fol Tryz.func67 (by kernel_rfl) (fun xs w => Tryz.call67 xs w) (by kernel_rfl)
theorem vCk1 (A : Sp Tryz.prog 121 [] [frV b1 s1 b2 s2] (.bool false) []) : Sp Tryz.prog 59 [] [quV b1 s1 b2 s2 b3 s3 b4 s4 b5 s5 b6 s6] (.bool false) [] := by
 exact walk (code := Tryz.f59.body.getD .skip) [c A] fol Tryz.func59 (by kernel_rfl) (fun xs w => Tryz.call59 xs w) (by kernel_rfl)
theorem vCk2 (A : Sp Tryz.prog 121 [] [frV b1 s1 b2 s2] (.bool true) []) (B : Sp Tryz.prog 121 [] [frV b3 s3 b4 s4] (.bool false) []) : Sp Tryz.prog 59 [] [quV b1 s1 b2 s2 b3 s3 b4 s4 b5 s5 b6 s6] (.bool false) [] := by
 exact walk (code := Tryz.f59.body.getD .skip) [c A, c B] fol Tryz.func59 (by kernel_rfl) (fun xs w => Tryz.call59 xs w) (by kernel_rfl)
theorem vCk3 (q : Bool) (A : Sp Tryz.prog 121 [] [frV b1 s1 b2 s2] (.bool true) []) (B : Sp Tryz.prog 121 [] [frV b3 s3 b4 s4] (.bool true) []) (C : Sp Tryz.prog 121 [] [frV b5 s5 b6 s6] (.bool q) []) : Sp Tryz.prog 59 [] [quV b1 s1 b2 s2 b3 s3 b4 s4 b5 s5 b6 s6] (.bool q) [] := by
 exact walk (code := Tryz.f59.body.getD .skip) [c A, c B, c C] fol Tryz.func59 (by kernel_rfl) (fun xs w => Tryz.call59 xs w) (by kernel_rfl)
end
theorem QuadraticChecks_s (b1 : Bool) (s1 : ByteArray) (b2 : Bool) (s2 : ByteArray) (b3 : Bool) (s3 : ByteArray) (b4 : Bool) (s4 : ByteArray) (b5 : Bool) (s5 : ByteArray) (b6 : Bool) (s6 : ByteArray) (h1 : s1.size ≤ 4611686018427387903) (h2 : s2.size ≤ 4611686018427387903) (h3 : s3.size ≤ 4611686018427387903) (h4 : s4.size ≤ 4611686018427387903) (h5 : s5.size ≤ 4611686018427387903) (h6 : s6.size ≤ 4611686018427387903) : Sp Tryz.prog 13 [] [.agg #[.bool b1, .string s1, .bool b2, .string s2, .bool b3, .string s3, .bool b4, .string s4, .bool b5, .string s5, .bool b6, .string s6]] (.bool true) [] := by
 have K := vKnown4
 clear h1 h2 h3 h4 h5 h6
 obtain ⟨q1, S1, z1⟩ := wShort b1 s1 b2 s2
 cases q1
 ·clear z1
  exact walk (code := Tryz.f13.body.getD .skip) [c K, c S1, c K] fol Tryz.func13 (by kernel_rfl) (fun xs w => Tryz.call13 xs w) (by kernel_rfl)
 obtain ⟨q2, S2, z2⟩ := wShort b3 s3 b4 s4
 cases q2
 ·clear z1 z2
  exact walk (code := Tryz.f13.body.getD .skip) [c K, c S1, c S2, c K] fol Tryz.func13 (by kernel_rfl) (fun xs w => Tryz.call13 xs w) (by kernel_rfl)
 obtain ⟨q3, S3, z3⟩ := wShort b5 s5 b6 s6
 cases q3
 ·clear z1 z2 z3
  exact walk (code := Tryz.f13.body.getD .skip) [c K, c S1, c S2, c S3, c K] fol Tryz.func13 (by kernel_rfl) (fun xs w => Tryz.call13 xs w) (by kernel_rfl)
 obtain ⟨l1, l2⟩ := z1 rfl
 obtain ⟨l3, l4⟩ := z2 rfl
 obtain ⟨l5, l6⟩ := z3 rfl
 have A := pCheck b1 s1 b2 s2 (by omega) (by omega)
 have B := pCheck b3 s3 b4 s4 (by omega) (by omega)
 have C := pCheck b5 s5 b6 s6 (by omega) (by omega)
 have D := rCheck b1 s1 b2 s2 (by omega) (by omega)
 have E := rCheck b3 s3 b4 s4 (by omega) (by omega)
 have G := rCheck b5 s5 b6 s6 (by omega) (by omega)
 clear z1 z2 z3
 cases k1 : okRat b1 s1 b2 s2
 ·rw [k1] at A D
  have U := uCk1 b1 s1 b2 s2 b3 s3 b4 s4 b5 s5 b6 s6 A
  have V := vCk1 b1 s1 b2 s2 b3 s3 b4 s4 b5 s5 b6 s6 D
  clear l1 l2 l3 l4 l5 l6 A B C D E G k1
  exact walk (code := Tryz.f13.body.getD .skip) [c K, c S1, c S2, c S3, c V, c U] fol Tryz.func13 (by kernel_rfl) (fun xs w => Tryz.call13 xs w) (by kernel_rfl)
 cases k2 : okRat b3 s3 b4 s4
 ·rw [k1] at A D
  rw [k2] at B E
  have U := uCk2 b1 s1 b2 s2 b3 s3 b4 s4 b5 s5 b6 s6 A B
  have V := vCk2 b1 s1 b2 s2 b3 s3 b4 s4 b5 s5 b6 s6 D E
  clear l1 l2 l3 l4 l5 l6 A B C D E G k1 k2
  exact walk (code := Tryz.f13.body.getD .skip) [c K, c S1, c S2, c S3, c V, c U] fol Tryz.func13 (by kernel_rfl) (fun xs w => Tryz.call13 xs w) (by kernel_rfl)
 cases k3 : okRat b5 s5 b6 s6
 ·rw [k1] at A D
  rw [k2] at B E
  rw [k3] at C G
  have U := uCk3 b1 s1 b2 s2 b3 s3 b4 s4 b5 s5 b6 s6 A B C
  have V := vCk3 b1 s1 b2 s2 b3 s3 b4 s4 b5 s5 b6 s6 false D E G
  clear l1 l2 l3 l4 l5 l6 A B C D E G k1 k2 k3
  exact walk (code := Tryz.f13.body.getD .skip) [c K, c S1, c S2, c S3, c V, c U] fol Tryz.func13 (by kernel_rfl) (fun xs w => Tryz.call13 xs w) (by kernel_rfl)
 rw [k1] at A D
 rw [k2] at B E
 rw [k3] at C G
 have U := uCk4 b1 s1 b2 s2 b3 s3 b4 s4 b5 s5 b6 s6 A B C
 have V := vCk3 b1 s1 b2 s2 b3 s3 b4 s4 b5 s5 b6 s6 true D E G
 obtain ⟨a, rfl, rfl, rfl, rfl⟩ := okRat_rat b1 s1 b2 s2 k1
 obtain ⟨b, rfl, rfl, rfl, rfl⟩ := okRat_rat b3 s3 b4 s4 k2
 obtain ⟨c, rfl, rfl, rfl, rfl⟩ := okRat_rat b5 s5 b6 s6 k3
 have Y := uDegree a b c
 have Z := vDegree a b c
 clear l1 l2 l3 l4 l5 l6 A B C D E G k1 k2 k3
 unfold qV at Y Z
 generalize dgQ a b c = dg at *
 have e : decide (dg = dg) = true := decide_eq_true rfl
 exact walk (code := Tryz.f13.body.getD .skip) [Sy.c K, Sy.c S1, Sy.c S2, Sy.c S3, Sy.c V, Sy.c U, Sy.c Y, Sy.c Z, eb e] fol Tryz.func13 (by kernel_rfl) (fun xs w => Tryz.call13 xs w) (by kernel_rfl)
theorem QuadraticChecks_c (b1 : Bool) (s1 : ByteArray) (b2 : Bool) (s2 : ByteArray) (b3 : Bool) (s3 : ByteArray) (b4 : Bool) (s4 : ByteArray) (b5 : Bool) (s5 : ByteArray) (b6 : Bool) (s6 : ByteArray) (w : World) (hw : w.ShapedOpen Tryz.prog) (h1 : s1.size ≤ 4611686018427387903) (h2 : s2.size ≤ 4611686018427387903) (h3 : s3.size ≤ 4611686018427387903) (h4 : s4.size ≤ 4611686018427387903) (h5 : s5.size ≤ 4611686018427387903) (h6 : s6.size ≤ 4611686018427387903) : Calls Tryz.prog 13 #[.agg #[.bool b1, .string s1, .bool b2, .string s2, .bool b3, .string s3, .bool b4, .string s4, .bool b5, .string s5, .bool b6, .string s6]] w fun e w' => e = .returned (.bool true) ∧ Below w.heap.size w w' := (QuadraticChecks_s b1 s1 b2 s2 b3 s3 b4 s4 b5 s5 b6 s6 h1 h2 h3 h4 h5 h6).calls rfl rfl w hw
end Go.Proofs.YtlblfgbpogljoaaGreatDoor

end
