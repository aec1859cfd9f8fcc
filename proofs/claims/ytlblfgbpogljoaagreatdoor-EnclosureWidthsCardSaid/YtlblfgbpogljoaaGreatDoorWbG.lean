/- Part 7 of the proof; what it holds is said text by text. -/
import Derived.Test.YtlblfgbpogljoaaGreatDoorWbF
import Derived.Test.YtlblfgbpogljoaaGreatDoorWbC
import Derived.OwnWalk
import Derived.Deep.DeepCutAuto
import Derived.Deep.CutBlock
set_option linter.unusedSimpArgs false
set_option linter.unusedVariables false
section
/- No program in sight: worlds alike but for some blocks that may have turned into known objects (for XRel's law: regions with several stores of results). -/
namespace Go
open Go.RowKit
def MR (L : List (Nat × Obj)) (w w' : World) : Prop := w'.os = w.os ∧ w'.tape = w.tape ∧ w'.output = w.output ∧ w.heap.size ≤ w'.heap.size ∧ ∀ j, j < w.heap.size → w'.heap[j]? = w.heap[j]? ∨ ∃ O, (j, O) ∈ L ∧ w'.heap[j]? = some O
theorem MR.of_below {L : List (Nat × Obj)} {w w' : World} (h : Below w.heap.size w w') : MR L w w' := ⟨h.os, h.tape, h.output, h.size, fun j hj => .inl (h.block j hj)⟩
theorem MR.refl (L : List (Nat × Obj)) (w : World) : MR L w w := MR.of_below (Below.refl _ _)
theorem MR.trans {L : List (Nat × Obj)} {a b c : World} (h1 : MR L a b) (h2 : MR L b c) : MR L a c := by
 obtain ⟨a1, a2, a3, a4, a5⟩ := h1
 obtain ⟨b1, b2, b3, b4, b5⟩ := h2
 refine ⟨b1.trans a1, b2.trans a2, b3.trans a3, Nat.le_trans a4 b4, fun j hj => ?_⟩
 rcases b5 j (by omega) with h | h
 ·rw [h]; exact a5 j hj
 ·exact .inr h
theorem MR.size {L : List (Nat × Obj)} {w w' : World} (h : MR L w w') : w.heap.size ≤ w'.heap.size := h.2.2.2.1
theorem MR.block {L : List (Nat × Obj)} {w w' : World} (h : MR L w w') {j : Nat} {o : Obj} (hj : w.heap[j]? = some o) (hn : ∀ O, (j, O) ∉ L) : w'.heap[j]? = some o := by
 rcases h.2.2.2.2 j (Array.getElem?_eq_some_iff.1 hj).1 with h1 | ⟨O, h1, _⟩
 ·rw [h1, hj]
 ·exact absurd h1 (hn O)
theorem MR.cell {L : List (Nat × Obj)} {w w' : World} (h : MR L w w') {b i : Nat} {v : Value} (hc : w.cell? ⟨b, i, none⟩ = some v) (hn : ∀ O, (b, O) ∉ L) : w'.cell? ⟨b, i, none⟩ = some v := by
 rw [← hc]
 apply World.cell?_of_block
 rcases h.2.2.2.2 b (World.block_lt_of_cell? _ _ hc) with h1 | ⟨O, h1, _⟩
 ·exact h1
 ·exact absurd h1 (hn O)
theorem MR.two {L : List (Nat × Obj)} {w w' : World} (h : MR L w w') {k : Nat} {ty : TypeId} {a b c d : Value} (hk : w.heap[k]? = some (.cells #[a, b] ty (0, 0))) (hu : ∀ O', (k, O') ∈ L → O' = .cells #[c, d] ty (0, 0)) : ∃ x y, w'.heap[k]? = some (.cells #[x, y] ty (0, 0)) := by
 rcases h.2.2.2.2 k (Array.getElem?_eq_some_iff.1 hk).1 with h1 | ⟨O', h1, h2⟩
 ·exact ⟨a, b, by rw [h1, hk]⟩
 ·exact ⟨c, d, by rw [h2, hu O' h1]⟩
theorem MR.row {L : List (Nat × Obj)} {w : World} {k : Nat} {ty : TypeId} {c : Array Value} (hk : k < w.heap.size) (hL : (k, Obj.cells c ty (0, 0)) ∈ L) : MR L w (w.row k ty c) ∧ (w.row k ty c).heap[k]? = some (.cells c ty (0, 0)) := by
 have hs := World.heap_row_same w k ty c hk
 refine ⟨⟨rfl, rfl, rfl, by rw [World.size_row]; exact Nat.le_refl _, fun j hj => ?_⟩, hs⟩
 by_cases e : j = k
 ·subst e; exact .inr ⟨_, hL, hs⟩
 ·exact .inl (World.heap_row_other w k ty c j e)
theorem cell_at {w : World} {g i : Nat} {cs : Array Value} {ty : TypeId} (h : w.heap[g]? = some (.cells cs ty (0, 0))) : w.cell? ⟨g, i, none⟩ = cs[i]? := by
 unfold World.cell?
 rw [h]; rfl
theorem row_ex {w : World} {k : Nat} {ty : TypeId} {c : Array Value} (h : w.heap[k]? = some (.cells c ty (0, 0))) : ∃ w8 : World, w = w8.row k ty c ∧ k < w8.heap.size := ⟨w, (World.row_self w k ty c h).symm, (Array.getElem?_eq_some_iff.1 h).1⟩
theorem MR.below {L : List (Nat × Obj)} {w0 w w' : World} {B : Nat} (h : MR L w w') (hb : Below B w0 w) (hB : B ≤ w.heap.size) (hL : ∀ k O, (k, O) ∈ L → B ≤ k) : Below B w0 w' := by
 obtain ⟨a1, a2, a3, a4, a5⟩ := h
 refine ⟨a1.trans hb.os, a2.trans hb.tape, a3.trans hb.output, Nat.le_trans hb.size a4, fun j hj => ?_⟩
 rcases a5 j (by omega) with h1 | ⟨O, h1, _⟩
 ·rw [h1, hb.block j hj]
 ·have := hL j O h1; omega
end Go

end
section
namespace Go.Proofs.YtlblfgbpogljoaaGreatDoor
open Go Go.RowKit
open Vi
def DT (w : World) (v : Value) (x : Nat) : Prop := Dl w v (nd 256 x) x
theorem DT.below {w w' : World} {v : Value} {x : Nat} (h : DT w v x) (hb : Below w.heap.size w w') : DT w' v x := Dl.below h hb
theorem DT.nil (w : World) : DT w (.slice none 0 0) 0 := ⟨by rw [nd_zero]; omega, .inl ⟨rfl, rfl⟩⟩
set_option maxHeartbeats 800000 in
theorem strimF_c (v : Value) (n x : Nat) (w : World) (h : Dl w v n x) (hn : n ≤ 8589934592) : Calls Tryz.prog 141 #[v] w fun e w' => ∃ v', e = .returned v' ∧ DT w' v' x ∧ (∀ k, v'.ownBlock = some k → v.ownBlock = some k) ∧ w = w' := by
 rcases h.2 with ⟨rfl, rfl⟩ | ⟨g, c, rfl, hc, hm, hg, hcell⟩
 ·have hx : x = 0 := by have := h.1; rw [Nat.pow_zero] at this; omega
  subst hx
  clear h
  go_enter Tryz.func141, Tryz.ntmps141
  go_wp2
  go_rounds 1
  go_wp2
  go_ret
  exact ⟨_, rfl, DT.nil _, fun k h => h, rfl⟩
 ·have hle := nd_le 256 (by omega) x n h.1
  have HC := Lib.hid hcell
  have hDT : Hid (nd 256 x ≤ c → DT w (.slice (some ⟨g, 0, none⟩) (nd 256 x) c) x) := Lib.hid fun hc2 => ⟨lt_pow_nd 256 (by omega) x, .inr ⟨g, c, rfl, hc2, hm, hg, fun i hi => HC.out i (by omega)⟩⟩
  clear h hcell
  go_enter Tryz.func141, Tryz.ntmps141
  go_wp2_with fail
  go_loop [3] (fun v => ∃ j : Nat, nd 256 x ≤ j ∧ j ≤ n ∧ v = .int .i64 j) (fun v => (intOf v).toNat)
  case atStart => exact ⟨n, hle, Nat.le_refl _, rfl⟩
  case round =>
   obtain ⟨j, h1, h2, rfl⟩ := hrel
   by_cases hj : j = 0
   ·subst hj
    have e0 : nd 256 x = 0 := by omega
    have H0 := Lib.hid e0
    have h0c : (0 : Int) ≤ (c : Int) := by omega
    clear e0 h1 hle
    go_wp2_with fail
    go_ret
    have := hDT.out (by have := H0.out; omega)
    rw [H0.out] at this
    exact ⟨_, rfl, this, fun k h => h, rfl⟩
   ·obtain ⟨m, hm⟩ : ∃ m, j = m + 1 := ⟨j - 1, by omega⟩
    have hcell := HC.out m (by omega)
    have hj0 : (0 : Int) < (j : Int) := by omega
    have e1 : (j : Int) - 1 = (m : Int) := by omega
    have hmn : m < n := by omega
    have hmi : (m : Int) < (n : Int) := by omega
    have Hm := Lib.hid hm
    have Ht : Hid (nd 256 x ≤ m + 1) := Lib.hid (by omega)
    by_cases h0 : d8 x m = 0
    ·have hb : ((d8 x m : Int) == 0) = true := by rw [h0]; rfl
     have H := Lib.hid (nd_low8 x m Ht.out h0)
     clear h0 hm h1 hle
     go_wp2_with fail
     exact ⟨⟨m, H.out, by omega, rfl⟩, by have := Hm.out; simp [intOf]; omega⟩
    ·have hb : ((d8 x m : Int) == 0) = false := by rw [beq_eq_false_iff_ne]; omega
     have hnd := nd_top8 x m Ht.out h0
     rw [← hm] at hnd
     have H := Lib.hid hnd
     have hjc : j ≤ c := by omega
     have hjc2 : (j : Int) ≤ (c : Int) := by omega
     clear h0 hnd h1 hle hm
     go_wp2_with fail
     go_ret
     have := hDT.out (by rw [H.out]; exact hjc)
     rw [H.out] at this
     exact ⟨_, rfl, this, fun k h => h, rfl⟩
theorem strim_c (v : Value) (n x : Nat) (w : World) (h : Dl w v n x) (hn : n ≤ 8589934592) : Calls Tryz.prog 141 #[v] w fun e w' => ∃ v', e = .returned v' ∧ DT w' v' x ∧ w = w' :=
 (strimF_c v n x w h hn).mono fun e w' ⟨v', he, hd, _, hw⟩ => ⟨v', he, hd, hw⟩
set_option maxHeartbeats 400000 in
theorem sdigitsF_c (b : Bool) (s : ByteArray) (w : World) (hs : s.size ≤ 4294967296) : Calls Tryz.prog 137 #[.agg #[.bool b, .string s]] w fun e w' => ∃ v, e = .returned v ∧ DT w' v (num s) ∧ (∀ k, v.ownBlock = some k → w.heap.size ≤ k) ∧ Below w.heap.size w w' := by
 obtain ⟨i0, hi, hz0, hz1, hz2⟩ := info_parts info3
 have hx := Lib.hid (num_lt s)
 go_enter Tryz.func137, Tryz.ntmps137
 go_wp2
 go_loopw [3, 4] (fun v i wr => ∃ p k : Nat, p + k = s.size ∧ i = .int .i64 ((p : Int) - 1) ∧ wr.ownsRow (w.heap.size + 1) 3 1 v k (dvals (num s) k) ∧ Below (w.heap.size + 1) (w.alloc (.cells #[.bool b, .string s] 26)) wr) (fun _ i _ => (intOf i + 1).toNat)
 case atStart => exact ⟨s.size, 0, rfl, rfl, World.ownsRow_nil _ _ _ _, Below.refl _ _⟩
 case round =>
  obtain ⟨p, k, hpk, rfl, hown, hbel⟩ := hrel
  have hc0 := hbel.cell (p := ⟨w.heap.size, 0, none⟩) (by simp)
  have hc1 := hbel.cell (p := ⟨w.heap.size, 1, none⟩) (by simp)
  simp [go_sem] at hc0 hc1
  cases p with
  | zero =>
   have e : k = s.size := by omega
   subst e
   have hdl := Dl.of_owned hown hx.out
   have hbw : Below w.heap.size w wr := (Below.alloc (Below.refl _ _) (Nat.le_refl _) _).trans (hbel.mono (Nat.le_succ _))
   have HDL := Lib.hid hdl
   have HFR := Lib.hid (fun k h => Nat.le_of_succ_le (hown.lt k h).1)
   clear hown hbel hc0 hc1 hpk hdl
   go_wp2_with fail
   refine (strimF_c _ _ _ _ HDL.out (by omega)).mono ?_
   rintro e w' ⟨v', rfl, hdt, hfr, rfl⟩
   have HDT := Lib.hid hdt
   have HF2 := Lib.hid (fun k h => HFR.out k (hfr k h))
   clear hdt hfr
   go_wp2_with fail
   go_ret
   exact ⟨_, rfl, HDT.out, HF2.out, hbw⟩
  | succ q =>
   have hq : ((q + 1 : Nat) : Int) - 1 = (q : Int) := by omega
   rw [hq]
   have hq1 : (0 : Int) ≤ (q : Int) := by omega
   have hq2 : q < s.size := by omega
   have hget : (s[q]'hq2).toNat = d8 (num s) k := by rw [get_num, show s.size - 1 - q = k by omega]; rfl
   have hd := d8_lt (num s) k
   have hw : wrap64 (d8 (num s) k : Int) = (d8 (num s) k : Int) := by unfold wrap64; omega
   go_wp2_with (first | (at_builtin; refine wpList_append_own _ rfl _ _ 136 rfl (w.heap.size + 1) 3 i0 (.int .i64 0) 1 8 Tryz.underlying136 hi hz0 hz1 hz2 rfl (by decide) _ _ _ rfl (hown.alloc _) ⟨wr.heap.size, 0, none⟩ 1 1 [.int .i64 (d8 (num s) k : Nat)] rfl rfl ?c1 ?c2 ?c3 ?c4 ?c5 ?_) | go_in)
   case c1 =>
    intro j u hj
    match j, hj with
    | 0, hj => simp at hj; subst hj; simp [Addr.add, hget, hw]
   case c2 => intro u hu; simp at hu; subst hu; rfl
   case c3 => unfold maxLen; omega
   case c4 => omega
   case c5 => have := hbel.size; simp at this; first | (simp; done) | (simp; omega)
   intro v' w1 hown' hgrow _
   rw [dvals_succ] at hown'
   have hb2 : Below (w.heap.size + 1) (w.alloc (Obj.cells #[Value.bool b, Value.string s] 26)) w1 := by
    have hsz : w.heap.size + 1 ≤ wr.heap.size := by have := hbel.size; simpa using this
    refine (hbel.alloc hsz _).grown hgrow (by first | (simp; done) | (simp; omega)) fun k' hk' => (hown.lt k' hk').1
   clear hown hgrow hbel hc0 hc1 hget hd hw
   go_wp2
   go_roundw
   case rel => exact ⟨q, k + 1, by omega, rfl, hown', hb2⟩
   case measure => first | (simp [intOf]; done) | (simp [intOf]; omega)
theorem DT.cases {w : World} {v : Value} {x : Nat} (h : DT w v x) : (v = .slice none 0 0 ∧ x = 0) ∨ ∃ g c, v = .slice (some ⟨g, 0, none⟩) (nd 256 x) c ∧ nd 256 x ≤ c ∧ c ≤ maxLen ∧ g < w.heap.size ∧ ∀ i, i < nd 256 x → w.cell? ⟨g, i, none⟩ = some (.int .i64 (d8 x i : Nat)) := by
 rcases h.2 with ⟨h1, h2⟩ | h1
 ·refine .inl ⟨h1, ?_⟩
  have := h.1
  rw [h2, Nat.pow_zero] at this
  omega
 ·exact .inr h1
theorem DT.lenForm {w : World} {v : Value} {x : Nat} (h : DT w v x) : ∃ ao c, v = .slice ao (nd 256 x) c := Dl.lenForm h
set_option maxRecDepth 100000 in
set_option maxHeartbeats 800000 in
theorem swhole_c (neg : Bool) (v : Value) (n x : Nat) (z : Int) (hz : z = if neg then -(x : Int) else x) (w : World) (h : Dl w v n x) (hn : n ≤ 8589934592) : Calls Tryz.prog 140 #[v, .bool neg] w fun e w' => e = .returned (.agg #[.bool (sg z), .string (mg z)]) ∧ Below w.heap.size w w' := by
 obtain ⟨j, hj⟩ : ∃ j, j = nd 256 x := ⟨_, rfl⟩
 have hjn : j ≤ n := by rw [hj]; exact nd_le 256 (by omega) x n h.1
 have hal : Below w.heap.size w (w.alloc (.cells #[Value.bool false, .string ⟨#[]⟩] 26)) := by (exact belA)
 have HT := Lib.hid (strim_c v n x _ (h.below hal) hn)
 have HS := sign_empty neg x
 rw [← hz] at HS
 have HSS := Lib.hid HS
 have HNB := Lib.hid (nb_mag x j hj.symm)
 rw [← hj] at HSS
 have HJ := Lib.hid hj
 clear hz HS h hal
 go_enter Tryz.func140, Tryz.ntmps140
 go_wp2_with fail
 refine (HT.out).mono ?_
 rintro e w' ⟨v', rfl, hdt, rfl⟩
 clear HT
 rcases hdt.cases with ⟨rfl, hx0⟩ | ⟨g, c, rfl, hc, hmx, hg, hcell⟩
 ·have hj0 : j = 0 := by rw [HJ.out, hx0, nd_zero]
  subst hj0
  have hm := make8z (w.alloc (.cells #[Value.bool false, .string ⟨#[]⟩] 26))
  have hcv := conv8z (w.alloc (.cells #[Value.bool false, .string ⟨#[]⟩] 26))
  simp only [World.size_alloc] at hcv
  have e1 : mag x = ⟨#[]⟩ := by rw [hx0]; rfl
  rw [e1] at HSS
  clear hdt hx0 e1 hj
  cases neg
  all_goals
   go_wp2_with fail
   go_rounds 1
   go_wp2_with fail
   refine bodyPost_ret (by simp [results, Tryz.results140, go_sem]; rfl) rfl ?_
   exact ⟨by rw [← HSS.out]; rfl, by (exact belA)⟩
 ·rw [← HJ.out] at hc hcell ⊢
  have HC := Lib.hid hcell
  have hjb : j ≤ 8589934592 := by omega
  have hgw : g ≤ w.heap.size := by have := hg; simp at this; omega
  have hgl : g < w.heap.size + 1 := by omega
  have hm := make8 j (w.alloc (.cells #[Value.bool false, .string ⟨#[]⟩] 26)) (by omega)
  have hcv := conv8 (nbFn x j j) j j (w.alloc (.cells #[Value.bool false, .string ⟨#[]⟩] 26)) (nbFn_lt x j j)
  simp only [World.size_alloc] at hcv
  have H0 := Lib.hid (nbFn_zero x j j)
  have hcv2 := hcv
  rw [HNB.out] at hcv2
  clear hcell hdt hg hj hcv
  obtain ⟨W, hW⟩ : ∃ W, W = w.alloc (.cells #[Value.bool false, .string ⟨#[]⟩] 26) := ⟨_, rfl⟩
  go_wp2_with fail
  go_loopw [6] (fun v wr => ∃ i : Nat, i ≤ j ∧ v = .int .i64 i ∧ wr = (w.alloc (.cells #[Value.bool false, .string ⟨#[]⟩] 26)).alloc (.cells (arr .u8 (nbFn x j i) j) 5)) (fun v _ => j - (intOf v).toNat)
  case atStart => exact ⟨0, Nat.zero_le _, rfl, by rw [H0.out]⟩
  case round =>
   obtain ⟨i, hi, rfl, rfl⟩ := hrel
   by_cases hlt : i < j
   ·obtain ⟨p, hp⟩ : ∃ p : Nat, p + 1 + i = j := ⟨j - 1 - i, by omega⟩
    have hci := HC.out i (by omega)
    have hci2 : ((w.alloc (.cells #[Value.bool false, .string ⟨#[]⟩] 26)).alloc (.cells (arr .u8 (nbFn x j i) j) 5)).cell? ⟨g, i, none⟩ = some (.int .i64 (d8 x i : Nat)) := by
     rw [World.cell?_of_block (show (World.alloc _ _).heap[g]? = _ from heap_alloc_old _ _ (show g < (World.alloc _ _).heap.size by simp; omega))]
     exact hci
    have e5 : (j : Int) - 1 - (i : Int) = (p : Int) := by omega
    have hpl : p < j := by omega
    have hlt2 : (i : Int) < (j : Int) := by omega
    have hget := arr_get .u8 (nbFn x j i) j p hpl
    have hd := d8_byte x i
    have H1 := Lib.hid (nbFn_succ x j i p hp)
    clear hp hci
    go_wp2_with fail
    refine ⟨⟨i + 1, by omega, by go_num, ?_⟩, by simp [intOf]; omega⟩
    rw [← H1.out, arr_set]
   ·have e : i = j := by omega
    subst e
    clear HC
    cases neg
    all_goals
     go_wp2_with fail
     refine bodyPost_ret (by simp [results, Tryz.results140, go_sem]; rfl) rfl ?_
     refine ⟨?_, by (exact belA)⟩
     rw [← HSS.out]
     first | (simp; done) | (simp; omega)
end Go.Proofs.YtlblfgbpogljoaaGreatDoor

end
section
namespace Go.Proofs.YtlblfgbpogljoaaGreatDoor
open Go Go.RowKit
open Vi
theorem nd_of_x {x k : Nat} (h : nd 256 x ≤ k) : x < 256 ^ k := Nat.lt_of_lt_of_le (lt_pow_nd 256 (by omega) x) (Nat.pow_le_pow_right (by omega) h)
theorem w64_of (n : Nat) (h : n ≤ 9223372036854775807) : wrap64 (n : Int) = (n : Int) := by unfold wrap64; omega
theorem d8_top (x p : Nat) : x / 256 ^ p = d8 x p + x / 256 ^ (p + 1) * 256 := by rw [d8_div]; omega
set_option maxHeartbeats 800000 in
theorem ssmall_big (v : Value) (x : Nat) (w : World) (h : DT w v x) (hx : 7 < nd 256 x) : Calls Tryz.prog 175 #[v] w fun e w' => e = .returned (.tuple #[.int .i64 0, .bool false]) ∧ w = w' := by
 obtain ⟨a, c, rfl⟩ := h.lenForm
 have h7 : (7 : Int) < ((nd 256 x : Nat) : Int) := by omega
 clear h hx
 go_enter Tryz.func175, Tryz.ntmps175
 go_wp2_with fail
 go_ret2
 exact ⟨rfl, rfl⟩
set_option maxHeartbeats 800000 in
theorem ssmall_c (v : Value) (x : Nat) (w : World) (h : DT w v x) (hx : nd 256 x ≤ 7) : Calls Tryz.prog 175 #[v] w fun e w' => e = .returned (.tuple #[.int .i64 (x : Int), .bool true]) ∧ w = w' := by
 rcases h.cases with ⟨rfl, rfl⟩ | ⟨g, c, rfl, hc, hmx, hg, hcell⟩
 ·clear h
  go_enter Tryz.func175, Tryz.ntmps175
  go_wp2_with fail
  go_rounds 1
  go_wp2_with fail
  go_ret2
  exact ⟨rfl, rfl⟩
 ·obtain ⟨N, hN⟩ : ∃ N, N = nd 256 x := ⟨_, rfl⟩
  rw [← hN] at hx hcell ⊢
  have hxb : x < 256 ^ 7 := nd_of_x (by omega)
  have e7 : (256 : Nat) ^ 7 = 72057594037927936 := by decide
  have HC := Lib.hid hcell
  have h7 : ¬ (7 : Int) < (N : Int) := by omega
  have hx0 : x / 256 ^ N = 0 := by rw [hN]; exact Nat.div_eq_of_lt (lt_pow_nd 256 (by omega) x)
  have HX0 := Lib.hid hx0
  clear h hc hmx hg hcell hN hx0
  go_enter Tryz.func175, Tryz.ntmps175
  go_wp2_with fail
  go_loop [4, 5] (fun a i => ∃ p A : Nat, p ≤ N ∧ i = .int .i64 ((p : Int) - 1) ∧ Hid (A = x / 256 ^ p) ∧ a = .int .i64 (A : Int)) (fun _ i => (intOf i + 1).toNat)
  case atStart => exact ⟨N, 0, Nat.le_refl _, rfl, Lib.hid HX0.out.symm, rfl⟩
  case round =>
   obtain ⟨p, A, hp, rfl, HA, rfl⟩ := hrel
   cases p with
   | zero =>
    have hA : A = x := by have := HA.out; rw [Nat.pow_zero, Nat.div_one] at this; exact this
    go_wp2_with fail
    subst hA
    go_ret2
    exact ⟨rfl, rfl⟩
   | succ q =>
    have hq : ((q + 1 : Nat) : Int) - 1 = (q : Int) := by omega
    rw [hq]
    have hci := HC.out q (by omega)
    obtain ⟨d, hd⟩ : ∃ d, d = d8 x q := ⟨_, rfl⟩
    rw [← hd] at hci
    obtain ⟨B, hB⟩ : ∃ z, z = A * 256 := ⟨_, rfl⟩
    obtain ⟨C, hC⟩ : ∃ z, z = B + d := ⟨_, rfl⟩
    have hCx : C = x / 256 ^ q := by rw [hC, hB, hd, HA.out, d8_top x q]; omega
    have hCb : C ≤ 72057594037927936 := by rw [hCx]; exact Nat.le_trans (Nat.div_le_self _ _) (by omega)
    have HCX := Lib.hid hCx
    have hqN : (q : Int) < (N : Int) := by omega
    have hq0 : (0 : Int) ≤ (q : Int) := by omega
    have e1 : (A : Int) * 256 = (B : Int) := by omega
    have e2 : (B : Int) + (d : Int) = (C : Int) := by omega
    have hBb : B ≤ 72057594037927936 := by omega
    have w1 : wrap64 (B : Int) = (B : Int) := by unfold wrap64; omega
    have w2 : wrap64 (C : Int) = (C : Int) := by unfold wrap64; omega
    clear hd hB hC hCx
    go_wp2_with fail
    exact ⟨⟨q, C, by omega, by go_num, HCX, by go_num⟩, by first | (simp [intOf]; done) | (simp [intOf]; omega)⟩
set_option maxRecDepth 100000 in
set_option maxHeartbeats 1600000 in
theorem slargeF_c (X : Nat) (w : World) (h2 : X < 9223372036854775808) : Calls Tryz.prog 176 #[.int .i64 (X : Int)] w fun e w' => ∃ v, e = .returned v ∧ DT w' v X ∧ (∀ k, v.ownBlock = some k → w.heap.size ≤ k) ∧ Below w.heap.size w w' := by
 obtain ⟨i0, hi, hz0, hz1, hz2⟩ := info_parts info3
 go_enter Tryz.func176, Tryz.ntmps176
 go_wp2_with fail
 go_loopw [0, 3] (fun c v wr => ∃ k q : Nat, k ≤ 8 ∧ Hid (q = X / 256 ^ k) ∧ Hid (q ≠ 0 ∨ k = nd 256 X) ∧ c = .int .i64 (q : Int) ∧ wr.ownsRow w.heap.size 3 1 v k (dvals X k) ∧ Below w.heap.size w wr) (fun c _ _ => (intOf c).toNat)
 case atStart =>
  refine ⟨0, X, Nat.zero_le _, Lib.hid (by rw [Nat.pow_zero, Nat.div_one]), Lib.hid ?_, rfl, World.ownsRow_nil _ _ _ _, Below.refl _ _⟩
  by_cases h : X = 0
  ·exact .inr (by rw [h, nd_zero])
  ·exact .inl h
 case round =>
  obtain ⟨k, q, hk, HQ, HZ, rfl, hown, hbel⟩ := hrel
  have hqX : q ≤ X := by rw [HQ.out]; exact Nat.div_le_self _ _
  by_cases h0 : q = 0
  ·have hkn : k = nd 256 X := by rcases HZ.out with h | h; exact absurd h0 h; exact h
   subst h0
   have HX := cur_zero X k HQ.out.symm
   have hdl := Dl.of_owned hown HX
   rw [hkn] at hdl
   have HDT : Hid (DT _ _ X) := Lib.hid hdl
   have HFR := Lib.hid (fun k h => (hown.lt k h).1)
   rw [show ((0 : Nat) : Int) = 0 from rfl]
   clear hkn hown hdl HX
   go_wp2_with fail
   go_ret
   exact ⟨_, rfl, HDT.out, HFR.out, hbel⟩
  ·obtain ⟨q1, hq1⟩ : ∃ z, z = q / 256 := ⟨_, rfl⟩
   obtain ⟨dg1, hdg⟩ : ∃ z, z = d8 X k := ⟨_, rfl⟩
   have hk8 : k < 8 := by
    apply Decidable.byContradiction
    intro hc
    have e8 : k = 8 := by omega
    have := HQ.out
    rw [e8, Nat.div_eq_of_lt (Nat.lt_trans h2 (by decide))] at this
    exact h0 this
   have hdq : dg1 = q % 256 := by rw [hdg, HQ.out]; rfl
   have hd2 : dg1 < 256 := hdg ▸ d8_lt _ _
   have HQ1 : Hid (q1 = X / 256 ^ (k + 1)) := Lib.hid (by rw [hq1, HQ.out, cur_next])
   have HZ1 : Hid (q1 ≠ 0 ∨ k + 1 = nd 256 X) := Lib.hid (by
    by_cases h1 : q1 = 0
    ·right
     have e1 : X < 256 ^ (k + 1) := cur_zero X (k + 1) (by rw [← HQ1.out, h1])
     have e2 := nd_le 256 (by omega) X (k + 1) e1
     refine (nd_top8 X k e2 ?_).symm
     rw [← hdg, hdq]
     omega
    ·exact .inl h1)
   have Hs : Hid (dvals X k ++ [Value.int .i64 (dg1 : Nat)] = dvals X (k + 1)) := Lib.hid (by rw [hdg, dvals_succ])
   have HM := Lib.hid (show q1 < q by omega)
   have hsz := hbel.size
   have hq1b : q1 ≤ 9223372036854775807 := by rw [hq1]; exact Nat.le_trans (Nat.div_le_self _ _) (by omega)
   have hz : (0 : Int) < (q : Int) := by omega
   have HCW := Lib.hid (w64_of q1 hq1b)
   have em : (q : Int).tmod 256 = (dg1 : Int) := by rw [hdq]; exact tmod256 q
   have ed : (q : Int).tdiv 256 = (q1 : Int) := by rw [hq1]; exact tdiv256 q
   have HED := Lib.hid ed
   clear hq1 hdg hdq h0
   go_wp2_with (first | (at_builtin; refine wpList_append_own _ rfl _ _ 136 rfl w.heap.size 3 i0 (.int .i64 0) 1 8 Tryz.underlying136 hi hz0 hz1 hz2 rfl (by decide) _ _ _ rfl (hown.alloc _) ⟨wr.heap.size, 0, none⟩ 1 1 [.int .i64 (dg1 : Nat)] rfl rfl ?c1 ?c2 ?c3 ?c4 ?c5 ?_) | go_in)
   all_goals clear em ed
   case c1 =>
    intro j u hj
    match j, hj with
    | 0, hj => simp at hj; subst hj; simp [Addr.add]
   case c2 => first | rfl | (intro u hu; simp at hu; subst hu; rfl)
   case c3 => unfold maxLen; omega
   case c4 => omega
   case c5 => first | omega | (simp; done) | (simp; omega)
   intro v' w1 hown' hgrow _
   rw [Hs.out] at hown'
   have hb2 : Below w.heap.size w w1 := (hbel.alloc hsz _).grown hgrow (by first | omega | (simp; done) | (simp; omega)) fun k' hk' => (hown.lt k' hk').1
   have ed : (q : Int).tdiv 256 = (q1 : Int) := HED.out
   have HOWN := Lib.hid hown'
   have HB2 := Lib.hid hb2
   have HK8 := Lib.hid hk8
   clear hown hgrow hbel hown' hb2 hqX hq1b hsz h2 hd2 hz hk8 hk
   go_wp2_with fail
   clear ed
   rw [HCW.out]
   exact ⟨⟨k + 1, q1, by have := HK8.out; omega, HQ1, HZ1, rfl, HOWN.out, HB2.out⟩, by have := HM.out; first | (simp [intOf]; done) | (simp [intOf]; omega)⟩
end Go.Proofs.YtlblfgbpogljoaaGreatDoor

end
section
namespace Go.Proofs.YtlblfgbpogljoaaGreatDoor
open Go Go.RowKit
open Vi
theorem DT.cellAt {w wr : World} {a : Option Addr} {c : Nat} {x : Nat} (h : DT w (.slice a (nd 256 x) c) x) (hb : Below w.heap.size w wr) {i : Nat} (hi : i < nd 256 x) : ∃ g, a = some ⟨g, 0, none⟩ ∧ nd 256 x ≤ c ∧ g < wr.heap.size ∧ wr.cell? ⟨g, i, none⟩ = some (.int .i64 (d8 x i : Nat)) := by
 rcases h.cases with ⟨e, e0⟩ | ⟨g, c', e, hc, _, hg, hcell⟩
 ·subst e0; rw [nd_zero] at hi; omega
 ·cases e
  exact ⟨g, rfl, hc, Nat.lt_of_lt_of_le hg hb.size, (hb.cell (p := ⟨g, i, none⟩) hg).trans (hcell i hi)⟩
theorem cmp_nd (x y : Nat) (h : nd 256 x < nd 256 y) : cmpN x y = -1 := cmpN_of_lt x y (lt_of_nd_lt 256 (by omega) x y h)
theorem cmp_nd2 (x y : Nat) (h : nd 256 y < nd 256 x) : cmpN x y = 1 := cmpN_of_gt x y (lt_of_nd_lt 256 (by omega) y x h)
set_option maxRecDepth 100000 in
set_option maxHeartbeats 1600000 in
theorem scompare_c (v1 v2 : Value) (x y : Nat) (w : World) (h1 : DT w v1 x) (h2 : DT w v2 y) (hx : nd 256 x ≤ 8589934592) (hy : nd 256 y ≤ 8589934592) : Calls Tryz.prog 119 #[v1, v2] w fun e w' => e = .returned (.int .i64 (cmpN x y)) ∧ Below w.heap.size w w' := by
 obtain ⟨a1, c1, e1⟩ := h1.lenForm
 obtain ⟨a2, c2, e2⟩ := h2.lenForm
 subst e1
 subst e2
 obtain ⟨N, hN⟩ : ∃ N, N = nd 256 x := ⟨_, rfl⟩
 obtain ⟨M, hM⟩ : ∃ M, M = nd 256 y := ⟨_, rfl⟩
 by_cases hlt : N < M
 ·have H := Lib.hid (cmp_nd x y (by omega))
  rw [← hN, ← hM]
  have e1 : ((N : Int) != (M : Int)) = true := by simp; omega
  have e2 : (N : Int) < (M : Int) := by omega
  have e3 : ((N : Int) == (M : Int)) = false := by rw [beq_eq_false_iff_ne]; omega
  clear hN hM h1 h2 hx hy hlt
  go_enter Tryz.func119, Tryz.ntmps119
  go_wp2_with fail
  go_ret
  exact ⟨by rw [H.out]; rfl, by (exact belA)⟩
 by_cases hgt : M < N
 ·have H := Lib.hid (cmp_nd2 x y (by omega))
  rw [← hN, ← hM]
  have e1 : ((N : Int) != (M : Int)) = true := by simp; omega
  have e2 : ¬ (N : Int) < (M : Int) := by omega
  have e3 : ((N : Int) == (M : Int)) = false := by rw [beq_eq_false_iff_ne]; omega
  clear hN hM h1 h2 hx hy hlt hgt
  go_enter Tryz.func119, Tryz.ntmps119
  go_wp2_with fail
  go_ret
  exact ⟨by rw [H.out]; rfl, by (exact belA)⟩
 have e : M = N := by omega
 subst e
 have hxy : x / 256 ^ M = y / 256 ^ M := by
  rw [Nat.div_eq_of_lt (by rw [hN]; exact lt_pow_nd 256 (by omega) x), Nat.div_eq_of_lt (by rw [hM]; exact lt_pow_nd 256 (by omega) y)]
 have A1 : Hid (∀ i, i < M → ∃ g, a1 = some ⟨g, 0, none⟩ ∧ M ≤ c1 ∧ g < w.heap.size ∧ w.cell? ⟨g, i, none⟩ = some (.int .i64 (d8 x i : Nat))) := Lib.hid fun i hi => by
  have := h1.cellAt (Below.refl _ _) (i := i) (by omega)
  rwa [← hN] at this
 have A2 : Hid (∀ i, i < M → ∃ g, a2 = some ⟨g, 0, none⟩ ∧ M ≤ c2 ∧ g < w.heap.size ∧ w.cell? ⟨g, i, none⟩ = some (.int .i64 (d8 y i : Nat))) := Lib.hid fun i hi => by
  have := h2.cellAt (Below.refl _ _) (i := i) (by omega)
  rwa [← hM] at this
 have HX := Lib.hid hxy
 rw [← hN, ← hM]
 have hMb : M ≤ 8589934592 := by omega
 clear h1 h2 hN hM hxy hlt hgt hx hy
 go_enter Tryz.func119, Tryz.ntmps119
 go_wp2_with fail
 go_loopw [5] (fun i wr => ∃ (p : Nat) (u : World), p ≤ M ∧ i = .int .i64 ((p : Int) - 1) ∧ Hid (x / 256 ^ p = y / 256 ^ p) ∧ wr = w.plus u) (fun i _ => (intOf i + 1).toNat)
 case atStart =>
  obtain ⟨u, hu⟩ := World.plus_of_below (Below.refl w.heap.size w)
  exact ⟨M, u, Nat.le_refl _, rfl, HX, hu⟩
 case round =>
  obtain ⟨p, u0, hp, rfl, HP, rfl⟩ := hrel
  cases p with
  | zero =>
   have hz := HP.out
   rw [Nat.pow_zero, Nat.div_one, Nat.div_one] at hz
   have H := Lib.hid (cmpN_of_eq x y hz)
   clear hz
   go_wp2_with fail
   go_ret
   exact ⟨by rw [H.out]; rfl, by (exact belA)⟩
  | succ q =>
   have hq : ((q + 1 : Nat) : Int) - 1 = (q : Int) := by omega
   rw [hq]
   have hqM : q < M := by omega
   have hqi : (q : Int) < (M : Int) := by omega
   have hq0 : (0 : Int) ≤ (q : Int) := by omega
   obtain ⟨g1, rfl, hc1, hg1, hcx⟩ := A1.out q hqM
   obtain ⟨g2, rfl, hc2, hg2, hcy⟩ := A2.out q hqM
   obtain ⟨a, ha⟩ : ∃ a, a = d8 x q := ⟨_, rfl⟩
   obtain ⟨b, hb⟩ : ∃ b, b = d8 y q := ⟨_, rfl⟩
   rw [← ha] at hcx
   rw [← hb] at hcy
   by_cases hlt : a < b
   ·have H := Lib.hid (cmpN_of_lt x y (cmp_lt_of x y q HP.out (by rw [← ha, ← hb]; exact hlt)))
    have hl2 : (a : Int) < (b : Int) := by omega
    clear hlt ha hb
    go_wp2_with fail
    (refine wp_region_exact (by kernel_rfl) (by kernel_rfl) ?_; repeat go_big_quiet_step (fail)); (refine wpQuiet_nil ?_; rintro _ rfl)
    go_wp2_with fail
    go_ret
    exact ⟨by rw [H.out]; rfl, by (exact belA)⟩
   ·by_cases hgt : b < a
    ·have H := Lib.hid (cmpN_of_gt x y (cmp_lt_of y x q HP.out.symm (by rw [← ha, ← hb]; exact hgt)))
     have hl2 : ¬ (a : Int) < (b : Int) := by omega
     have hl3 : (b : Int) < (a : Int) := by omega
     clear hlt hgt ha hb
     go_wp2_with fail
     (refine wp_region_exact (by kernel_rfl) (by kernel_rfl) ?_; repeat go_big_quiet_step (fail)); (refine wpQuiet_nil ?_; rintro _ rfl)
     go_wp2_with fail
     (refine wp_region_exact (by kernel_rfl) (by kernel_rfl) ?_; repeat go_big_quiet_step (fail)); (refine wpQuiet_nil ?_; rintro _ rfl)
     go_wp2_with fail
     go_ret
     exact ⟨by rw [H.out]; rfl, by (exact belA)⟩
    ·have hd : d8 x q = d8 y q := by omega
     have H := Lib.hid (div_step x y q HP.out hd)
     have hl2 : ¬ (a : Int) < (b : Int) := by omega
     have hl3 : ¬ (b : Int) < (a : Int) := by omega
     clear hlt hgt hd ha hb
     go_wp2_with fail
     (refine wp_region_exact (by kernel_rfl) (by kernel_rfl) ?_; repeat go_big_quiet_step (fail)); (refine wpQuiet_nil ?_; rintro _ rfl)
     go_wp2_with fail
     (refine wp_region_exact (by kernel_rfl) (by kernel_rfl) ?_; repeat go_big_quiet_step (fail)); (refine wpQuiet_nil ?_; rintro _ rfl)
     go_wp2_with fail
     obtain ⟨u2, hu2⟩ := World.plus_of_below (w := w) (w' := (w.plus u0).drew.drew) (by (exact belA))
     exact ⟨⟨q, u2, by omega, rfl, H, hu2⟩, by first | (simp [intOf]; done) | (simp [intOf]; omega)⟩
set_option maxRecDepth 100000 in
set_option maxHeartbeats 3200000 in
theorem splusF_c (v1 v2 : Value) (x y z : Nat) (hzz : z = x + y) (w : World) (h1 : DT w v1 x) (h2 : DT w v2 y) (hnx : nd 256 x ≤ 4294967296) (hny : nd 256 y ≤ 4294967296) : Calls Tryz.prog 118 #[v1, v2] w fun e w' => ∃ v, e = .returned v ∧ DT w' v z ∧ (∀ k, v.ownBlock = some k → w.heap.size ≤ k) ∧ Below w.heap.size w w' := by
 subst hzz
 obtain ⟨i0, hi, hz0, hz1, hz2⟩ := info_parts info3
 obtain ⟨a1, c1, e1⟩ := h1.lenForm
 obtain ⟨a2, c2, e2⟩ := h2.lenForm
 subst e1
 subst e2
 have A1 := Lib.hid (fun (i : Nat) (wr : World) (hb : Below w.heap.size w wr) (hi : i < nd 256 x) => h1.cellAt hb hi)
 have A2 := Lib.hid (fun (i : Nat) (wr : World) (hb : Below w.heap.size w wr) (hi : i < nd 256 y) => h2.cellAt hb hi)
 have HXB : Hid (∀ i, nd 256 x ≤ i → d8 x i = 0 ∧ x < 256 ^ i) := Lib.hid fun i hi => ⟨d8_big x _ i h1.1 hi, Nat.lt_of_lt_of_le h1.1 (Nat.pow_le_pow_right (by omega) hi)⟩
 have HYB : Hid (∀ i, nd 256 y ≤ i → d8 y i = 0 ∧ y < 256 ^ i) := Lib.hid fun i hi => ⟨d8_big y _ i h2.1 hi, Nat.lt_of_lt_of_le h2.1 (Nat.pow_le_pow_right (by omega) hi)⟩
 obtain ⟨N, hN⟩ : ∃ N, N = nd 256 x := ⟨_, rfl⟩
 obtain ⟨M, hM⟩ : ∃ M, M = nd 256 y := ⟨_, rfl⟩
 rw [← hN] at A1 HXB hnx ⊢
 rw [← hM] at A2 HYB hny ⊢
 have HC0 := Lib.hid (cr8_zero x y)
 clear h1 h2 hN hM
 go_enter Tryz.func118, Tryz.ntmps118
 go_wp2_with fail
 go_loopw [5, 6, 7] (fun v c i wr => ∃ k cr : Nat, k ≤ max N M + 1 ∧ i = .int .i64 k ∧ Hid (cr = cr8 x y k) ∧ cr ≤ 1 ∧ c = .int .i64 (cr : Nat) ∧ wr.ownsRow w.heap.size 3 1 v k (dvals (x + y) k) ∧ Below w.heap.size w wr) (fun _ _ i _ => max N M + 2 - (intOf i).toNat)
 case atStart => exact ⟨0, 0, Nat.zero_le _, rfl, Lib.hid HC0.out.symm, by omega, rfl, World.ownsRow_nil _ _ _ _, Below.refl _ _⟩
 case round =>
  obtain ⟨k, cr, hk, rfl, HCR, hcr1, rfl, hown, hbel⟩ := hrel
  have hsz := hbel.size
  have hkM : k < N ∨ k < M ∨ 0 < cr → k ≤ max N M := by
   intro h
   rcases h with h | h | h
   ·omega
   ·omega
   ·apply Decidable.byContradiction
    intro hc
    have e : k = max N M + 1 := by omega
    have h3 := cr8_big x y (max N M) (HXB.out _ (by omega)).2 (HYB.out _ (by omega)).2
    rw [← e, ← HCR.out] at h3
    omega
  obtain ⟨a, ha⟩ : ∃ a, a = d8 x k := ⟨_, rfl⟩
  obtain ⟨b, hb⟩ : ∃ b, b = d8 y k := ⟨_, rfl⟩
  obtain ⟨dg1, hdg⟩ : ∃ d, d = d8 (x + y) k := ⟨_, rfl⟩
  obtain ⟨cr2, hcr2⟩ : ∃ c, c = cr8 x y (k + 1) := ⟨_, rfl⟩
  have ha2 : a < 256 := ha ▸ d8_lt x k
  have hbb : b < 256 := hb ▸ d8_lt y k
  have hs1 : dg1 = (cr + a + b) % 256 := by rw [hdg, d8_add, ← ha, ← hb, ← HCR.out]; congr 1; omega
  have hs2 : cr2 = (cr + a + b) / 256 := by rw [hcr2, cr8_succ, ← ha, ← hb, ← HCR.out]; congr 1; omega
  have hcr21 : cr2 ≤ 1 := by rw [hcr2]; exact cr8_le _ _ _
  have Hs : Hid (dvals (x + y) k ++ [Value.int .i64 (dg1 : Nat)] = dvals (x + y) (k + 1)) := Lib.hid (by rw [hdg, dvals_succ])
  have Hc2 := Lib.hid hcr2
  obtain ⟨s1, hs1a⟩ : ∃ s, s = cr + a := ⟨_, rfl⟩
  obtain ⟨s2, hs2a⟩ : ∃ s, s = s1 + b := ⟨_, rfl⟩
  have e1 : (cr : Int) + (a : Int) = (s1 : Int) := by omega
  have e2 : (s1 : Int) + (b : Int) = (s2 : Int) := by omega
  have em : (s2 : Int).tmod 256 = (dg1 : Int) := by rw [Int.tmod_eq_emod_of_nonneg (by omega)]; omega
  have ed : (s2 : Int).tdiv 256 = (cr2 : Int) := by rw [Int.tdiv_eq_ediv_of_nonneg (by omega)]; omega
  have hd2 : dg1 < 256 := hdg ▸ d8_lt _ _
  have hs1b : s1 ≤ 256 := by omega
  have hs2b : s2 ≤ 511 := by omega
  have HEM := Lib.hid em
  have HED := Lib.hid ed
  clear em ed hs1 hs2
  by_cases hx1 : k < N
  ·by_cases hy1 : k < M
   ·have hkx : (k : Int) < (N : Int) := by omega
    have hky : (k : Int) < (M : Int) := by omega
    obtain ⟨g1, rfl, hc1, hg1, hcx⟩ := A1.out k wr hbel (by omega)
    rw [← ha] at hcx
    obtain ⟨g2, rfl, hc2, hg2, hcy⟩ := A2.out k wr hbel (by omega)
    rw [← hb] at hcy
    have em := HEM.out
    have ed := HED.out
    have hkm := hkM (by omega)
    clear ha hb hdg hcr2 hs1a hs2a hkM
    go_wp2_with (first | (at_builtin; refine wpList_append_own _ rfl _ _ 136 rfl w.heap.size 3 i0 (.int .i64 0) 1 8 Tryz.underlying136 hi hz0 hz1 hz2 rfl (by decide) _ _ _ rfl (hown.alloc _) ⟨wr.heap.size, 0, none⟩ 1 1 [.int .i64 (dg1 : Nat)] rfl rfl ?d111 ?d112 ?d113 ?d114 ?d115 ?_) | go_in)
    all_goals clear em ed
    first
    | case d111 =>
        intro j u hj
        match j, hj with
        | 0, hj => simp at hj; subst hj; simp [Addr.add]
    | skip
    case d112 => first | rfl | (intro u hu; simp at hu; subst hu; rfl)
    case d113 => unfold maxLen; omega
    case d114 => omega
    case d115 => first | omega | (simp; done) | (simp; omega)
    intro v' w1 hown' hgrow _
    rw [Hs.out] at hown'
    have hb2 : Below w.heap.size w w1 := (hbel.alloc hsz _).grown hgrow (by first | omega | (simp; done) | (simp; omega)) fun k' hk' => (hown.lt k' hk').1
    clear hown hgrow hbel
    have ed := HED.out
    have HOWN := Lib.hid hown'
    have HB2 := Lib.hid hb2
    clear hown' hb2
    go_wp2_with fail
    clear ed
    refine ⟨⟨k + 1, cr2, by omega, by go_num, Hc2, hcr21, by first | rfl | go_num, HOWN.out, HB2.out⟩, by first | (simp [intOf]; done) | (simp [intOf]; omega)⟩
   ·have hkx : (k : Int) < (N : Int) := by omega
    have hky : ¬ (k : Int) < (M : Int) := by omega
    obtain ⟨g1, rfl, hc1, hg1, hcx⟩ := A1.out k wr hbel (by omega)
    rw [← ha] at hcx
    have hb0 : b = 0 := by rw [hb]; exact (HYB.out k (by omega)).1
    have es2 : s2 = s1 := by omega
    subst es2
    have em := HEM.out
    have ed := HED.out
    have hkm := hkM (by omega)
    clear ha hb hdg hcr2 hs1a hs2a hkM hb0
    go_wp2_with (first | (at_builtin; refine wpList_append_own _ rfl _ _ 136 rfl w.heap.size 3 i0 (.int .i64 0) 1 8 Tryz.underlying136 hi hz0 hz1 hz2 rfl (by decide) _ _ _ rfl (hown.alloc _) ⟨wr.heap.size, 0, none⟩ 1 1 [.int .i64 (dg1 : Nat)] rfl rfl ?d101 ?d102 ?d103 ?d104 ?d105 ?_) | go_in)
    all_goals clear em ed
    first
    | case d101 =>
        intro j u hj
        match j, hj with
        | 0, hj => simp at hj; subst hj; simp [Addr.add]
    | skip
    case d102 => first | rfl | (intro u hu; simp at hu; subst hu; rfl)
    case d103 => unfold maxLen; omega
    case d104 => omega
    case d105 => first | omega | (simp; done) | (simp; omega)
    intro v' w1 hown' hgrow _
    rw [Hs.out] at hown'
    have hb2 : Below w.heap.size w w1 := (hbel.alloc hsz _).grown hgrow (by first | omega | (simp; done) | (simp; omega)) fun k' hk' => (hown.lt k' hk').1
    clear hown hgrow hbel
    have ed := HED.out
    have HOWN := Lib.hid hown'
    have HB2 := Lib.hid hb2
    clear hown' hb2
    go_wp2_with fail
    clear ed
    refine ⟨⟨k + 1, cr2, by omega, by go_num, Hc2, hcr21, by first | rfl | go_num, HOWN.out, HB2.out⟩, by first | (simp [intOf]; done) | (simp [intOf]; omega)⟩
  ·by_cases hy1 : k < M
   ·have hkx : ¬ (k : Int) < (N : Int) := by omega
    have hky : (k : Int) < (M : Int) := by omega
    have ha0 : a = 0 := by rw [ha]; exact (HXB.out k (by omega)).1
    obtain ⟨g2, rfl, hc2, hg2, hcy⟩ := A2.out k wr hbel (by omega)
    rw [← hb] at hcy
    have es1 : s1 = cr := by omega
    subst es1
    have em := HEM.out
    have ed := HED.out
    have hkm := hkM (by omega)
    clear ha hb hdg hcr2 hs1a hs2a hkM ha0
    go_wp2_with (first | (at_builtin; refine wpList_append_own _ rfl _ _ 136 rfl w.heap.size 3 i0 (.int .i64 0) 1 8 Tryz.underlying136 hi hz0 hz1 hz2 rfl (by decide) _ _ _ rfl (hown.alloc _) ⟨wr.heap.size, 0, none⟩ 1 1 [.int .i64 (dg1 : Nat)] rfl rfl ?d011 ?d012 ?d013 ?d014 ?d015 ?_) | go_in)
    all_goals clear em ed
    first
    | case d011 =>
        intro j u hj
        match j, hj with
        | 0, hj => simp at hj; subst hj; simp [Addr.add]
    | skip
    case d012 => first | rfl | (intro u hu; simp at hu; subst hu; rfl)
    case d013 => unfold maxLen; omega
    case d014 => omega
    case d015 => first | omega | (simp; done) | (simp; omega)
    intro v' w1 hown' hgrow _
    rw [Hs.out] at hown'
    have hb2 : Below w.heap.size w w1 := (hbel.alloc hsz _).grown hgrow (by first | omega | (simp; done) | (simp; omega)) fun k' hk' => (hown.lt k' hk').1
    clear hown hgrow hbel
    have ed := HED.out
    have HOWN := Lib.hid hown'
    have HB2 := Lib.hid hb2
    clear hown' hb2
    go_wp2_with fail
    clear ed
    refine ⟨⟨k + 1, cr2, by omega, by go_num, Hc2, hcr21, by first | rfl | go_num, HOWN.out, HB2.out⟩, by first | (simp [intOf]; done) | (simp [intOf]; omega)⟩
   ·by_cases hc1 : 0 < cr
    ·have hkx : ¬ (k : Int) < (N : Int) := by omega
     have hky : ¬ (k : Int) < (M : Int) := by omega
     have ha0 : a = 0 := by rw [ha]; exact (HXB.out k (by omega)).1
     have hb0 : b = 0 := by rw [hb]; exact (HYB.out k (by omega)).1
     have hcp : (0 : Int) < (cr : Int) := by omega
     have es1 : s1 = cr := by omega
     subst es1
     have es2 : s2 = s1 := by omega
     subst es2
     have em := HEM.out
     have ed := HED.out
     have hkm := hkM (by omega)
     clear ha hb hdg hcr2 hs1a hs2a hkM ha0 hb0
     go_wp2_with (first | (at_builtin; refine wpList_append_own _ rfl _ _ 136 rfl w.heap.size 3 i0 (.int .i64 0) 1 8 Tryz.underlying136 hi hz0 hz1 hz2 rfl (by decide) _ _ _ rfl (hown.alloc _) ⟨wr.heap.size, 0, none⟩ 1 1 [.int .i64 (dg1 : Nat)] rfl rfl ?d001 ?d002 ?d003 ?d004 ?d005 ?_) | go_in)
     all_goals clear em ed
     first
     | case d001 =>
         intro j u hj
         match j, hj with
         | 0, hj => simp at hj; subst hj; simp [Addr.add]
     | skip
     case d002 => first | rfl | (intro u hu; simp at hu; subst hu; rfl)
     case d003 => unfold maxLen; omega
     case d004 => omega
     case d005 => first | omega | (simp; done) | (simp; omega)
     intro v' w1 hown' hgrow _
     rw [Hs.out] at hown'
     have hb2 : Below w.heap.size w w1 := (hbel.alloc hsz _).grown hgrow (by first | omega | (simp; done) | (simp; omega)) fun k' hk' => (hown.lt k' hk').1
     clear hown hgrow hbel
     have ed := HED.out
     have HOWN := Lib.hid hown'
     have HB2 := Lib.hid hb2
     clear hown' hb2
     go_wp2_with fail
     clear ed
     refine ⟨⟨k + 1, cr2, by omega, by go_num, Hc2, hcr21, by first | rfl | go_num, HOWN.out, HB2.out⟩, by first | (simp [intOf]; done) | (simp [intOf]; omega)⟩
    ·have hkx : ¬ (k : Int) < (N : Int) := by omega
     have hky : ¬ (k : Int) < (M : Int) := by omega
     have hcz : cr = 0 := by omega
     have hend : x + y < 256 ^ k := cr8_end x y k (HXB.out k (by omega)).2 (HYB.out k (by omega)).2 (by rw [← HCR.out]; exact hcz)
     have HDL := Lib.hid (Dl.of_owned hown hend)
     have hkb : k ≤ 8589934592 := by omega
     have HFR := Lib.hid (fun k h => (hown.lt k h).1)
     subst hcz
     clear hown hend hs1a hs2a e1 e2 ha hb hdg hcr2 HEM HED Hs Hc2 hc1 hkM hx1 hy1
     go_wp2_with fail
     refine (strimF_c _ _ _ _ HDL.out hkb).mono ?_
     rintro e w' ⟨v', rfl, hdt, hfr, rfl⟩
     have HDT := Lib.hid hdt
     have HF2 := Lib.hid (fun k h => HFR.out k (hfr k h))
     clear hdt hfr
     go_wp2_with fail
     go_ret
     exact ⟨_, rfl, HDT.out, HF2.out, hbel⟩
theorem splus_c (v1 v2 : Value) (x y z : Nat) (hzz : z = x + y) (w : World) (h1 : DT w v1 x) (h2 : DT w v2 y) (hnx : nd 256 x ≤ 4294967296) (hny : nd 256 y ≤ 4294967296) : Calls Tryz.prog 118 #[v1, v2] w fun e w' => ∃ v, e = .returned v ∧ DT w' v z ∧ Below w.heap.size w w' :=
 (splusF_c v1 v2 x y z hzz w h1 h2 hnx hny).mono fun e w' ⟨v, he, hd, _, hb⟩ => ⟨v, he, hd, hb⟩
end Go.Proofs.YtlblfgbpogljoaaGreatDoor

end
section
namespace Go.Proofs.YtlblfgbpogljoaaGreatDoor
open Go Go.RowKit
open Vi
set_option maxRecDepth 100000 in
set_option maxHeartbeats 3200000 in
theorem sminusF_c (v1 v2 : Value) (x y z : Nat) (hzz : z = x - y) (hle : y ≤ x) (w : World) (h1 : DT w v1 x) (h2 : DT w v2 y) (hnx : nd 256 x ≤ 4294967296) (hny : nd 256 y ≤ 4294967296) : Calls Tryz.prog 120 #[v1, v2] w fun e w' => ∃ v, e = .returned v ∧ DT w' v z ∧ (∀ k, v.ownBlock = some k → w.heap.size ≤ k) ∧ Below w.heap.size w w' := by
 subst hzz
 obtain ⟨i0, hi, hz0, hz1, hz2⟩ := info_parts info3
 obtain ⟨a1, c1, e1⟩ := h1.lenForm
 obtain ⟨a2, c2, e2⟩ := h2.lenForm
 subst e1
 subst e2
 have A1 := Lib.hid (fun (i : Nat) (wr : World) (hb : Below w.heap.size w wr) (hi : i < nd 256 x) => h1.cellAt hb hi)
 have A2 := Lib.hid (fun (i : Nat) (wr : World) (hb : Below w.heap.size w wr) (hi : i < nd 256 y) => h2.cellAt hb hi)
 have HYB : Hid (∀ i, nd 256 y ≤ i → d8 y i = 0) := Lib.hid fun i hi => d8_big y _ i h2.1 hi
 have HXY : Hid (x - y < 256 ^ nd 256 x) := Lib.hid (Nat.lt_of_le_of_lt (Nat.sub_le _ _) h1.1)
 have HL := Lib.hid hle
 obtain ⟨N, hN⟩ : ∃ N, N = nd 256 x := ⟨_, rfl⟩
 obtain ⟨M, hM⟩ : ∃ M, M = nd 256 y := ⟨_, rfl⟩
 rw [← hN] at A1 HXY hnx ⊢
 rw [← hM] at A2 HYB hny ⊢
 have HC0 := Lib.hid (cr8_zero (x - y) y)
 clear h1 h2 hN hM hle
 go_enter Tryz.func120, Tryz.ntmps120
 go_wp2_with fail
 go_loopw [5, 6, 7] (fun v c i wr => ∃ k cr : Nat, k ≤ N ∧ i = .int .i64 k ∧ Hid (cr = cr8 (x - y) y k) ∧ cr ≤ 1 ∧ c = .int .i64 (cr : Nat) ∧ wr.ownsRow w.heap.size 3 1 v k (dvals (x - y) k) ∧ Below w.heap.size w wr) (fun _ _ i _ => N - (intOf i).toNat)
 case atStart => exact ⟨0, 0, Nat.zero_le _, rfl, Lib.hid HC0.out.symm, by omega, rfl, World.ownsRow_nil _ _ _ _, Below.refl _ _⟩
 case round =>
  obtain ⟨k, cr, hk, rfl, HCR, hcr1, rfl, hown, hbel⟩ := hrel
  have hsz := hbel.size
  by_cases hx1 : k < N
  ·obtain ⟨a, ha⟩ : ∃ a, a = d8 x k := ⟨_, rfl⟩
   obtain ⟨b, hb⟩ : ∃ b, b = d8 y k := ⟨_, rfl⟩
   obtain ⟨dg1, hdg⟩ : ∃ d, d = d8 (x - y) k := ⟨_, rfl⟩
   obtain ⟨cr2, hcr2⟩ : ∃ c, c = cr8 (x - y) y (k + 1) := ⟨_, rfl⟩
   have ha2 : a < 256 := ha ▸ d8_lt x k
   have hbb : b < 256 := hb ▸ d8_lt y k
   have hd2 : dg1 < 256 := hdg ▸ d8_lt _ _
   have hcr21 : cr2 ≤ 1 := by rw [hcr2]; exact cr8_le _ _ _
   have hst := cr8_sub x y k HL.out
   rw [← hdg, ← hb, ← ha, ← hcr2, ← HCR.out] at hst
   have Hs : Hid (dvals (x - y) k ++ [Value.int .i64 (dg1 : Nat)] = dvals (x - y) (k + 1)) := Lib.hid (by rw [hdg, dvals_succ])
   have Hc2 := Lib.hid hcr2
   have hkx : (k : Int) < (N : Int) := by omega
   obtain ⟨g1, rfl, hc1, hg1, hcx⟩ := A1.out k wr hbel hx1
   rw [← ha] at hcx
   obtain ⟨D1, hD1⟩ : ∃ z : Int, z = (a : Int) - (cr : Int) := ⟨_, rfl⟩
   obtain ⟨D2, hD2⟩ : ∃ z : Int, z = D1 - (b : Int) := ⟨_, rfl⟩
   have e1 : (a : Int) - (cr : Int) = D1 := hD1.symm
   have e2 : D1 - (b : Int) = D2 := hD2.symm
   have hD1b : -300 ≤ D1 ∧ D1 ≤ 300 := by omega
   have hD2b : -600 ≤ D2 ∧ D2 ≤ 300 := by omega
   obtain ⟨hD11, hD12⟩ := hD1b
   obtain ⟨hD21, hD22⟩ := hD2b
   rcases (by omega : cr2 = 0 ∨ cr2 = 1) with hz | hz
   ·by_cases hy1 : k < M
    ·subst hz
     have e3 : D2 = (dg1 : Int) := by omega
     subst e3
     have e4 : ¬ ((dg1 : Int) < 0) := by omega
     have hky : (k : Int) < (M : Int) := by omega
     obtain ⟨g2, rfl, hc2, hg2, hcy⟩ := A2.out k wr hbel (by omega)
     rw [← hb] at hcy
     clear ha hb hdg hcr2 hst hD1 hD2
     go_wp2_with (first | (at_builtin; refine wpList_append_own _ rfl _ _ 136 rfl w.heap.size 3 i0 (.int .i64 0) 1 8 Tryz.underlying136 hi hz0 hz1 hz2 rfl (by decide) _ _ _ rfl (hown.alloc _) ⟨wr.heap.size, 0, none⟩ 1 1 [.int .i64 (dg1 : Nat)] rfl rfl ?q101 ?q102 ?q103 ?q104 ?q105 ?_) | go_in)
     all_goals skip
     first
     | case q101 =>
         intro j u hj
         match j, hj with
         | 0, hj => simp at hj; subst hj; simp [Addr.add]
     | skip
     case q102 => first | rfl | (intro u hu; simp at hu; subst hu; rfl)
     case q103 => unfold maxLen; omega
     case q104 => omega
     case q105 => first | omega | (simp; done) | (simp; omega)
     intro v' w1 hown' hgrow _
     rw [Hs.out] at hown'
     have hb2 : Below w.heap.size w w1 := (hbel.alloc hsz _).grown hgrow (by first | omega | (simp; done) | (simp; omega)) fun k' hk' => (hown.lt k' hk').1
     clear hown hgrow hbel
     have HOWN := Lib.hid hown'
     have HB2 := Lib.hid hb2
     clear hown' hb2
     go_wp2_with fail
     refine ⟨⟨k + 1, 0, by omega, by go_num, Hc2, by omega, by first | rfl | go_num, HOWN.out, HB2.out⟩, by first | (simp [intOf]; done) | (simp [intOf]; omega)⟩
    ·subst hz
     have e3 : D2 = (dg1 : Int) := by omega
     subst e3
     have e4 : ¬ ((dg1 : Int) < 0) := by omega
     have hky : ¬ (k : Int) < (M : Int) := by omega
     have hb0 : b = 0 := by rw [hb]; exact HYB.out k (by omega)
     have e5 : D1 = (dg1 : Int) := by omega
     subst e5
     clear ha hb hdg hcr2 hst hD1 hD2 hb0 e2
     go_wp2_with (first | (at_builtin; refine wpList_append_own _ rfl _ _ 136 rfl w.heap.size 3 i0 (.int .i64 0) 1 8 Tryz.underlying136 hi hz0 hz1 hz2 rfl (by decide) _ _ _ rfl (hown.alloc _) ⟨wr.heap.size, 0, none⟩ 1 1 [.int .i64 (dg1 : Nat)] rfl rfl ?q001 ?q002 ?q003 ?q004 ?q005 ?_) | go_in)
     all_goals skip
     first
     | case q001 =>
         intro j u hj
         match j, hj with
         | 0, hj => simp at hj; subst hj; simp [Addr.add]
     | skip
     case q002 => first | rfl | (intro u hu; simp at hu; subst hu; rfl)
     case q003 => unfold maxLen; omega
     case q004 => omega
     case q005 => first | omega | (simp; done) | (simp; omega)
     intro v' w1 hown' hgrow _
     rw [Hs.out] at hown'
     have hb2 : Below w.heap.size w w1 := (hbel.alloc hsz _).grown hgrow (by first | omega | (simp; done) | (simp; omega)) fun k' hk' => (hown.lt k' hk').1
     clear hown hgrow hbel
     have HOWN := Lib.hid hown'
     have HB2 := Lib.hid hb2
     clear hown' hb2
     go_wp2_with fail
     refine ⟨⟨k + 1, 0, by omega, by go_num, Hc2, by omega, by first | rfl | go_num, HOWN.out, HB2.out⟩, by first | (simp [intOf]; done) | (simp [intOf]; omega)⟩
   ·by_cases hy1 : k < M
    ·subst hz
     have e3 : D2 + 256 = (dg1 : Int) := by omega
     have e4 : D2 < 0 := by omega
     have hky : (k : Int) < (M : Int) := by omega
     obtain ⟨g2, rfl, hc2, hg2, hcy⟩ := A2.out k wr hbel (by omega)
     rw [← hb] at hcy
     clear ha hb hdg hcr2 hst hD1 hD2
     go_wp2_with (first | (at_builtin; refine wpList_append_own _ rfl _ _ 136 rfl w.heap.size 3 i0 (.int .i64 0) 1 8 Tryz.underlying136 hi hz0 hz1 hz2 rfl (by decide) _ _ _ rfl (hown.alloc _) ⟨wr.heap.size, 0, none⟩ 1 1 [.int .i64 (dg1 : Nat)] rfl rfl ?q111 ?q112 ?q113 ?q114 ?q115 ?_) | go_in)
     all_goals skip
     first
     | case q111 =>
         intro j u hj
         match j, hj with
         | 0, hj => simp at hj; subst hj; simp [Addr.add]
     | skip
     case q112 => first | rfl | (intro u hu; simp at hu; subst hu; rfl)
     case q113 => unfold maxLen; omega
     case q114 => omega
     case q115 => first | omega | (simp; done) | (simp; omega)
     intro v' w1 hown' hgrow _
     rw [Hs.out] at hown'
     have hb2 : Below w.heap.size w w1 := (hbel.alloc hsz _).grown hgrow (by first | omega | (simp; done) | (simp; omega)) fun k' hk' => (hown.lt k' hk').1
     clear hown hgrow hbel
     have HOWN := Lib.hid hown'
     have HB2 := Lib.hid hb2
     clear hown' hb2
     go_wp2_with fail
     refine ⟨⟨k + 1, 1, by omega, by go_num, Hc2, by omega, by first | rfl | go_num, HOWN.out, HB2.out⟩, by first | (simp [intOf]; done) | (simp [intOf]; omega)⟩
    ·subst hz
     have e3 : D2 + 256 = (dg1 : Int) := by omega
     have e4 : D2 < 0 := by omega
     have hky : ¬ (k : Int) < (M : Int) := by omega
     have hb0 : b = 0 := by rw [hb]; exact HYB.out k (by omega)
     have e5 : D1 = D2 := by omega
     subst e5
     clear ha hb hdg hcr2 hst hD1 hD2 hb0 e2
     go_wp2_with (first | (at_builtin; refine wpList_append_own _ rfl _ _ 136 rfl w.heap.size 3 i0 (.int .i64 0) 1 8 Tryz.underlying136 hi hz0 hz1 hz2 rfl (by decide) _ _ _ rfl (hown.alloc _) ⟨wr.heap.size, 0, none⟩ 1 1 [.int .i64 (dg1 : Nat)] rfl rfl ?q011 ?q012 ?q013 ?q014 ?q015 ?_) | go_in)
     all_goals skip
     first
     | case q011 =>
         intro j u hj
         match j, hj with
         | 0, hj => simp at hj; subst hj; simp [Addr.add]
     | skip
     case q012 => first | rfl | (intro u hu; simp at hu; subst hu; rfl)
     case q013 => unfold maxLen; omega
     case q014 => omega
     case q015 => first | omega | (simp; done) | (simp; omega)
     intro v' w1 hown' hgrow _
     rw [Hs.out] at hown'
     have hb2 : Below w.heap.size w w1 := (hbel.alloc hsz _).grown hgrow (by first | omega | (simp; done) | (simp; omega)) fun k' hk' => (hown.lt k' hk').1
     clear hown hgrow hbel
     have HOWN := Lib.hid hown'
     have HB2 := Lib.hid hb2
     clear hown' hb2
     go_wp2_with fail
     refine ⟨⟨k + 1, 1, by omega, by go_num, Hc2, by omega, by first | rfl | go_num, HOWN.out, HB2.out⟩, by first | (simp [intOf]; done) | (simp [intOf]; omega)⟩
  ·have hkx : ¬ (k : Int) < (N : Int) := by omega
   have e : k = N := by omega
   subst e
   have HDL := Lib.hid (Dl.of_owned hown HXY.out)
   have HFR := Lib.hid (fun k h => (hown.lt k h).1)
   have hkb : k ≤ 8589934592 := by omega
   clear hown
   go_wp2_with fail
   refine (strimF_c _ _ _ _ HDL.out hkb).mono ?_
   rintro e w' ⟨v', rfl, hdt, hfr, rfl⟩
   have HDT := Lib.hid hdt
   have HF2 := Lib.hid (fun k h => HFR.out k (hfr k h))
   clear hdt hfr
   go_wp2_with fail
   go_ret
   exact ⟨_, rfl, HDT.out, HF2.out, hbel⟩
theorem my8_next (o d y i n : Nat) (ho : o < 256 ^ (i + n)) (hy : y < 256 ^ n) (hd : d < 256) : my8 o d y i (n + 1) = 0 := by
 have h1 := my8_step o d y i n
 have h2 := my8_last o d y i n ho hy hd
 have h3 := d8_big o (i + n) (i + n) ho (Nat.le_refl _)
 have h4 := d8_big y n n hy (Nat.le_refl _)
 rw [h3, h4, Nat.mul_zero, ← h2] at h1
 omega
theorem mulFn8_early (o d y i n m : Nat) (ho : o < 256 ^ (i + n)) (hy : y < 256 ^ n) (hd : d < 256) (hz : my8 o d y i n = 0) :
    arr .i64 (mulFn8 o (o + 256 ^ i * (d * y)) i n) m = arr .i64 (d8 (o + 256 ^ i * (d * y))) m := by
 have h := row_lt8 o d y i n ho hy hd
 have h2 := my8_last o d y i n ho hy hd
 apply arr_congr
 intro p _
 unfold mulFn8
 by_cases h1 : p < i + n
 ·rw [if_pos h1]
 ·rw [if_neg h1, d8_big o (i + n) p ho (by omega)]
  by_cases h3 : p = i + n
  ·rw [h3, ← h2, hz]
  ·rw [d8_big _ (i + n + 1) p h (by omega)]
set_option maxRecDepth 100000 in
set_option maxHeartbeats 3200000 in
theorem stimesF_c (v1 v2 : Value) (x y z : Nat) (hzz : z = x * y) (w : World) (h1 : DT w v1 x) (h2 : DT w v2 y) (hnx : nd 256 x ≤ 4294967290) (hny : nd 256 y ≤ 4294967290) : Calls Tryz.prog 87 #[v1, v2] w fun e w' => ∃ v, e = .returned v ∧ DT w' v z ∧ (∀ k, v.ownBlock = some k → w.heap.size ≤ k) ∧ Below w.heap.size w w' := by
 subst hzz
 obtain ⟨a1, c1, e1⟩ := h1.lenForm
 obtain ⟨a2, c2, e2⟩ := h2.lenForm
 subst e1
 subst e2
 have A1 := Lib.hid (fun (i : Nat) (hi : i < nd 256 x) => h1.cellAt (Below.refl _ _) hi)
 have A2 := Lib.hid (fun (i : Nat) (hi : i < nd 256 y) => h2.cellAt (Below.refl _ _) hi)
 have HXL := Lib.hid h1.1
 have HYL := Lib.hid h2.1
 obtain ⟨n, hN⟩ : ∃ N, N = nd 256 x := ⟨_, rfl⟩
 obtain ⟨m, hM⟩ : ∃ M, M = nd 256 y := ⟨_, rfl⟩
 rw [← hN] at A1 HXL hnx ⊢
 rw [← hM] at A2 HYL hny ⊢
 have HT := Lib.hid (prod_lt8 x y n m HXL.out HYL.out)
 have HMK := Lib.hid (makeIntT n m · (by omega))
 clear h1 h2 hN hM
 go_enter Tryz.func87, Tryz.ntmps87
 go_wp2_with fail
 have hmk := HMK.out
 simp only [hmk]
 clear hmk
 go_wp2_with fail
 have H0 := Lib.hid (zero_row8 (n + m + 1) x y)
 go_loopw [6] (fun v wr => ∃ (i : Nat) (u : World), i ≤ n ∧ v = .int .i64 i ∧ wr = (w.alloc (.cells (arr .i64 (d8 (x % 256 ^ i * y)) (n + m + 1)) 3)).plus u) (fun v _ => n - (intOf v).toNat)
 case atStart =>
  obtain ⟨u, hu⟩ := World.plus_of_below (Below.refl (w.alloc (.cells (arr .i64 (fun _ => 0) (n + m + 1)) 3)).heap.size (w.alloc (.cells (arr .i64 (fun _ => 0) (n + m + 1)) 3)))
  exact ⟨0, u, Nat.zero_le _, rfl, by rw [← H0.out]; exact hu⟩
 case round =>
  obtain ⟨i, u0, hi, rfl, rfl⟩ := hrel
  by_cases hlt : i < n
  ·obtain ⟨g, rfl, hcap, hg, hgx⟩ := A1.out i hlt
   have hdx1 := d8_lt x i
   have hli : (i : Int) < (n : Int) := by omega
   obtain ⟨o, ho⟩ : ∃ o, o = x % 256 ^ i * y := ⟨_, rfl⟩
   have hol := part_lt8 x y i m HYL.out
   rw [← ho] at hol ⊢
   have HOL := Lib.hid hol
   have HO := Lib.hid ho
   clear ho hol
   obtain ⟨d, hd⟩ : ∃ d, d = d8 x i := ⟨_, rfl⟩
   rw [← hd] at hdx1 hgx
   have HD := Lib.hid hd
   clear hd
   obtain ⟨t, ht⟩ : ∃ t, t = o + 256 ^ i * (d * y) := ⟨_, rfl⟩
   have HTT := Lib.hid ht
   have HZ := Lib.hid (mulFn8_zero o (d * y) i (n + m + 1))
   rw [← ht] at HZ
   clear ht
   have HM0 := Lib.hid (my8_zero o d y i)
   have HNX := Lib.hid (my8_next o d y i m HOL.out HYL.out hdx1)
   have HN := Lib.hid (part_mul8 x y i)
   go_wp2_with fail
   go_loopw [7, 8] (fun c v wr => ∃ (k ck : Nat) (u : World), k ≤ m + 1 ∧ v = .int .i64 k ∧ Hid (ck = my8 o d y i k) ∧ c = .int .i64 (ck : Int) ∧ wr = (w.alloc (.cells (arr .i64 (mulFn8 o t i k) (n + m + 1)) 3)).plus u) (fun _ v _ => m + 1 - (intOf v).toNat)
   case atStart => exact ⟨0, 0, u0, Nat.zero_le _, rfl, Lib.hid HM0.out.symm, rfl, by rw [HZ.out]⟩
   case round =>
    obtain ⟨k, ck, u1, hk, rfl, HCK, rfl, rfl⟩ := hrel
    have hc1 : ck < 256 := by rw [HCK.out]; exact my8_lt o d y i k hdx1
    by_cases hgo : k < m ∨ 0 < ck
    ·have hkm : k ≤ m := by
       rcases hgo with h | h
       ·omega
       ·apply Decidable.byContradiction
        intro hc
        have e : k = m + 1 := by omega
        have := HCK.out
        rw [e, HNX.out] at this
        omega
     have hgo1 := arr_get .i64 (mulFn8 o t i k) (n + m + 1) (i + k) (by omega)
     rw [mulFn8_at] at hgo1
     have hst := my8_step o d y i k
     rw [← HTT.out, ← HCK.out] at hst
     have ho1 := d8_lt o (i + k)
     have hy1 := d8_lt y k
     have ht1 := d8_lt t (i + k)
     have hcn := my8_lt o d y i (k + 1) hdx1
     obtain ⟨yk, hyk⟩ : ∃ z, z = d8 y k := ⟨_, rfl⟩
     obtain ⟨P, hP⟩ : ∃ P, P = d * yk := ⟨_, rfl⟩
     rw [← hyk, ← hP] at hst
     rw [← hyk] at hy1
     have hp1 : P ≤ 255 * 255 := by rw [hP]; exact Nat.mul_le_mul (by omega) (by omega)
     have e1 : IntKind.i64.wrap ((d : Int) * (yk : Int)) = (P : Int) := by
      rw [← Int.natCast_mul, ← hP]; exact IntWalk.i64_in _ (by omega)
     obtain ⟨ok, hok⟩ : ∃ z, z = d8 o (i + k) := ⟨_, rfl⟩
     rw [← hok] at hgo1 hst ho1
     obtain ⟨tk, htk⟩ : ∃ z, z = d8 t (i + k) := ⟨_, rfl⟩
     rw [← htk] at hst ht1
     obtain ⟨cn, hcnn⟩ : ∃ z, z = my8 o d y i (k + 1) := ⟨_, rfl⟩
     rw [← hcnn] at hst hcn
     have HCN := Lib.hid hcnn
     obtain ⟨R0, hR0⟩ : ∃ R, R = ok + ck := ⟨_, rfl⟩
     obtain ⟨R, hR⟩ : ∃ R, R = R0 + P := ⟨_, rfl⟩
     have hRl : R < 100000 := by omega
     have hR0l : R0 < 100000 := by omega
     have e2 : (ok : Int) + (ck : Int) = (R0 : Int) := by omega
     have e3 : (R0 : Int) + (P : Int) = (R : Int) := by omega
     have hR1 : (R : Int).tmod 256 = (tk : Int) := by rw [Int.tmod_eq_emod_of_nonneg (by omega)]; omega
     have hR2 : (R : Int).tdiv 256 = (cn : Int) := by rw [Int.tdiv_eq_ediv_of_nonneg (by omega)]; omega
     have HR1 := Lib.hid hR1
     have HR2 := Lib.hid hR2
     have HS3 : Hid (upd (mulFn8 o t i k) (i + k) tk = mulFn8 o t i (k + 1)) := Lib.hid (by rw [htk]; exact mulFn8_succ o t i k)
     have e4 : IntKind.i64.wrap ((i : Int) + (k : Int)) = (i : Int) + (k : Int) := IntWalk.i64_in _ (by omega)
     have e5 : (0 : Int) ≤ (i : Int) + (k : Int) := by omega
     have e6 : ((i : Int) + (k : Int)).toNat = i + k := by omega
     have e7 : (i : Int) + (k : Int) < (n : Int) + (m : Int) + 1 := by omega
     clear hR1 hR2
     by_cases hkm2 : k < m
     ·have hkmi : (k : Int) < (m : Int) := by omega
      obtain ⟨g2, rfl, hc2, hg2, hcy⟩ := A2.out k hkm2
      rw [← hyk] at hcy
      have hR1 := HR1.out
      have hR2 := HR2.out
      clear hst hR ht1 hp1 hok hP hyk htk hcnn hR0 hgo
      go_wp2_with fail
      (refine wp_region_exact (by kernel_rfl) (by kernel_rfl) ?_; repeat go_big_quiet_step (fail)); (refine wpQuiet_nil ?_; rintro _ rfl)
      go_wp2_with fail
      obtain ⟨u2, hu2⟩ := World.plus_of_below (w := w.alloc (.cells (arr .i64 (mulFn8 o t i (k + 1)) (n + m + 1)) 3)) (w' := ((w.alloc (.cells (arr .i64 (mulFn8 o t i (k + 1)) (n + m + 1)) 3)).plus u1).drew) (by (exact belA))
      exact ⟨⟨k + 1, cn, u2, by omega, by go_num, HCN, rfl, by rw [arr_set, HS3.out]; exact hu2⟩, by first | (simp [intOf]; done) | (simp [intOf]; omega)⟩
     ·have hkmi : ¬ (k : Int) < (m : Int) := by omega
      have hckp : (0 : Int) < (ck : Int) := by omega
      have hP0 : P = 0 := by rw [hP, hyk, d8_big y m k HYL.out (by omega), Nat.mul_zero]
      have hRR : R = R0 := by omega
      subst hRR
      have hR1 := HR1.out
      have hR2 := HR2.out
      clear hst hR ht1 hp1 hok hP hyk htk hcnn hR0 hgo hP0 e3 e1
      go_wp2_with fail
      exact ⟨⟨k + 1, cn, u1, by omega, by go_num, HCN, rfl, by rw [arr_set, HS3.out]⟩, by first | (simp [intOf]; done) | (simp [intOf]; omega)⟩
    ·have hkmi : ¬ (k : Int) < (m : Int) := by omega
     have hck0 : ck = 0 := by omega
     subst hck0
     have HF : Hid (arr .i64 (mulFn8 o t i k) (n + m + 1) = arr .i64 (d8 t) (n + m + 1)) := Lib.hid (by
      rw [HTT.out]
      rcases (by omega : k = m ∨ k = m + 1) with e | e
      ·rw [e]; exact mulFn8_early o d y i m (n + m + 1) HOL.out HYL.out hdx1 (by rw [← e]; exact HCK.out.symm)
      ·rw [e]; exact mulFn8_end o d y i m (n + m + 1) HOL.out HYL.out hdx1)
     clear hgo
     go_wp2_with fail
     exact ⟨⟨i + 1, u1, by omega, by go_num, by rw [HF.out, HTT.out, HO.out, HD.out, HN.out]⟩, by first | (simp [intOf]; done) | (simp [intOf]; omega)⟩
  ·have e : i = n := by omega
   subst e
   have HA := Lib.hid (Nat.mod_eq_of_lt HXL.out)
   have hli : ¬ (i : Int) < (i : Int) := by omega
   go_wp2_with fail
   rw [HA.out]
   have hdl : Dl ((w.alloc (.cells (arr .i64 (d8 (x * y)) (i + m + 1)) 3)).plus u0) (.slice (some ⟨w.heap.size, 0, none⟩) (i + m + 1) (i + m + 1)) (i + m + 1) (x * y) := Dl.of_arr _ _ _ _ _ (fun j hj => by simp [go_sem, arr_get _ _ _ _ hj]) (by simp [go_sem]) HT.out (Nat.le_refl _) (by unfold maxLen; omega)
   refine (strimF_c _ _ _ _ hdl (by omega)).mono ?_
   rintro e w' ⟨v', rfl, hdt, hfr, rfl⟩
   have HDT := Lib.hid hdt
   have HF2 : Hid (∀ k, v'.ownBlock = some k → w.heap.size ≤ k) := Lib.hid (fun k h => by have := hfr k h; cases this; exact Nat.le_refl _)
   clear hdt hdl hfr
   go_wp2_with fail
   go_ret
   exact ⟨_, rfl, HDT.out, HF2.out, by (exact belA)⟩
end Go.Proofs.YtlblfgbpogljoaaGreatDoor

end
section
namespace Go.Proofs.YtlblfgbpogljoaaGreatDoor
open Go Go.RowKit
open Vi
def PT (w : World) (v : Value) (q r : Nat) : Prop := ∃ vq vr, v = .tuple #[vq, vr] ∧ DT w vq q ∧ DT w vr r
theorem PT.below {w w' : World} {v : Value} {q r : Nat} (h : PT w v q r) (hb : Below w.heap.size w w') : PT w' v q r := by
 obtain ⟨a, b, e, h1, h2⟩ := h
 exact ⟨a, b, e, h1.below hb, h2.below hb⟩
theorem dgt_div (x y i : Nat) (hy : 0 < y) (A : Nat) (hA : A = (x / 256 ^ (i + 1) % y) * 256 + d8 x i) : A < 256 * y ∧ d8 (x / y) i = A / y ∧ x / 256 ^ i % y = A % y := by
 obtain ⟨H, hH⟩ : ∃ H, H = x / 256 ^ (i + 1) := ⟨_, rfl⟩
 have h1 := d8_top x i
 rw [← hH] at h1 hA
 have h2 := Nat.div_add_mod H y
 have h3 := d8_lt x i
 have h4 := Nat.mod_lt H hy
 obtain ⟨R, hR⟩ : ∃ R, R = H % y := ⟨_, rfl⟩
 obtain ⟨Q, hQ⟩ : ∃ Q, Q = H / y := ⟨_, rfl⟩
 rw [← hR, ← hQ] at h2
 rw [← hR] at h4 hA
 have h5 : x / 256 ^ i = y * (256 * Q) + A := by
  rw [h1, ← h2, hA]
  grind
 have hlt : A < 256 * y := by
  have : (R + 1) * 256 ≤ y * 256 := Nat.mul_le_mul_right _ h4
  omega
 refine ⟨hlt, ?_, ?_⟩
 ·unfold d8
  rw [Nat.div_div_eq_div_mul, Nat.mul_comm y, ← Nat.div_div_eq_div_mul, h5, Nat.mul_add_div hy, Nat.mul_add_mod]
  apply Nat.mod_eq_of_lt
  rw [Nat.div_lt_iff_lt_mul hy]; exact hlt
 ·rw [h5, Nat.mul_add_mod]
def qfn (Q p : Nat) : Nat → Nat := fun j => if j < p then 0 else d8 Q j
theorem qfn_top (Q n m : Nat) (h : Q < 256 ^ n) : arr .i64 (fun _ => 0) m = arr .i64 (qfn Q n) m := by
 apply arr_congr; intro j _; unfold qfn
 by_cases h2 : j < n
 ·rw [if_pos h2]
 ·rw [if_neg h2, d8_big Q n j h (by omega)]
theorem qfn_zero (Q : Nat) : qfn Q 0 = d8 Q := by funext j; unfold qfn; rw [if_neg (by omega)]
theorem qfn_start (Q i : Nat) : upd (qfn Q (i + 1)) i 0 = qfn Q (i + 1) := by
 funext j; unfold upd qfn
 by_cases h : j = i
 ·rw [if_pos h, if_pos (by omega)]
 ·rw [if_neg h]
theorem qfn_end (Q i : Nat) : upd (qfn Q (i + 1)) i (d8 Q i) = qfn Q i := by
 funext j; unfold upd qfn
 by_cases h : j = i
 ·rw [if_pos h, h, if_neg (by omega)]
 ·rw [if_neg h]
  by_cases h2 : j < i
  ·rw [if_pos (by omega), if_pos h2]
  ·rw [if_neg (by omega), if_neg h2]
theorem upd_upd (f : Nat → Nat) (i a b : Nat) : upd (upd f i a) i b = upd f i b := by
 funext j; unfold upd; split <;> rfl
theorem upd_at (f : Nat → Nat) (i a : Nat) : upd f i a i = a := by unfold upd; rw [if_pos rfl]
end Go.Proofs.YtlblfgbpogljoaaGreatDoor

end
section
/- No program in sight: as XKinds' law; a step also knows what the slots hold that later operations write. -/
namespace Go
open Go.RowKit
section
variable {P : Program} {ops : Array Oper}
def USteps (P : Program) (w : World) (A : (Nat → Value) → Act) (T : Nat → Value → World → Prop) (xs0 : Nat → Value) : List Oper → Nat → Prop
 | [], _ => True
 | o :: l, i => (∀ xs w', Below w.heap.size w w' → (∀ j, waitsB o j = true → T j (xs j) w') → (∀ j oj, ops[j]? = some oj → waitsB oj i = true → xs j = xs0 j) →
     wpList P ops (fun ex a' w'' => ex = .normal ∧ Below w'.heap.size w' w'' ∧ ∃ v, a' = A (fun j => if j = i then v else xs j) ∧ T i v w'') [o] (A xs) w') ∧ USteps P w A T xs0 l (i + 1)
theorem USteps.cons {w : World} {A : (Nat → Value) → Act} {T : Nat → Value → World → Prop} {xs0 : Nat → Value} {o : Oper} {l : List Oper} {i : Nat}
    (h : ∀ xs w', Below w.heap.size w w' → (∀ j, waitsB o j = true → T j (xs j) w') → (∀ j oj, ops[j]? = some oj → waitsB oj i = true → xs j = xs0 j) →
     wpList P ops (fun ex a' w'' => ex = .normal ∧ Below w'.heap.size w' w'' ∧ ∃ v, a' = A (fun j => if j = i then v else xs j) ∧ T i v w'') [o] (A xs) w') (t : USteps (ops := ops) P w A T xs0 l (i + 1)) : USteps (ops := ops) P w A T xs0 (o :: l) i := ⟨h, t⟩
theorem USteps.nil {w : World} {A : (Nat → Value) → Act} {T : Nat → Value → World → Prop} {xs0 : Nat → Value} {i : Nat} : USteps (ops := ops) P w A T xs0 [] i := trivial
theorem USteps.at {w : World} {A : (Nat → Value) → Act} {T : Nat → Value → World → Prop} {xs0 : Nat → Value} : ∀ {l : List Oper} {k i : Nat} {o : Oper}, USteps (ops := ops) P w A T xs0 l k → l[i]? = some o →
    ∀ xs w', Below w.heap.size w w' → (∀ j, waitsB o j = true → T j (xs j) w') → (∀ j oj, ops[j]? = some oj → waitsB oj (k + i) = true → xs j = xs0 j) →
     wpList P ops (fun ex a' w'' => ex = .normal ∧ Below w'.heap.size w' w'' ∧ ∃ v, a' = A (fun j => if j = k + i then v else xs j) ∧ T (k + i) v w'') [o] (A xs) w'
 | [], _, _, _, _, h => by cases h
 | o :: l, k, 0, o', hs, h => by
  have e : o = o' := by simpa using h
  subst e
  exact hs.1
 | o :: l, k, i + 1, o', hs, h => by
  have := USteps.at hs.2 (i := i) (o := o') (by simpa using h)
  rw [show k + 1 + i = k + (i + 1) by omega] at this
  exact this
theorem usteps_any {l : List Oper} {n g : Nat} {Q' : Exit → Act → World → Prop} {A : (Nat → Value) → Act} {T : Nat → Value → World → Prop} {w w1 : World} {xs0 : Nat → Value} (hn : n ≤ l.toArray.size)
    (hlow : Region.earlierB .any l.toArray = true) (hT : ∀ i v w1 w2, Below w1.heap.size w1 w2 → T i v w1 → T i v w2)
    (hwait : ∀ listed, HeadInv .any l.toArray n listed → 0 < unlisted n listed → ∀ j ∈ Region.ready .any l.toArray listed, j < n)
    (hs : USteps (ops := l.toArray) P w A T xs0 (l.take n) 0) (h1 : Below w.heap.size w w1)
    (hL : ∀ xs w', Below w.heap.size w w' → (∀ i, i < n → T i (xs i) w') → wpAny P .any l.toArray Q' g (Region.head l.toArray.size n) (A xs) w') :
    wpAny P .any l.toArray Q' (unlisted n (Array.replicate l.toArray.size false) + g) (Array.replicate l.toArray.size false) (A xs0) w1 := by
 refine wpAny_inv (Inv := fun listed a w' => Below w.heap.size w w' ∧ ∃ xs, a = A xs ∧ (∀ i, i < n → listed.getD i false = true → T i (xs i) w') ∧ ∀ j, listed.getD j false = false → xs j = xs0 j) hn hlow hwait ?_ ?_ _ _ _ _ rfl
  ⟨by simp, fun j oj _ hl => (by rw [getD_replicate_false] at hl; cases hl), fun t _ ht => getD_in (by simpa using ht) (getD_replicate_false _ _)⟩ ⟨h1, xs0, rfl, (fun i _ hl => by rw [getD_replicate_false] at hl; cases hl), fun _ _ => rfl⟩
 ·intro i hi listed a w' inv ⟨hw, xs, hax, hfacts, hun0⟩ hr
  subst hax
  obtain ⟨hun, o, ho, hall⟩ := mem_ready.1 hr
  have hlo : (l.take n)[i]? = some o := by
   rw [List.getElem?_take_of_lt hi]; simpa using ho
  have h := hs.at hlo xs w' hw (fun j hj => by
   unfold waitsB at hj
   rw [Array.any_eq_true] at hj
   obtain ⟨k, hk, hj⟩ := hj
   simp only [Bool.and_eq_true, beq_iff_eq] at hj
   obtain ⟨hb, rfl⟩ := hj
   have hlt := Region.earlier_spec hlow ho _ (Array.getElem_mem hk) hb
   exact hfacts _ (by omega) (hall _ (Array.getElem_mem hk) hb)) (fun j oj hoj hwb => by
   rw [Nat.zero_add] at hwb
   apply hun0
   unfold waitsB at hwb
   rw [Array.any_eq_true] at hwb
   obtain ⟨k, hk, hj⟩ := hwb
   simp only [Bool.and_eq_true, beq_iff_eq] at hj
   obtain ⟨hb1, hb2⟩ := hj
   cases hl : listed.getD j false with
   | false => rfl
   | true =>
    have h3 := inv.closed j oj hoj hl _ (Array.getElem_mem hk) hb1
    rw [hb2] at h3
    have h4 := getD_both hun
    rw [h3] at h4
    cases h4)
  rw [Nat.zero_add] at h
  refine wpOp_of_list ho (R := fun a' w'' => Below w'.heap.size w' w'' ∧ ∃ v, a' = A (fun j => if j = i then v else xs j) ∧ T i v w'') ?_ h
  rintro a' w'' ⟨hb, v, rfl, ht⟩
  refine ⟨hw.trans (hb.mono hw.size), _, rfl, fun j hj hl => ?_, fun j hl => ?_⟩
  ·show T j (if j = i then v else xs j) w''
   by_cases hji : j = i
   ·subst hji; rw [if_pos rfl]; exact ht
   ·rw [if_neg hji]
    rw [getD_set_ne false (Ne.symm hji)] at hl
    exact hT j _ _ _ hb (hfacts j hj hl)
  ·show (if j = i then v else xs j) = xs0 j
   by_cases hji : j = i
   ·subst hji
    have hlt : j < listed.size := by rw [inv.size]; omega
    rw [Array.getD_eq_getD_getElem?, Array.getElem?_setIfInBounds, if_pos rfl, if_pos hlt] at hl
    cases hl
   ·rw [if_neg hji]
    rw [getD_set_ne false (Ne.symm hji)] at hl
    exact hun0 j hl
 ·rintro a w' ⟨hw, xs, rfl, hfacts, _⟩
  refine hL xs w' hw fun i hi => hfacts i hi ?_
  have hsz : i < l.toArray.size := by omega
  rw [head_getD _ _ _ _ hsz]
  simpa using hi
theorem wp_region_ufacts_t {id : Nat} {Q : Exit → Act → World → Prop} {a : Act} {w : World} {l : List Oper} (n : Nat) (T : Nat → Value → World → Prop) (hm : P.follows .mixedOrders = true)
    (hB : (Region.earlierB .any l.toArray && decide (n < l.toArray.size) && Region.sinkB .any l.toArray n && Region.chainB .any l.toArray n && Region.seqB .any l.toArray (l.toArray.size - n) n (Region.head l.toArray.size n)) = true)
    (hT : ∀ i v w1 w2, Below w1.heap.size w1 w2 → T i v w1 → T i v w2)
    (hs : USteps (ops := l.toArray) P w (fun xs => fill a xs (l.take n) 0) T (fun j => (((l.take n)[j - 0]?).map (readDst a)).getD undef) (l.take n) 0)
    (hend : ∀ xs w', Below w.heap.size w w' → (∀ i, i < n → T i (xs i) w') → wpList P l.toArray Q (l.drop n) (fill a xs (l.take n) 0) w') : (Code.region id l.toArray true).wp P Q a w := by
 have ha := (fill_self a (l.take n) 0).symm
 simp only [Bool.and_eq_true, decide_eq_true_eq] at hB
 obtain ⟨⟨⟨⟨hlow, hn⟩, hsk⟩, hc⟩, hseq⟩ := hB
 refine wp_region_any hm ?_
 have hdl : (l.drop n).length = l.toArray.size - n := by simp
 have h := usteps_any (P := P) (l := l) (n := n) (g := l.toArray.size - n) (Q' := Q) (A := fun xs => fill a xs (l.take n) 0) (T := T) (w := w) (w1 := { w with drawn := w.drawn + 1 }) (xs0 := fun j => (((l.take n)[j - 0]?).map (readDst a)).getD undef) (Nat.le_of_lt hn) hlow hT
  (fun listed inv hpos j hj => by
   obtain ⟨i, hi, hun, _⟩ := unlisted_pos hpos
   exact Nat.lt_of_not_le fun h => tail_waits hsk hc hn inv _ i rfl hi hun j h hj)
  hs ⟨rfl, rfl, rfl, Nat.le_refl _, fun _ _ => rfl⟩
  (fun xs w' hw hf => by
   have h3 := wpAny_of_seq (P := P) (md := .any) (ops := l.toArray) (Q' := Q) (l.drop n) n (Region.head l.toArray.size n) (fill a xs (l.take n) 0) w' (fun j => by simp [List.getElem?_drop]) (by rw [hdl]; exact hseq) (hend xs w' hw hf)
   rwa [hdl] at h3)
 rw [unlisted_all _ _ (Nat.le_of_lt hn), show n + (l.toArray.size - n) = l.toArray.size by omega] at h
 rw [← ha] at h
 exact h
end
end Go

end
