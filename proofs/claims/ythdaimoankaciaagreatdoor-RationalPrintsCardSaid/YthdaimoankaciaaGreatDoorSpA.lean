import Derived.Test.YthdaimoankaciaaGreatDoorRefs
import Derived.Test.YthdaimoankaciaaGreatDoorRelM
import Derived.Test.YthdaimoankaciaaGreatDoorFrac
import Derived.OwnWalk
import Derived.Deep.DeepCutAuto
import Derived.Deep.CutBlock
set_option linter.unusedSimpArgs false
set_option linter.unusedVariables false
namespace Go.Proofs.YthdaimoankaciaaGreatDoor
open Go Go.RowKit
open Vi
def DT (w : World) (v : Value) (x : Nat) : Prop := Dl w v (nd 256 x) x
theorem DT.below {w w' : World} {v : Value} {x : Nat} (h : DT w v x) (hb : Below w.heap.size w w') : DT w' v x := Dl.below h hb
theorem DT.nil (w : World) : DT w (.slice none 0 0) 0 := ⟨by rw [nd_zero]; omega, .inl ⟨rfl, rfl⟩⟩
set_option maxHeartbeats 800000 in
theorem strimF_c (v : Value) (n x : Nat) (w : World) (h : Dl w v n x) (hn : n ≤ 8589934592) : Calls Tryz.prog 144 #[v] w fun e w' => ∃ v', e = .returned v' ∧ DT w' v' x ∧ (∀ k, v'.ownBlock = some k → v.ownBlock = some k) ∧ w = w' := by
 rcases h.2 with ⟨rfl, rfl⟩ | ⟨g, c, rfl, hc, hm, hg, hcell⟩
 ·have hx : x = 0 := by have := h.1; rw [Nat.pow_zero] at this; omega
  subst hx
  clear h
  go_enter Tryz.func144, Tryz.ntmps144
  go_wp2
  go_rounds 1
  go_wp2
  go_ret
  exact ⟨_, rfl, DT.nil _, fun k h => h, rfl⟩
 ·have hle := nd_le 256 (by omega) x n h.1
  have HC := Lib.hid hcell
  have hDT : Hid (nd 256 x ≤ c → DT w (.slice (some ⟨g, 0, none⟩) (nd 256 x) c) x) := Lib.hid fun hc2 => ⟨lt_pow_nd 256 (by omega) x, .inr ⟨g, c, rfl, hc2, hm, hg, fun i hi => HC.out i (by omega)⟩⟩
  clear h hcell
  go_enter Tryz.func144, Tryz.ntmps144
  go_wp2_with fail
  go_loop [3] (fun v => ∃ j : Nat, nd 256 x ≤ j ∧ j ≤ n ∧ v = .int .i64 j) (fun v => (intOf v).toNat)
  case atStart => exact ⟨n, hle, Nat.le_refl _, rfl⟩
  case round =>
   obtain ⟨j, h1, h2, rfl⟩ := hrel
   by_cases hj : j = 0
   ·subst hj
    have e0 : nd 256 x = 0 := by omega
    have H0 := Lib.hid e0
    have h0c : (0 : Int) ≤ (c : Int) := by omega
    clear e0 h1 hle
    go_wp2_with fail
    go_ret
    have := hDT.out (by have := H0.out; omega)
    rw [H0.out] at this
    exact ⟨_, rfl, this, fun k h => h, rfl⟩
   ·obtain ⟨m, hm⟩ : ∃ m, j = m + 1 := ⟨j - 1, by omega⟩
    have hcell := HC.out m (by omega)
    have hj0 : (0 : Int) < (j : Int) := by omega
    have e1 : (j : Int) - 1 = (m : Int) := by omega
    have hmn : m < n := by omega
    have hmi : (m : Int) < (n : Int) := by omega
    have Hm := Lib.hid hm
    have Ht : Hid (nd 256 x ≤ m + 1) := Lib.hid (by omega)
    by_cases h0 : d8 x m = 0
    ·have hb : ((d8 x m : Int) == 0) = true := by rw [h0]; rfl
     have H := Lib.hid (nd_low8 x m Ht.out h0)
     clear h0 hm h1 hle
     go_wp2_with fail
     exact ⟨⟨m, H.out, by omega, rfl⟩, by have := Hm.out; simp [intOf]; omega⟩
    ·have hb : ((d8 x m : Int) == 0) = false := by rw [beq_eq_false_iff_ne]; omega
     have hnd := nd_top8 x m Ht.out h0
     rw [← hm] at hnd
     have H := Lib.hid hnd
     have hjc : j ≤ c := by omega
     have hjc2 : (j : Int) ≤ (c : Int) := by omega
     clear h0 hnd h1 hle hm
     go_wp2_with fail
     go_ret
     have := hDT.out (by rw [H.out]; exact hjc)
     rw [H.out] at this
     exact ⟨_, rfl, this, fun k h => h, rfl⟩
theorem strim_c (v : Value) (n x : Nat) (w : World) (h : Dl w v n x) (hn : n ≤ 8589934592) : Calls Tryz.prog 144 #[v] w fun e w' => ∃ v', e = .returned v' ∧ DT w' v' x ∧ w = w' :=
 (strimF_c v n x w h hn).mono fun e w' ⟨v', he, hd, _, hw⟩ => ⟨v', he, hd, hw⟩
set_option maxHeartbeats 400000 in
theorem sdigitsF_c (b : Bool) (s : ByteArray) (w : World) (hs : s.size ≤ 4294967296) : Calls Tryz.prog 101 #[.agg #[.bool b, .string s]] w fun e w' => ∃ v, e = .returned v ∧ DT w' v (num s) ∧ (∀ k, v.ownBlock = some k → w.heap.size ≤ k) ∧ Below w.heap.size w w' := by
 obtain ⟨i0, hi, hz0, hz1, hz2⟩ := info_parts info3
 have hx := Lib.hid (num_lt s)
 go_enter Tryz.func101, Tryz.ntmps101
 go_wp2
 go_loopw [3, 4] (fun v i wr => ∃ p k : Nat, p + k = s.size ∧ i = .int .i64 ((p : Int) - 1) ∧ wr.ownsRow (w.heap.size + 1) 3 1 v k (dvals (num s) k) ∧ Below (w.heap.size + 1) (w.alloc (.cells #[.bool b, .string s] 23)) wr) (fun _ i _ => (intOf i + 1).toNat)
 case atStart => exact ⟨s.size, 0, rfl, rfl, World.ownsRow_nil _ _ _ _, Below.refl _ _⟩
 case round =>
  obtain ⟨p, k, hpk, rfl, hown, hbel⟩ := hrel
  have hc0 := hbel.cell (p := ⟨w.heap.size, 0, none⟩) (by simp)
  have hc1 := hbel.cell (p := ⟨w.heap.size, 1, none⟩) (by simp)
  simp [go_sem] at hc0 hc1
  cases p with
  | zero =>
   have e : k = s.size := by omega
   subst e
   have hdl := Dl.of_owned hown hx.out
   have hbw : Below w.heap.size w wr := (Below.alloc (Below.refl _ _) (Nat.le_refl _) _).trans (hbel.mono (Nat.le_succ _))
   have HDL := Lib.hid hdl
   have HFR := Lib.hid (fun k h => Nat.le_of_succ_le (hown.lt k h).1)
   clear hown hbel hc0 hc1 hpk hdl
   go_wp2_with fail
   refine (strimF_c _ _ _ _ HDL.out (by omega)).mono ?_
   rintro e w' ⟨v', rfl, hdt, hfr, rfl⟩
   have HDT := Lib.hid hdt
   have HF2 := Lib.hid (fun k h => HFR.out k (hfr k h))
   clear hdt hfr
   go_wp2_with fail
   go_ret
   exact ⟨_, rfl, HDT.out, HF2.out, hbw⟩
  | succ q =>
   have hq : ((q + 1 : Nat) : Int) - 1 = (q : Int) := by omega
   rw [hq]
   have hq1 : (0 : Int) ≤ (q : Int) := by omega
   have hq2 : q < s.size := by omega
   have hget : (s[q]'hq2).toNat = d8 (num s) k := by rw [get_num, show s.size - 1 - q = k by omega]; rfl
   have hd := d8_lt (num s) k
   have hw : wrap64 (d8 (num s) k : Int) = (d8 (num s) k : Int) := by unfold wrap64; omega
   go_wp2_with (first | (at_builtin; refine wpList_append_own _ rfl _ _ 102 rfl (w.heap.size + 1) 3 i0 (.int .i64 0) 1 8 Tryz.underlying102 hi hz0 hz1 hz2 rfl (by decide) _ _ _ rfl (hown.alloc _) ⟨wr.heap.size, 0, none⟩ 1 1 [.int .i64 (d8 (num s) k : Nat)] rfl rfl ?c1 ?c2 ?c3 ?c4 ?c5 ?_) | go_in)
   case c1 =>
    intro j u hj
    match j, hj with
    | 0, hj => simp at hj; subst hj; simp [Addr.add, hget, hw]
   case c2 => intro u hu; simp at hu; subst hu; rfl
   case c3 => unfold maxLen; omega
   case c4 => omega
   case c5 => have := hbel.size; simp at this; first | (simp; done) | (simp; omega)
   intro v' w1 hown' hgrow _
   rw [dvals_succ] at hown'
   have hb2 : Below (w.heap.size + 1) (w.alloc (Obj.cells #[Value.bool b, Value.string s] 23)) w1 := by
    have hsz : w.heap.size + 1 ≤ wr.heap.size := by have := hbel.size; simpa using this
    refine (hbel.alloc hsz _).grown hgrow (by first | (simp; done) | (simp; omega)) fun k' hk' => (hown.lt k' hk').1
   clear hown hgrow hbel hc0 hc1 hget hd hw
   go_wp2
   go_roundw
   case rel => exact ⟨q, k + 1, by omega, rfl, hown', hb2⟩
   case measure => first | (simp [intOf]; done) | (simp [intOf]; omega)
theorem sdigits_c (b : Bool) (s : ByteArray) (w : World) (hs : s.size ≤ 4294967296) : Calls Tryz.prog 101 #[.agg #[.bool b, .string s]] w fun e w' => ∃ v, e = .returned v ∧ DT w' v (num s) ∧ Below w.heap.size w w' :=
 (sdigitsF_c b s w hs).mono fun e w' ⟨v, he, hd, _, hb⟩ => ⟨v, he, hd, hb⟩
theorem DT.cases {w : World} {v : Value} {x : Nat} (h : DT w v x) : (v = .slice none 0 0 ∧ x = 0) ∨ ∃ g c, v = .slice (some ⟨g, 0, none⟩) (nd 256 x) c ∧ nd 256 x ≤ c ∧ c ≤ maxLen ∧ g < w.heap.size ∧ ∀ i, i < nd 256 x → w.cell? ⟨g, i, none⟩ = some (.int .i64 (d8 x i : Nat)) := by
 rcases h.2 with ⟨h1, h2⟩ | h1
 ·refine .inl ⟨h1, ?_⟩
  have := h.1
  rw [h2, Nat.pow_zero] at this
  omega
 ·exact .inr h1
theorem DT.lenForm {w : World} {v : Value} {x : Nat} (h : DT w v x) : ∃ ao c, v = .slice ao (nd 256 x) c := Dl.lenForm h
set_option maxRecDepth 100000 in
set_option maxHeartbeats 800000 in
theorem swhole_c (neg : Bool) (v : Value) (n x : Nat) (z : Int) (hz : z = if neg then -(x : Int) else x) (w : World) (h : Dl w v n x) (hn : n ≤ 8589934592) : Calls Tryz.prog 145 #[v, .bool neg] w fun e w' => e = .returned (.agg #[.bool (sg z), .string (mg z)]) ∧ Below w.heap.size w w' := by
 obtain ⟨j, hj⟩ : ∃ j, j = nd 256 x := ⟨_, rfl⟩
 have hjn : j ≤ n := by rw [hj]; exact nd_le 256 (by omega) x n h.1
 have hal : Below w.heap.size w (w.alloc (.cells #[Value.bool false, .string ⟨#[]⟩] 23)) := by (repeat' (first | (with_reducible first | exact Below.refl _ _ | assumption | refine Below.plus0 ?_ _ | refine Below.alloc0 ?_ _ | refine Below.plus ?_ ?_ _ | refine Below.alloc ?_ ?_ _ | refine Below.drew ?_ | refine Below.drewN ?_ _) | (simp [go_sem]; done) | (simp [go_sem]; omega)))
 have HT := Lib.hid (strim_c v n x _ (h.below hal) hn)
 have HS := sign_empty neg x
 rw [← hz] at HS
 have HSS := Lib.hid HS
 have HNB := Lib.hid (nb_mag x j hj.symm)
 rw [← hj] at HSS
 have HJ := Lib.hid hj
 clear hz HS h hal
 go_enter Tryz.func145, Tryz.ntmps145
 go_wp2_with fail
 refine (HT.out).mono ?_
 rintro e w' ⟨v', rfl, hdt, rfl⟩
 clear HT
 rcases hdt.cases with ⟨rfl, hx0⟩ | ⟨g, c, rfl, hc, hmx, hg, hcell⟩
 ·have hj0 : j = 0 := by rw [HJ.out, hx0, nd_zero]
  subst hj0
  have hm := make8z (w.alloc (.cells #[Value.bool false, .string ⟨#[]⟩] 23))
  have hcv := conv8z (w.alloc (.cells #[Value.bool false, .string ⟨#[]⟩] 23))
  simp only [World.size_alloc] at hcv
  have e1 : mag x = ⟨#[]⟩ := by rw [hx0]; rfl
  rw [e1] at HSS
  clear hdt hx0 e1 hj
  cases neg
  all_goals
   go_wp2_with fail
   go_rounds 1
   go_wp2_with fail
   refine bodyPost_ret (by simp [results, Tryz.results145, go_sem]; rfl) rfl ?_
   exact ⟨by rw [← HSS.out]; rfl, by (repeat' (first | (with_reducible first | exact Below.refl _ _ | assumption | refine Below.plus0 ?_ _ | refine Below.alloc0 ?_ _ | refine Below.plus ?_ ?_ _ | refine Below.alloc ?_ ?_ _ | refine Below.drew ?_ | refine Below.drewN ?_ _) | (simp [go_sem]; done) | (simp [go_sem]; omega)))⟩
 ·rw [← HJ.out] at hc hcell ⊢
  have HC := Lib.hid hcell
  have hjb : j ≤ 8589934592 := by omega
  have hgw : g ≤ w.heap.size := by have := hg; simp at this; omega
  have hgl : g < w.heap.size + 1 := by omega
  have hm := make8 j (w.alloc (.cells #[Value.bool false, .string ⟨#[]⟩] 23)) (by omega)
  have hcv := conv8 (nbFn x j j) j j (w.alloc (.cells #[Value.bool false, .string ⟨#[]⟩] 23)) (nbFn_lt x j j)
  simp only [World.size_alloc] at hcv
  have H0 := Lib.hid (nbFn_zero x j j)
  have hcv2 := hcv
  rw [HNB.out] at hcv2
  clear hcell hdt hg hj hcv
  obtain ⟨W, hW⟩ : ∃ W, W = w.alloc (.cells #[Value.bool false, .string ⟨#[]⟩] 23) := ⟨_, rfl⟩
  go_wp2_with fail
  go_loopw [6] (fun v wr => ∃ i : Nat, i ≤ j ∧ v = .int .i64 i ∧ wr = (w.alloc (.cells #[Value.bool false, .string ⟨#[]⟩] 23)).alloc (.cells (arr .u8 (nbFn x j i) j) 5)) (fun v _ => j - (intOf v).toNat)
  case atStart => exact ⟨0, Nat.zero_le _, rfl, by rw [H0.out]⟩
  case round =>
   obtain ⟨i, hi, rfl, rfl⟩ := hrel
   by_cases hlt : i < j
   ·obtain ⟨p, hp⟩ : ∃ p : Nat, p + 1 + i = j := ⟨j - 1 - i, by omega⟩
    have hci := HC.out i (by omega)
    have hci2 : ((w.alloc (.cells #[Value.bool false, .string ⟨#[]⟩] 23)).alloc (.cells (arr .u8 (nbFn x j i) j) 5)).cell? ⟨g, i, none⟩ = some (.int .i64 (d8 x i : Nat)) := by
     rw [World.cell?_of_block (show (World.alloc _ _).heap[g]? = _ from heap_alloc_old _ _ (show g < (World.alloc _ _).heap.size by simp; omega))]
     exact hci
    have e5 : (j : Int) - 1 - (i : Int) = (p : Int) := by omega
    have hpl : p < j := by omega
    have hlt2 : (i : Int) < (j : Int) := by omega
    have hget := arr_get .u8 (nbFn x j i) j p hpl
    have hd := d8_byte x i
    have H1 := Lib.hid (nbFn_succ x j i p hp)
    clear hp hci
    go_wp2_with fail
    refine ⟨⟨i + 1, by omega, by go_num, ?_⟩, by simp [intOf]; omega⟩
    rw [← H1.out, arr_set]
   ·have e : i = j := by omega
    subst e
    clear HC
    cases neg
    all_goals
     go_wp2_with fail
     refine bodyPost_ret (by simp [results, Tryz.results145, go_sem]; rfl) rfl ?_
     refine ⟨?_, by (repeat' (first | (with_reducible first | exact Below.refl _ _ | assumption | refine Below.plus0 ?_ _ | refine Below.alloc0 ?_ _ | refine Below.plus ?_ ?_ _ | refine Below.alloc ?_ ?_ _ | refine Below.drew ?_ | refine Below.drewN ?_ _) | (simp [go_sem]; done) | (simp [go_sem]; omega)))⟩
     rw [← HSS.out]
     first | (simp; done) | (simp; omega)
end Go.Proofs.YthdaimoankaciaaGreatDoor
