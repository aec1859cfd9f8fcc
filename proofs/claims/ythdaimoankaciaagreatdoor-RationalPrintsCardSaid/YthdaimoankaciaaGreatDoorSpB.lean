import Derived.Test.YthdaimoankaciaaGreatDoorSpA
import Derived.Test.YthdaimoankaciaaGreatDoorRefs
import Derived.Test.YthdaimoankaciaaGreatDoorRelM
import Derived.Test.YthdaimoankaciaaGreatDoorFrac
import Derived.OwnWalk
import Derived.Deep.DeepCutAuto
import Derived.Deep.CutBlock
set_option linter.unusedSimpArgs false
set_option linter.unusedVariables false
namespace Go.Proofs.YthdaimoankaciaaGreatDoor
open Go Go.RowKit
open Vi
theorem nd_of_x {x k : Nat} (h : nd 256 x ≤ k) : x < 256 ^ k := Nat.lt_of_lt_of_le (lt_pow_nd 256 (by omega) x) (Nat.pow_le_pow_right (by omega) h)
theorem w64_of (n : Nat) (h : n ≤ 9223372036854775807) : wrap64 (n : Int) = (n : Int) := by unfold wrap64; omega
theorem d8_top (x p : Nat) : x / 256 ^ p = d8 x p + x / 256 ^ (p + 1) * 256 := by rw [d8_div]; omega
set_option maxHeartbeats 800000 in
theorem ssmall_big (v : Value) (x : Nat) (w : World) (h : DT w v x) (hx : 7 < nd 256 x) : Calls Tryz.prog 170 #[v] w fun e w' => e = .returned (.tuple #[.int .i64 0, .bool false]) ∧ w = w' := by
 obtain ⟨a, c, rfl⟩ := h.lenForm
 have h7 : (7 : Int) < ((nd 256 x : Nat) : Int) := by omega
 clear h hx
 go_enter Tryz.func170, Tryz.ntmps170
 go_wp2_with fail
 go_ret2
 exact ⟨rfl, rfl⟩
set_option maxHeartbeats 800000 in
theorem ssmall_c (v : Value) (x : Nat) (w : World) (h : DT w v x) (hx : nd 256 x ≤ 7) : Calls Tryz.prog 170 #[v] w fun e w' => e = .returned (.tuple #[.int .i64 (x : Int), .bool true]) ∧ w = w' := by
 rcases h.cases with ⟨rfl, rfl⟩ | ⟨g, c, rfl, hc, hmx, hg, hcell⟩
 ·clear h
  go_enter Tryz.func170, Tryz.ntmps170
  go_wp2_with fail
  go_rounds 1
  go_wp2_with fail
  go_ret2
  exact ⟨rfl, rfl⟩
 ·obtain ⟨N, hN⟩ : ∃ N, N = nd 256 x := ⟨_, rfl⟩
  rw [← hN] at hx hcell ⊢
  have hxb : x < 256 ^ 7 := nd_of_x (by omega)
  have e7 : (256 : Nat) ^ 7 = 72057594037927936 := by decide
  have HC := Lib.hid hcell
  have h7 : ¬ (7 : Int) < (N : Int) := by omega
  have hx0 : x / 256 ^ N = 0 := by rw [hN]; exact Nat.div_eq_of_lt (lt_pow_nd 256 (by omega) x)
  have HX0 := Lib.hid hx0
  clear h hc hmx hg hcell hN hx0
  go_enter Tryz.func170, Tryz.ntmps170
  go_wp2_with fail
  go_loop [4, 5] (fun a i => ∃ p A : Nat, p ≤ N ∧ i = .int .i64 ((p : Int) - 1) ∧ Hid (A = x / 256 ^ p) ∧ a = .int .i64 (A : Int)) (fun _ i => (intOf i + 1).toNat)
  case atStart => exact ⟨N, 0, Nat.le_refl _, rfl, Lib.hid HX0.out.symm, rfl⟩
  case round =>
   obtain ⟨p, A, hp, rfl, HA, rfl⟩ := hrel
   cases p with
   | zero =>
    have hA : A = x := by have := HA.out; rw [Nat.pow_zero, Nat.div_one] at this; exact this
    go_wp2_with fail
    subst hA
    go_ret2
    exact ⟨rfl, rfl⟩
   | succ q =>
    have hq : ((q + 1 : Nat) : Int) - 1 = (q : Int) := by omega
    rw [hq]
    have hci := HC.out q (by omega)
    obtain ⟨d, hd⟩ : ∃ d, d = d8 x q := ⟨_, rfl⟩
    rw [← hd] at hci
    obtain ⟨B, hB⟩ : ∃ z, z = A * 256 := ⟨_, rfl⟩
    obtain ⟨C, hC⟩ : ∃ z, z = B + d := ⟨_, rfl⟩
    have hCx : C = x / 256 ^ q := by rw [hC, hB, hd, HA.out, d8_top x q]; omega
    have hCb : C ≤ 72057594037927936 := by rw [hCx]; exact Nat.le_trans (Nat.div_le_self _ _) (by omega)
    have HCX := Lib.hid hCx
    have hqN : (q : Int) < (N : Int) := by omega
    have hq0 : (0 : Int) ≤ (q : Int) := by omega
    have e1 : (A : Int) * 256 = (B : Int) := by omega
    have e2 : (B : Int) + (d : Int) = (C : Int) := by omega
    have hBb : B ≤ 72057594037927936 := by omega
    have w1 : wrap64 (B : Int) = (B : Int) := by unfold wrap64; omega
    have w2 : wrap64 (C : Int) = (C : Int) := by unfold wrap64; omega
    clear hd hB hC hCx
    go_wp2_with fail
    exact ⟨⟨q, C, by omega, by go_num, HCX, by go_num⟩, by first | (simp [intOf]; done) | (simp [intOf]; omega)⟩
set_option maxRecDepth 100000 in
set_option maxHeartbeats 1600000 in
theorem slargeF_c (X : Nat) (w : World) (h2 : X < 9223372036854775808) : Calls Tryz.prog 173 #[.int .i64 (X : Int)] w fun e w' => ∃ v, e = .returned v ∧ DT w' v X ∧ (∀ k, v.ownBlock = some k → w.heap.size ≤ k) ∧ Below w.heap.size w w' := by
 obtain ⟨i0, hi, hz0, hz1, hz2⟩ := info_parts info3
 go_enter Tryz.func173, Tryz.ntmps173
 go_wp2_with fail
 go_loopw [0, 3] (fun c v wr => ∃ k q : Nat, k ≤ 8 ∧ Hid (q = X / 256 ^ k) ∧ Hid (q ≠ 0 ∨ k = nd 256 X) ∧ c = .int .i64 (q : Int) ∧ wr.ownsRow w.heap.size 3 1 v k (dvals X k) ∧ Below w.heap.size w wr) (fun c _ _ => (intOf c).toNat)
 case atStart =>
  refine ⟨0, X, Nat.zero_le _, Lib.hid (by rw [Nat.pow_zero, Nat.div_one]), Lib.hid ?_, rfl, World.ownsRow_nil _ _ _ _, Below.refl _ _⟩
  by_cases h : X = 0
  ·exact .inr (by rw [h, nd_zero])
  ·exact .inl h
 case round =>
  obtain ⟨k, q, hk, HQ, HZ, rfl, hown, hbel⟩ := hrel
  have hqX : q ≤ X := by rw [HQ.out]; exact Nat.div_le_self _ _
  by_cases h0 : q = 0
  ·have hkn : k = nd 256 X := by rcases HZ.out with h | h; exact absurd h0 h; exact h
   subst h0
   have HX := cur_zero X k HQ.out.symm
   have hdl := Dl.of_owned hown HX
   rw [hkn] at hdl
   have HDT : Hid (DT _ _ X) := Lib.hid hdl
   have HFR := Lib.hid (fun k h => (hown.lt k h).1)
   rw [show ((0 : Nat) : Int) = 0 from rfl]
   clear hkn hown hdl HX
   go_wp2_with fail
   go_ret
   exact ⟨_, rfl, HDT.out, HFR.out, hbel⟩
  ·obtain ⟨q1, hq1⟩ : ∃ z, z = q / 256 := ⟨_, rfl⟩
   obtain ⟨dg1, hdg⟩ : ∃ z, z = d8 X k := ⟨_, rfl⟩
   have hk8 : k < 8 := by
    apply Decidable.byContradiction
    intro hc
    have e8 : k = 8 := by omega
    have := HQ.out
    rw [e8, Nat.div_eq_of_lt (Nat.lt_trans h2 (by decide))] at this
    exact h0 this
   have hdq : dg1 = q % 256 := by rw [hdg, HQ.out]; rfl
   have hd2 : dg1 < 256 := hdg ▸ d8_lt _ _
   have HQ1 : Hid (q1 = X / 256 ^ (k + 1)) := Lib.hid (by rw [hq1, HQ.out, cur_next])
   have HZ1 : Hid (q1 ≠ 0 ∨ k + 1 = nd 256 X) := Lib.hid (by
    by_cases h1 : q1 = 0
    ·right
     have e1 : X < 256 ^ (k + 1) := cur_zero X (k + 1) (by rw [← HQ1.out, h1])
     have e2 := nd_le 256 (by omega) X (k + 1) e1
     refine (nd_top8 X k e2 ?_).symm
     rw [← hdg, hdq]
     omega
    ·exact .inl h1)
   have Hs : Hid (dvals X k ++ [Value.int .i64 (dg1 : Nat)] = dvals X (k + 1)) := Lib.hid (by rw [hdg, dvals_succ])
   have HM := Lib.hid (show q1 < q by omega)
   have hsz := hbel.size
   have hq1b : q1 ≤ 9223372036854775807 := by rw [hq1]; exact Nat.le_trans (Nat.div_le_self _ _) (by omega)
   have hz : (0 : Int) < (q : Int) := by omega
   have HCW := Lib.hid (w64_of q1 hq1b)
   have em : (q : Int).tmod 256 = (dg1 : Int) := by rw [hdq]; exact tmod256 q
   have ed : (q : Int).tdiv 256 = (q1 : Int) := by rw [hq1]; exact tdiv256 q
   have HED := Lib.hid ed
   clear hq1 hdg hdq h0
   go_wp2_with (first | (at_builtin; refine wpList_append_own _ rfl _ _ 102 rfl w.heap.size 3 i0 (.int .i64 0) 1 8 Tryz.underlying102 hi hz0 hz1 hz2 rfl (by decide) _ _ _ rfl (hown.alloc _) ⟨wr.heap.size, 0, none⟩ 1 1 [.int .i64 (dg1 : Nat)] rfl rfl ?c1 ?c2 ?c3 ?c4 ?c5 ?_) | go_in)
   all_goals clear em ed
   case c1 =>
    intro j u hj
    match j, hj with
    | 0, hj => simp at hj; subst hj; simp [Addr.add]
   case c2 => first | rfl | (intro u hu; simp at hu; subst hu; rfl)
   case c3 => unfold maxLen; omega
   case c4 => omega
   case c5 => first | omega | (simp; done) | (simp; omega)
   intro v' w1 hown' hgrow _
   rw [Hs.out] at hown'
   have hb2 : Below w.heap.size w w1 := (hbel.alloc hsz _).grown hgrow (by first | omega | (simp; done) | (simp; omega)) fun k' hk' => (hown.lt k' hk').1
   have ed : (q : Int).tdiv 256 = (q1 : Int) := HED.out
   have HOWN := Lib.hid hown'
   have HB2 := Lib.hid hb2
   have HK8 := Lib.hid hk8
   clear hown hgrow hbel hown' hb2 hqX hq1b hsz h2 hd2 hz hk8 hk
   go_wp2_with fail
   clear ed
   rw [HCW.out]
   exact ⟨⟨k + 1, q1, by have := HK8.out; omega, HQ1, HZ1, rfl, HOWN.out, HB2.out⟩, by have := HM.out; first | (simp [intOf]; done) | (simp [intOf]; omega)⟩
theorem slarge_c (X : Nat) (w : World) (h2 : X < 9223372036854775808) : Calls Tryz.prog 173 #[.int .i64 (X : Int)] w fun e w' => ∃ v, e = .returned v ∧ DT w' v X ∧ Below w.heap.size w w' :=
 (slargeF_c X w h2).mono fun e w' ⟨v, he, hd, _, hb⟩ => ⟨v, he, hd, hb⟩
end Go.Proofs.YthdaimoankaciaaGreatDoor
