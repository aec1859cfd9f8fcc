import Derived.Test.YtkoodpbcfdblbaaDoorRefE
set_option linter.unusedSimpArgs false
set_option linter.unusedVariables false
namespace Go.Proofs.YtkoodpbcfdblbaaDoor
open Go Go.RowKit
open Vi
theorem tmod256 (q : Nat) : (q : Int).tmod 256 = ((q % 256 : Nat) : Int) := by rw [Int.tmod_eq_emod_of_nonneg (by omega)]; omega
theorem tdiv256 (q : Nat) : (q : Int).tdiv 256 = ((q / 256 : Nat) : Int) := by rw [Int.tdiv_eq_ediv_of_nonneg (by omega)]; omega
theorem cur_zero (X k : Nat) (h : X / 256 ^ k = 0) : X < 256 ^ k := (Nat.div_eq_zero_iff_lt (Nat.pow_pos (by omega))).1 h
theorem cur_next (X k : Nat) : X / 256 ^ k / 256 = X / 256 ^ (k + 1) := by rw [Nat.div_div_eq_div_mul, ← Nat.pow_succ]
set_option maxRecDepth 100000 in
set_option maxHeartbeats 1600000 in
theorem rFromInt_pos (X : Nat) (w : World) (h2 : X < 9223372036854775808) : Calls Tryd.prog 31 #[.int .i64 (X : Int)] w fun e w' => e = .returned (.agg #[.bool (sg (X : Int)), .string (mg (X : Int))]) ∧ Below w.heap.size w w' := by
  obtain ⟨i0, hi, hz0, hz1, hz2⟩ := info_parts info3
  have hn : ¬ ((X : Int) < 0) := by omega
  go_enter Tryd.func31, Tryd.ntmps31
  go_wp2_with fail
  obtain ⟨W, hW⟩ : ∃ W, W = w.alloc (.cells #[.bool false, .string ⟨#[]⟩] 23) := ⟨_, rfl⟩
  go_loopw [0, 3] (fun c v wr => ∃ k q : Nat, k ≤ 8 ∧ Hid (q = X / 256 ^ k) ∧ c = .int .i64 (q : Int) ∧ wr.ownsRow W.heap.size 3 1 v k (dvals X k) ∧ Below W.heap.size W wr) (fun c _ _ => (intOf c).toNat)
  case atStart => exact ⟨0, X, Nat.zero_le _, Lib.hid (by rw [Nat.pow_zero, Nat.div_one]), rfl, World.ownsRow_nil _ _ _ _, by rw [hW]; exact Below.refl _ _⟩
  case round =>
    obtain ⟨k, q, hk, HQ, rfl, hown, hbel⟩ := hrel
    have HW := Lib.hid hW
    clear hW
    have hqX : q ≤ X := by rw [HQ.out]; exact Nat.div_le_self _ _
    by_cases h0 : q = 0
    · subst h0
      have HX := Lib.hid (cur_zero X k HQ.out.symm)
      rw [show ((0 : Nat) : Int) = 0 from rfl]
      have hW := HW.out
      subst hW
      obtain ⟨u0, rfl⟩ := World.plus_of_below hbel
      clear hbel
      go_wp2_with fail
      (go_wp2_with fail; refine (rnumber_c false _ X k _ (Dl.of_owned hown HX.out) (by omega)).mono ?_; rintro e w' ⟨rfl, hb⟩; (first | (with_reducible (have hb2 := World.plus_of_below ((World.below_plus _ _).trans (hb.mono (World.size_plus _ _)))); obtain ⟨u, rfl⟩ := hb2) | (obtain ⟨u, rfl⟩ := World.plus_of_below hb)); clear hb)
      go_wp2_with fail
      refine bodyPost_ret (by simp [results, Tryd.results31, go_sem]; rfl) rfl ?_
      exact ⟨rfl, by (repeat' (first | (with_reducible exact Below.refl _ _) | (with_reducible assumption) | (with_reducible refine Below.plus0 ?_ _) | (with_reducible refine Below.alloc0 ?_ _) | (with_reducible refine Below.plus ?_ ?_ _) | (with_reducible refine Below.alloc ?_ ?_ _) | (with_reducible refine Below.drew ?_) | (with_reducible refine Below.drewN ?_ _) | (simp [go_sem]; done) | (simp [go_sem]; omega)))⟩
    · obtain ⟨q1, hq1⟩ : ∃ z, z = q / 256 := ⟨_, rfl⟩
      obtain ⟨dg1, hdg⟩ : ∃ z, z = d8 X k := ⟨_, rfl⟩
      have hk8 : k < 8 := by
        apply Decidable.byContradiction
        intro hc
        have e8 : k = 8 := by omega
        have := HQ.out
        rw [e8, Nat.div_eq_of_lt (show X < 256 ^ 8 by omega)] at this
        exact h0 this
      have hdq : dg1 = q % 256 := by rw [hdg, HQ.out]; rfl
      have hd2 : dg1 < 256 := hdg ▸ d8_lt _ _
      have HQ1 : Hid (q1 = X / 256 ^ (k + 1)) := Lib.hid (by rw [hq1, HQ.out, cur_next])
      have Hs : Hid (dvals X k ++ [Value.int .i64 (dg1 : Nat)] = dvals X (k + 1)) := Lib.hid (by rw [hdg, dvals_succ])
      have HM := Lib.hid (show q1 < q by omega)
      have hsz := hbel.size
      have hcw : wrap64 (q1 : Int) = (q1 : Int) := by unfold wrap64; omega
      have hz : ¬ ((q : Int) = 0) := fun h => h0 (Int.ofNat_eq_zero.1 h)
      have hzd : ¬ ((dg1 : Int) < 0) := by omega
      have em : (q : Int).tmod 256 = (dg1 : Int) := by rw [hdq]; exact tmod256 q
      have ed : (q : Int).tdiv 256 = (q1 : Int) := by rw [hq1]; exact tdiv256 q
      clear hq1 hdg hdq h0
      go_wp2_with (first | (at_builtin; refine wpList_append_own _ rfl _ _ 54 rfl W.heap.size 3 i0 (.int .i64 0) 1 8 Tryd.underlying54 hi hz0 hz1 hz2 rfl (by decide) _ _ _ rfl (hown.alloc _) ⟨wr.heap.size, 0, none⟩ 1 1 [.int .i64 (dg1 : Nat)] rfl rfl ?c1 ?c2 ?c3 ?c4 ?c5 ?_) | go_in)
      first
      | case c1 =>
          intro j u hj
          match j, hj with
          | 0, hj => simp at hj; subst hj; simp [Addr.add]
      | skip
      case c2 => first | rfl | (intro u hu; simp at hu; subst hu; rfl)
      case c3 => unfold maxLen; omega
      case c4 => omega
      case c5 => first | omega | (simp; done) | (simp; omega)
      intro v' w1 hown' hgrow _
      rw [Hs.out] at hown'
      have hb2 : Below W.heap.size W w1 := (hbel.alloc hsz _).grown hgrow (by first | omega | (simp; done) | (simp; omega)) fun k' hk' => (hown.lt k' hk').1
      clear hown hgrow hbel
      go_wp2
      go_roundw
      case rel => exact ⟨k + 1, q1, by omega, HQ1, rfl, hown', hb2⟩
      case measure => have := HM.out; first | (simp [intOf]; done) | (simp [intOf]; omega) | (show (intOf _).toNat < _; simp only [intOf]; omega) | (trace_state; omega)
set_option maxRecDepth 100000 in
set_option maxHeartbeats 1600000 in
theorem rFromInt_neg (X : Nat) (w : World) (h1 : 0 < X) (h2 : X ≤ 9223372036854775808) : Calls Tryd.prog 31 #[.int .i64 (-(X : Int))] w fun e w' => e = .returned (.agg #[.bool (sg (-(X : Int))), .string (mg (-(X : Int)))]) ∧ Below w.heap.size w w' := by
  obtain ⟨i0, hi, hz0, hz1, hz2⟩ := info_parts info3
  have hn : -(X : Int) < 0 := by omega
  go_enter Tryd.func31, Tryd.ntmps31
  go_wp2_with fail
  obtain ⟨W, hW⟩ : ∃ W, W = w.alloc (.cells #[.bool false, .string ⟨#[]⟩] 23) := ⟨_, rfl⟩
  go_loopw [0, 3] (fun c v wr => ∃ k q : Nat, k ≤ 8 ∧ Hid (q = X / 256 ^ k) ∧ c = .int .i64 (-(q : Int)) ∧ wr.ownsRow W.heap.size 3 1 v k (dvals X k) ∧ Below W.heap.size W wr) (fun c _ _ => (-intOf c).toNat)
  case atStart => exact ⟨0, X, Nat.zero_le _, Lib.hid (by rw [Nat.pow_zero, Nat.div_one]), rfl, World.ownsRow_nil _ _ _ _, by rw [hW]; exact Below.refl _ _⟩
  case round =>
    obtain ⟨k, q, hk, HQ, rfl, hown, hbel⟩ := hrel
    have HW := Lib.hid hW
    clear hW
    have hqX : q ≤ X := by rw [HQ.out]; exact Nat.div_le_self _ _
    by_cases h0 : q = 0
    · subst h0
      have HX := Lib.hid (cur_zero X k HQ.out.symm)
      rw [show -((0 : Nat) : Int) = 0 from rfl]
      have hW := HW.out
      subst hW
      obtain ⟨u0, rfl⟩ := World.plus_of_below hbel
      clear hbel
      go_wp2_with fail
      (go_wp2_with fail; refine (rnumber_c true _ X k _ (Dl.of_owned hown HX.out) (by omega)).mono ?_; rintro e w' ⟨rfl, hb⟩; (first | (with_reducible (have hb2 := World.plus_of_below ((World.below_plus _ _).trans (hb.mono (World.size_plus _ _)))); obtain ⟨u, rfl⟩ := hb2) | (obtain ⟨u, rfl⟩ := World.plus_of_below hb)); clear hb)
      go_wp2_with fail
      refine bodyPost_ret (by simp [results, Tryd.results31, go_sem]; rfl) rfl ?_
      exact ⟨rfl, by (repeat' (first | (with_reducible exact Below.refl _ _) | (with_reducible assumption) | (with_reducible refine Below.plus0 ?_ _) | (with_reducible refine Below.alloc0 ?_ _) | (with_reducible refine Below.plus ?_ ?_ _) | (with_reducible refine Below.alloc ?_ ?_ _) | (with_reducible refine Below.drew ?_) | (with_reducible refine Below.drewN ?_ _) | (simp [go_sem]; done) | (simp [go_sem]; omega)))⟩
    · obtain ⟨q1, hq1⟩ : ∃ z, z = q / 256 := ⟨_, rfl⟩
      obtain ⟨dg1, hdg⟩ : ∃ z, z = d8 X k := ⟨_, rfl⟩
      have hk8 : k < 8 := by
        apply Decidable.byContradiction
        intro hc
        have e8 : k = 8 := by omega
        have := HQ.out
        rw [e8, Nat.div_eq_of_lt (show X < 256 ^ 8 by omega)] at this
        exact h0 this
      have hdq : dg1 = q % 256 := by rw [hdg, HQ.out]; rfl
      have hd2 : dg1 < 256 := hdg ▸ d8_lt _ _
      have HQ1 : Hid (q1 = X / 256 ^ (k + 1)) := Lib.hid (by rw [hq1, HQ.out, cur_next])
      have Hs : Hid (dvals X k ++ [Value.int .i64 (dg1 : Nat)] = dvals X (k + 1)) := Lib.hid (by rw [hdg, dvals_succ])
      have HM := Lib.hid (show q1 < q by omega)
      have hsz := hbel.size
      have hcw : wrap64 (-(q1 : Int)) = -(q1 : Int) := by unfold wrap64; omega
      have hz : ¬ (-(q : Int) = 0) := fun h => h0 (Int.ofNat_eq_zero.1 (Int.neg_eq_zero.1 h))
      have hzq : ¬ (q = 0) := h0
      by_cases hd0 : dg1 = 0
      · have hzd : ¬ (-(dg1 : Int) < 0) := by omega
        have em : (-(q : Int)).tmod 256 = -(dg1 : Int) := by rw [Int.neg_tmod, hdq, tmod256 q]
        have ed : (-(q : Int)).tdiv 256 = -(q1 : Int) := by rw [Int.neg_tdiv, hq1, tdiv256 q]
        have em2 : (q : Int).tmod 256 = (dg1 : Int) := by rw [hdq]; exact tmod256 q
        have ed2 : (q : Int).tdiv 256 = (q1 : Int) := by rw [hq1]; exact tdiv256 q
        clear hq1 hdg hdq h0
        subst hd0
        simp only [Int.natCast_zero, Int.neg_zero] at em em2 hzd
        go_wp2_with (first | (at_builtin; refine wpList_append_own _ rfl _ _ 54 rfl W.heap.size 3 i0 (.int .i64 0) 1 8 Tryd.underlying54 hi hz0 hz1 hz2 rfl (by decide) _ _ _ rfl (hown.alloc _) ⟨wr.heap.size, 0, none⟩ 1 1 [.int .i64 0] rfl rfl ?c1 ?c2 ?c3 ?c4 ?c5 ?_) | go_in)
        all_goals clear em ed em2 ed2
        first
        | case c1 =>
            intro j u hj
            match j, hj with
            | 0, hj => simp at hj; subst hj; simp [Addr.add]
        | skip
        case c2 => first | rfl | (intro u hu; simp at hu; subst hu; rfl)
        case c3 => unfold maxLen; omega
        case c4 => omega
        case c5 => first | omega | (simp; done) | (simp; omega)
        intro v' w1 hown' hgrow _
        have Hs2 := Hs.out
        simp only [Int.natCast_zero] at Hs2
        rw [Hs2] at hown'
        have hb2 : Below W.heap.size W w1 := (hbel.alloc hsz _).grown hgrow (by first | omega | (simp; done) | (simp; omega)) fun k' hk' => (hown.lt k' hk').1
        clear hown hgrow hbel
        go_wp2
        go_roundw
        case rel => exact ⟨k + 1, q1, by omega, HQ1, rfl, hown', hb2⟩
        case measure => have := HM.out; first | (simp [intOf]; done) | (simp [intOf]; omega) | (show (intOf _).toNat < _; simp only [intOf]; omega) | (trace_state; omega)
      · have hp0 : 0 < dg1 := by omega
        obtain ⟨nn, hnn⟩ : ∃ n : Int, n = -(q : Int) := ⟨_, rfl⟩
        obtain ⟨n1, hn1⟩ : ∃ n : Int, n = -(q1 : Int) := ⟨_, rfl⟩
        obtain ⟨r, hr⟩ : ∃ n : Int, n = -(dg1 : Int) := ⟨_, rfl⟩
        have hrn : -r = (dg1 : Int) := by omega
        have hr0 : r < 0 := by omega
        have hnz : (nn != 0) = true := by rw [hnn, bne_iff_ne]; exact hz
        have HR := Lib.hid (show wrap64 (-r) = (dg1 : Int) by rw [hrn]; unfold wrap64; omega)
        have em : nn.tmod 256 = r := by rw [hnn, hr, Int.neg_tmod, hdq, tmod256 q]
        have ed : nn.tdiv 256 = n1 := by rw [hnn, hn1, Int.neg_tdiv, hq1, tdiv256 q]
        rw [← hn1] at hcw
        have HCW := Lib.hid hcw
        clear hcw hrn
        rw [← hnn]
        have HN1 := Lib.hid hn1
        have HNN := Lib.hid hnn
        clear hq1 hdg hdq h0 hz hzq hd0 hr hn1 hnn
        go_upto_region 8 with fail
        clear em ed hr0 hnz
        rw [HR.out]
        go_wp2_with (at_builtin; (refine wpList_append_own _ rfl _ _ 54 rfl W.heap.size 3 i0 (.int .i64 0) 1 8 Tryd.underlying54 hi hz0 hz1 hz2 rfl (by decide) _ _ _ rfl (hown.alloc _) ⟨wr.heap.size, 0, none⟩ 1 1 [.int .i64 (dg1 : Nat)] rfl rfl ?d1 ?d2 ?d3 ?d4 ?d5 ?_))
        first
        | case d1 =>
            intro j u hj
            match j, hj with
            | 0, hj => simp at hj; subst hj; simp [Addr.add, HR.out]
        | skip
        case d2 => first | rfl | (intro u hu; simp at hu; subst hu; rfl)
        case d3 => unfold maxLen; omega
        case d4 => omega
        case d5 => first | omega | (simp; done) | (simp; omega)
        intro v' w1 hown' hgrow _
        rw [Hs.out] at hown'
        have hb2 : Below W.heap.size W w1 := (hbel.alloc hsz _).grown hgrow (by first | omega | (simp; done) | (simp; omega)) fun k' hk' => (hown.lt k' hk').1
        clear hown hgrow hbel
        go_wp2
        go_roundw
        case rel => exact ⟨k + 1, q1, by omega, HQ1, by rw [HCW.out, HN1.out], hown', hb2⟩
        case measure => have a1 := HM.out; have a2 := HN1.out; have a3 := HNN.out; have a4 := HCW.out; show (-(wrap64 n1)).toNat < (-nn).toNat; rw [a4]; omega
theorem rFromInt_c (n : Int) (w : World) (h1 : -9223372036854775808 ≤ n) (h2 : n ≤ 9223372036854775807) : Calls Tryd.prog 31 #[.int .i64 n] w fun e w' => e = .returned (.agg #[.bool (sg n), .string (mg n)]) ∧ Below w.heap.size w w' := by
  by_cases h : n < 0
  · obtain ⟨X, rfl⟩ : ∃ X : Nat, n = -(X : Int) := ⟨n.natAbs, by omega⟩
    exact rFromInt_neg X w (by omega) (by omega)
  · obtain ⟨X, rfl⟩ : ∃ X : Nat, n = (X : Int) := ⟨n.natAbs, by omega⟩
    exact rFromInt_pos X w (by omega)
end Go.Proofs.YtkoodpbcfdblbaaDoor
