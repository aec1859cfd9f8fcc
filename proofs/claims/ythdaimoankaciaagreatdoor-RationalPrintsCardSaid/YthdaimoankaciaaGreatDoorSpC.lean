import Derived.Test.YthdaimoankaciaaGreatDoorSpB
import Derived.Test.YthdaimoankaciaaGreatDoorRefs
import Derived.Test.YthdaimoankaciaaGreatDoorRelM
import Derived.Test.YthdaimoankaciaaGreatDoorFrac
import Derived.OwnWalk
import Derived.Deep.DeepCutAuto
import Derived.Deep.CutBlock
set_option linter.unusedSimpArgs false
set_option linter.unusedVariables false
namespace Go.Proofs.YthdaimoankaciaaGreatDoor
open Go Go.RowKit
open Vi
theorem DT.num_lt {w : World} {v : Value} {x : Nat} (h : DT w v x) : x < 256 ^ nd 256 x := h.1
theorem DT.cellAt {w wr : World} {a : Option Addr} {c : Nat} {x : Nat} (h : DT w (.slice a (nd 256 x) c) x) (hb : Below w.heap.size w wr) {i : Nat} (hi : i < nd 256 x) : ∃ g, a = some ⟨g, 0, none⟩ ∧ nd 256 x ≤ c ∧ g < wr.heap.size ∧ wr.cell? ⟨g, i, none⟩ = some (.int .i64 (d8 x i : Nat)) := by
 rcases h.cases with ⟨e, e0⟩ | ⟨g, c', e, hc, _, hg, hcell⟩
 ·subst e0; rw [nd_zero] at hi; omega
 ·cases e
  exact ⟨g, rfl, hc, Nat.lt_of_lt_of_le hg hb.size, (hb.cell (p := ⟨g, i, none⟩) hg).trans (hcell i hi)⟩
theorem cmp_nd (x y : Nat) (h : nd 256 x < nd 256 y) : cmpN x y = -1 := cmpN_of_lt x y (lt_of_nd_lt 256 (by omega) x y h)
theorem cmp_nd2 (x y : Nat) (h : nd 256 y < nd 256 x) : cmpN x y = 1 := cmpN_of_gt x y (lt_of_nd_lt 256 (by omega) y x h)
set_option maxRecDepth 100000 in
set_option maxHeartbeats 1600000 in
theorem scompare_c (v1 v2 : Value) (x y : Nat) (w : World) (h1 : DT w v1 x) (h2 : DT w v2 y) (hx : nd 256 x ≤ 8589934592) (hy : nd 256 y ≤ 8589934592) : Calls Tryz.prog 140 #[v1, v2] w fun e w' => e = .returned (.int .i64 (cmpN x y)) ∧ Below w.heap.size w w' := by
 obtain ⟨a1, c1, e1⟩ := h1.lenForm
 obtain ⟨a2, c2, e2⟩ := h2.lenForm
 subst e1
 subst e2
 obtain ⟨N, hN⟩ : ∃ N, N = nd 256 x := ⟨_, rfl⟩
 obtain ⟨M, hM⟩ : ∃ M, M = nd 256 y := ⟨_, rfl⟩
 by_cases hlt : N < M
 ·have H := Lib.hid (cmp_nd x y (by omega))
  rw [← hN, ← hM]
  have e1 : ((N : Int) != (M : Int)) = true := by simp; omega
  have e2 : (N : Int) < (M : Int) := by omega
  have e3 : ((N : Int) == (M : Int)) = false := by rw [beq_eq_false_iff_ne]; omega
  clear hN hM h1 h2 hx hy hlt
  go_enter Tryz.func140, Tryz.ntmps140
  go_wp2_with fail
  go_ret
  exact ⟨by rw [H.out]; rfl, by (repeat' (first | (with_reducible first | exact Below.refl _ _ | assumption | refine Below.plus0 ?_ _ | refine Below.alloc0 ?_ _ | refine Below.plus ?_ ?_ _ | refine Below.alloc ?_ ?_ _ | refine Below.drew ?_ | refine Below.drewN ?_ _) | (simp [go_sem]; done) | (simp [go_sem]; omega)))⟩
 by_cases hgt : M < N
 ·have H := Lib.hid (cmp_nd2 x y (by omega))
  rw [← hN, ← hM]
  have e1 : ((N : Int) != (M : Int)) = true := by simp; omega
  have e2 : ¬ (N : Int) < (M : Int) := by omega
  have e3 : ((N : Int) == (M : Int)) = false := by rw [beq_eq_false_iff_ne]; omega
  clear hN hM h1 h2 hx hy hlt hgt
  go_enter Tryz.func140, Tryz.ntmps140
  go_wp2_with fail
  go_ret
  exact ⟨by rw [H.out]; rfl, by (repeat' (first | (with_reducible first | exact Below.refl _ _ | assumption | refine Below.plus0 ?_ _ | refine Below.alloc0 ?_ _ | refine Below.plus ?_ ?_ _ | refine Below.alloc ?_ ?_ _ | refine Below.drew ?_ | refine Below.drewN ?_ _) | (simp [go_sem]; done) | (simp [go_sem]; omega)))⟩
 have e : M = N := by omega
 subst e
 have hxy : x / 256 ^ M = y / 256 ^ M := by
  rw [Nat.div_eq_of_lt (by rw [hN]; exact lt_pow_nd 256 (by omega) x), Nat.div_eq_of_lt (by rw [hM]; exact lt_pow_nd 256 (by omega) y)]
 have A1 : Hid (∀ i, i < M → ∃ g, a1 = some ⟨g, 0, none⟩ ∧ M ≤ c1 ∧ g < w.heap.size ∧ w.cell? ⟨g, i, none⟩ = some (.int .i64 (d8 x i : Nat))) := Lib.hid fun i hi => by
  have := h1.cellAt (Below.refl _ _) (i := i) (by omega)
  rwa [← hN] at this
 have A2 : Hid (∀ i, i < M → ∃ g, a2 = some ⟨g, 0, none⟩ ∧ M ≤ c2 ∧ g < w.heap.size ∧ w.cell? ⟨g, i, none⟩ = some (.int .i64 (d8 y i : Nat))) := Lib.hid fun i hi => by
  have := h2.cellAt (Below.refl _ _) (i := i) (by omega)
  rwa [← hM] at this
 have HX := Lib.hid hxy
 rw [← hN, ← hM]
 have hMb : M ≤ 8589934592 := by omega
 clear h1 h2 hN hM hxy hlt hgt hx hy
 go_enter Tryz.func140, Tryz.ntmps140
 go_wp2_with fail
 go_loopw [5] (fun i wr => ∃ (p : Nat) (u : World), p ≤ M ∧ i = .int .i64 ((p : Int) - 1) ∧ Hid (x / 256 ^ p = y / 256 ^ p) ∧ wr = w.plus u) (fun i _ => (intOf i + 1).toNat)
 case atStart =>
  obtain ⟨u, hu⟩ := World.plus_of_below (Below.refl w.heap.size w)
  exact ⟨M, u, Nat.le_refl _, rfl, HX, hu⟩
 case round =>
  obtain ⟨p, u0, hp, rfl, HP, rfl⟩ := hrel
  cases p with
  | zero =>
   have hz := HP.out
   rw [Nat.pow_zero, Nat.div_one, Nat.div_one] at hz
   have H := Lib.hid (cmpN_of_eq x y hz)
   clear hz
   go_wp2_with fail
   go_ret
   exact ⟨by rw [H.out]; rfl, by (repeat' (first | (with_reducible first | exact Below.refl _ _ | assumption | refine Below.plus0 ?_ _ | refine Below.alloc0 ?_ _ | refine Below.plus ?_ ?_ _ | refine Below.alloc ?_ ?_ _ | refine Below.drew ?_ | refine Below.drewN ?_ _) | (simp [go_sem]; done) | (simp [go_sem]; omega)))⟩
  | succ q =>
   have hq : ((q + 1 : Nat) : Int) - 1 = (q : Int) := by omega
   rw [hq]
   have hqM : q < M := by omega
   have hqi : (q : Int) < (M : Int) := by omega
   have hq0 : (0 : Int) ≤ (q : Int) := by omega
   obtain ⟨g1, rfl, hc1, hg1, hcx⟩ := A1.out q hqM
   obtain ⟨g2, rfl, hc2, hg2, hcy⟩ := A2.out q hqM
   obtain ⟨a, ha⟩ : ∃ a, a = d8 x q := ⟨_, rfl⟩
   obtain ⟨b, hb⟩ : ∃ b, b = d8 y q := ⟨_, rfl⟩
   rw [← ha] at hcx
   rw [← hb] at hcy
   by_cases hlt : a < b
   ·have H := Lib.hid (cmpN_of_lt x y (cmp_lt_of x y q HP.out (by rw [← ha, ← hb]; exact hlt)))
    have hl2 : (a : Int) < (b : Int) := by omega
    clear hlt ha hb
    go_wp2_with fail
    (refine wp_region_exact (by kernel_rfl) (by kernel_rfl) ?_; repeat go_big_quiet_step (fail)); (refine wpQuiet_nil ?_; rintro _ rfl)
    go_wp2_with fail
    go_ret
    exact ⟨by rw [H.out]; rfl, by (repeat' (first | (with_reducible first | exact Below.refl _ _ | assumption | refine Below.plus0 ?_ _ | refine Below.alloc0 ?_ _ | refine Below.plus ?_ ?_ _ | refine Below.alloc ?_ ?_ _ | refine Below.drew ?_ | refine Below.drewN ?_ _) | (simp [go_sem]; done) | (simp [go_sem]; omega)))⟩
   ·by_cases hgt : b < a
    ·have H := Lib.hid (cmpN_of_gt x y (cmp_lt_of y x q HP.out.symm (by rw [← ha, ← hb]; exact hgt)))
     have hl2 : ¬ (a : Int) < (b : Int) := by omega
     have hl3 : (b : Int) < (a : Int) := by omega
     clear hlt hgt ha hb
     go_wp2_with fail
     (refine wp_region_exact (by kernel_rfl) (by kernel_rfl) ?_; repeat go_big_quiet_step (fail)); (refine wpQuiet_nil ?_; rintro _ rfl)
     go_wp2_with fail
     (refine wp_region_exact (by kernel_rfl) (by kernel_rfl) ?_; repeat go_big_quiet_step (fail)); (refine wpQuiet_nil ?_; rintro _ rfl)
     go_wp2_with fail
     go_ret
     exact ⟨by rw [H.out]; rfl, by (repeat' (first | (with_reducible first | exact Below.refl _ _ | assumption | refine Below.plus0 ?_ _ | refine Below.alloc0 ?_ _ | refine Below.plus ?_ ?_ _ | refine Below.alloc ?_ ?_ _ | refine Below.drew ?_ | refine Below.drewN ?_ _) | (simp [go_sem]; done) | (simp [go_sem]; omega)))⟩
    ·have hd : d8 x q = d8 y q := by omega
     have H := Lib.hid (div_step x y q HP.out hd)
     have hl2 : ¬ (a : Int) < (b : Int) := by omega
     have hl3 : ¬ (b : Int) < (a : Int) := by omega
     clear hlt hgt hd ha hb
     go_wp2_with fail
     (refine wp_region_exact (by kernel_rfl) (by kernel_rfl) ?_; repeat go_big_quiet_step (fail)); (refine wpQuiet_nil ?_; rintro _ rfl)
     go_wp2_with fail
     (refine wp_region_exact (by kernel_rfl) (by kernel_rfl) ?_; repeat go_big_quiet_step (fail)); (refine wpQuiet_nil ?_; rintro _ rfl)
     go_wp2_with fail
     obtain ⟨u2, hu2⟩ := World.plus_of_below (w := w) (w' := (w.plus u0).drew.drew) (by (repeat' (first | (with_reducible first | exact Below.refl _ _ | assumption | refine Below.plus0 ?_ _ | refine Below.alloc0 ?_ _ | refine Below.plus ?_ ?_ _ | refine Below.alloc ?_ ?_ _ | refine Below.drew ?_ | refine Below.drewN ?_ _) | (simp [go_sem]; done) | (simp [go_sem]; omega))))
     exact ⟨⟨q, u2, by omega, rfl, H, hu2⟩, by first | (simp [intOf]; done) | (simp [intOf]; omega)⟩
set_option maxRecDepth 100000 in
set_option maxHeartbeats 3200000 in
theorem splusF_c (v1 v2 : Value) (x y z : Nat) (hzz : z = x + y) (w : World) (h1 : DT w v1 x) (h2 : DT w v2 y) (hnx : nd 256 x ≤ 4294967296) (hny : nd 256 y ≤ 4294967296) : Calls Tryz.prog 139 #[v1, v2] w fun e w' => ∃ v, e = .returned v ∧ DT w' v z ∧ (∀ k, v.ownBlock = some k → w.heap.size ≤ k) ∧ Below w.heap.size w w' := by
 subst hzz
 obtain ⟨i0, hi, hz0, hz1, hz2⟩ := info_parts info3
 obtain ⟨a1, c1, e1⟩ := h1.lenForm
 obtain ⟨a2, c2, e2⟩ := h2.lenForm
 subst e1
 subst e2
 have A1 := Lib.hid (fun (i : Nat) (wr : World) (hb : Below w.heap.size w wr) (hi : i < nd 256 x) => h1.cellAt hb hi)
 have A2 := Lib.hid (fun (i : Nat) (wr : World) (hb : Below w.heap.size w wr) (hi : i < nd 256 y) => h2.cellAt hb hi)
 have HXB : Hid (∀ i, nd 256 x ≤ i → d8 x i = 0 ∧ x < 256 ^ i) := Lib.hid fun i hi => ⟨d8_big x _ i h1.1 hi, Nat.lt_of_lt_of_le h1.1 (Nat.pow_le_pow_right (by omega) hi)⟩
 have HYB : Hid (∀ i, nd 256 y ≤ i → d8 y i = 0 ∧ y < 256 ^ i) := Lib.hid fun i hi => ⟨d8_big y _ i h2.1 hi, Nat.lt_of_lt_of_le h2.1 (Nat.pow_le_pow_right (by omega) hi)⟩
 obtain ⟨N, hN⟩ : ∃ N, N = nd 256 x := ⟨_, rfl⟩
 obtain ⟨M, hM⟩ : ∃ M, M = nd 256 y := ⟨_, rfl⟩
 rw [← hN] at A1 HXB hnx ⊢
 rw [← hM] at A2 HYB hny ⊢
 have HC0 := Lib.hid (cr8_zero x y)
 clear h1 h2 hN hM
 go_enter Tryz.func139, Tryz.ntmps139
 go_wp2_with fail
 go_loopw [5, 6, 7] (fun v c i wr => ∃ k cr : Nat, k ≤ max N M + 1 ∧ i = .int .i64 k ∧ Hid (cr = cr8 x y k) ∧ cr ≤ 1 ∧ c = .int .i64 (cr : Nat) ∧ wr.ownsRow w.heap.size 3 1 v k (dvals (x + y) k) ∧ Below w.heap.size w wr) (fun _ _ i _ => max N M + 2 - (intOf i).toNat)
 case atStart => exact ⟨0, 0, Nat.zero_le _, rfl, Lib.hid HC0.out.symm, by omega, rfl, World.ownsRow_nil _ _ _ _, Below.refl _ _⟩
 case round =>
  obtain ⟨k, cr, hk, rfl, HCR, hcr1, rfl, hown, hbel⟩ := hrel
  have hsz := hbel.size
  have hkM : k < N ∨ k < M ∨ 0 < cr → k ≤ max N M := by
   intro h
   rcases h with h | h | h
   ·omega
   ·omega
   ·apply Decidable.byContradiction
    intro hc
    have e : k = max N M + 1 := by omega
    have h3 := cr8_big x y (max N M) (HXB.out _ (by omega)).2 (HYB.out _ (by omega)).2
    rw [← e, ← HCR.out] at h3
    omega
  obtain ⟨a, ha⟩ : ∃ a, a = d8 x k := ⟨_, rfl⟩
  obtain ⟨b, hb⟩ : ∃ b, b = d8 y k := ⟨_, rfl⟩
  obtain ⟨dg1, hdg⟩ : ∃ d, d = d8 (x + y) k := ⟨_, rfl⟩
  obtain ⟨cr2, hcr2⟩ : ∃ c, c = cr8 x y (k + 1) := ⟨_, rfl⟩
  have ha2 : a < 256 := ha ▸ d8_lt x k
  have hbb : b < 256 := hb ▸ d8_lt y k
  have hs1 : dg1 = (cr + a + b) % 256 := by rw [hdg, d8_add, ← ha, ← hb, ← HCR.out]; congr 1; omega
  have hs2 : cr2 = (cr + a + b) / 256 := by rw [hcr2, cr8_succ, ← ha, ← hb, ← HCR.out]; congr 1; omega
  have hcr21 : cr2 ≤ 1 := by rw [hcr2]; exact cr8_le _ _ _
  have Hs : Hid (dvals (x + y) k ++ [Value.int .i64 (dg1 : Nat)] = dvals (x + y) (k + 1)) := Lib.hid (by rw [hdg, dvals_succ])
  have Hc2 := Lib.hid hcr2
  obtain ⟨s1, hs1a⟩ : ∃ s, s = cr + a := ⟨_, rfl⟩
  obtain ⟨s2, hs2a⟩ : ∃ s, s = s1 + b := ⟨_, rfl⟩
  have e1 : (cr : Int) + (a : Int) = (s1 : Int) := by omega
  have e2 : (s1 : Int) + (b : Int) = (s2 : Int) := by omega
  have em : (s2 : Int).tmod 256 = (dg1 : Int) := by rw [Int.tmod_eq_emod_of_nonneg (by omega)]; omega
  have ed : (s2 : Int).tdiv 256 = (cr2 : Int) := by rw [Int.tdiv_eq_ediv_of_nonneg (by omega)]; omega
  have hd2 : dg1 < 256 := hdg ▸ d8_lt _ _
  have hs1b : s1 ≤ 256 := by omega
  have hs2b : s2 ≤ 511 := by omega
  have HEM := Lib.hid em
  have HED := Lib.hid ed
  clear em ed hs1 hs2
  by_cases hx1 : k < N
  ·by_cases hy1 : k < M
   ·have hkx : (k : Int) < (N : Int) := by omega
    have hky : (k : Int) < (M : Int) := by omega
    obtain ⟨g1, rfl, hc1, hg1, hcx⟩ := A1.out k wr hbel (by omega)
    rw [← ha] at hcx
    obtain ⟨g2, rfl, hc2, hg2, hcy⟩ := A2.out k wr hbel (by omega)
    rw [← hb] at hcy
    have em := HEM.out
    have ed := HED.out
    have hkm := hkM (by omega)
    clear ha hb hdg hcr2 hs1a hs2a hkM
    go_wp2_with (first | (at_builtin; refine wpList_append_own _ rfl _ _ 102 rfl w.heap.size 3 i0 (.int .i64 0) 1 8 Tryz.underlying102 hi hz0 hz1 hz2 rfl (by decide) _ _ _ rfl (hown.alloc _) ⟨wr.heap.size, 0, none⟩ 1 1 [.int .i64 (dg1 : Nat)] rfl rfl ?d111 ?d112 ?d113 ?d114 ?d115 ?_) | go_in)
    all_goals clear em ed
    first
    | case d111 =>
        intro j u hj
        match j, hj with
        | 0, hj => simp at hj; subst hj; simp [Addr.add]
    | skip
    case d112 => first | rfl | (intro u hu; simp at hu; subst hu; rfl)
    case d113 => unfold maxLen; omega
    case d114 => omega
    case d115 => first | omega | (simp; done) | (simp; omega)
    intro v' w1 hown' hgrow _
    rw [Hs.out] at hown'
    have hb2 : Below w.heap.size w w1 := (hbel.alloc hsz _).grown hgrow (by first | omega | (simp; done) | (simp; omega)) fun k' hk' => (hown.lt k' hk').1
    clear hown hgrow hbel
    have ed := HED.out
    have HOWN := Lib.hid hown'
    have HB2 := Lib.hid hb2
    clear hown' hb2
    go_wp2_with fail
    clear ed
    refine ⟨⟨k + 1, cr2, by omega, by go_num, Hc2, hcr21, by first | rfl | go_num, HOWN.out, HB2.out⟩, by first | (simp [intOf]; done) | (simp [intOf]; omega)⟩
   ·have hkx : (k : Int) < (N : Int) := by omega
    have hky : ¬ (k : Int) < (M : Int) := by omega
    obtain ⟨g1, rfl, hc1, hg1, hcx⟩ := A1.out k wr hbel (by omega)
    rw [← ha] at hcx
    have hb0 : b = 0 := by rw [hb]; exact (HYB.out k (by omega)).1
    have es2 : s2 = s1 := by omega
    subst es2
    have em := HEM.out
    have ed := HED.out
    have hkm := hkM (by omega)
    clear ha hb hdg hcr2 hs1a hs2a hkM hb0
    go_wp2_with (first | (at_builtin; refine wpList_append_own _ rfl _ _ 102 rfl w.heap.size 3 i0 (.int .i64 0) 1 8 Tryz.underlying102 hi hz0 hz1 hz2 rfl (by decide) _ _ _ rfl (hown.alloc _) ⟨wr.heap.size, 0, none⟩ 1 1 [.int .i64 (dg1 : Nat)] rfl rfl ?d101 ?d102 ?d103 ?d104 ?d105 ?_) | go_in)
    all_goals clear em ed
    first
    | case d101 =>
        intro j u hj
        match j, hj with
        | 0, hj => simp at hj; subst hj; simp [Addr.add]
    | skip
    case d102 => first | rfl | (intro u hu; simp at hu; subst hu; rfl)
    case d103 => unfold maxLen; omega
    case d104 => omega
    case d105 => first | omega | (simp; done) | (simp; omega)
    intro v' w1 hown' hgrow _
    rw [Hs.out] at hown'
    have hb2 : Below w.heap.size w w1 := (hbel.alloc hsz _).grown hgrow (by first | omega | (simp; done) | (simp; omega)) fun k' hk' => (hown.lt k' hk').1
    clear hown hgrow hbel
    have ed := HED.out
    have HOWN := Lib.hid hown'
    have HB2 := Lib.hid hb2
    clear hown' hb2
    go_wp2_with fail
    clear ed
    refine ⟨⟨k + 1, cr2, by omega, by go_num, Hc2, hcr21, by first | rfl | go_num, HOWN.out, HB2.out⟩, by first | (simp [intOf]; done) | (simp [intOf]; omega)⟩
  ·by_cases hy1 : k < M
   ·have hkx : ¬ (k : Int) < (N : Int) := by omega
    have hky : (k : Int) < (M : Int) := by omega
    have ha0 : a = 0 := by rw [ha]; exact (HXB.out k (by omega)).1
    obtain ⟨g2, rfl, hc2, hg2, hcy⟩ := A2.out k wr hbel (by omega)
    rw [← hb] at hcy
    have es1 : s1 = cr := by omega
    subst es1
    have em := HEM.out
    have ed := HED.out
    have hkm := hkM (by omega)
    clear ha hb hdg hcr2 hs1a hs2a hkM ha0
    go_wp2_with (first | (at_builtin; refine wpList_append_own _ rfl _ _ 102 rfl w.heap.size 3 i0 (.int .i64 0) 1 8 Tryz.underlying102 hi hz0 hz1 hz2 rfl (by decide) _ _ _ rfl (hown.alloc _) ⟨wr.heap.size, 0, none⟩ 1 1 [.int .i64 (dg1 : Nat)] rfl rfl ?d011 ?d012 ?d013 ?d014 ?d015 ?_) | go_in)
    all_goals clear em ed
    first
    | case d011 =>
        intro j u hj
        match j, hj with
        | 0, hj => simp at hj; subst hj; simp [Addr.add]
    | skip
    case d012 => first | rfl | (intro u hu; simp at hu; subst hu; rfl)
    case d013 => unfold maxLen; omega
    case d014 => omega
    case d015 => first | omega | (simp; done) | (simp; omega)
    intro v' w1 hown' hgrow _
    rw [Hs.out] at hown'
    have hb2 : Below w.heap.size w w1 := (hbel.alloc hsz _).grown hgrow (by first | omega | (simp; done) | (simp; omega)) fun k' hk' => (hown.lt k' hk').1
    clear hown hgrow hbel
    have ed := HED.out
    have HOWN := Lib.hid hown'
    have HB2 := Lib.hid hb2
    clear hown' hb2
    go_wp2_with fail
    clear ed
    refine ⟨⟨k + 1, cr2, by omega, by go_num, Hc2, hcr21, by first | rfl | go_num, HOWN.out, HB2.out⟩, by first | (simp [intOf]; done) | (simp [intOf]; omega)⟩
   ·by_cases hc1 : 0 < cr
    ·have hkx : ¬ (k : Int) < (N : Int) := by omega
     have hky : ¬ (k : Int) < (M : Int) := by omega
     have ha0 : a = 0 := by rw [ha]; exact (HXB.out k (by omega)).1
     have hb0 : b = 0 := by rw [hb]; exact (HYB.out k (by omega)).1
     have hcp : (0 : Int) < (cr : Int) := by omega
     have es1 : s1 = cr := by omega
     subst es1
     have es2 : s2 = s1 := by omega
     subst es2
     have em := HEM.out
     have ed := HED.out
     have hkm := hkM (by omega)
     clear ha hb hdg hcr2 hs1a hs2a hkM ha0 hb0
     go_wp2_with (first | (at_builtin; refine wpList_append_own _ rfl _ _ 102 rfl w.heap.size 3 i0 (.int .i64 0) 1 8 Tryz.underlying102 hi hz0 hz1 hz2 rfl (by decide) _ _ _ rfl (hown.alloc _) ⟨wr.heap.size, 0, none⟩ 1 1 [.int .i64 (dg1 : Nat)] rfl rfl ?d001 ?d002 ?d003 ?d004 ?d005 ?_) | go_in)
     all_goals clear em ed
     first
     | case d001 =>
         intro j u hj
         match j, hj with
         | 0, hj => simp at hj; subst hj; simp [Addr.add]
     | skip
     case d002 => first | rfl | (intro u hu; simp at hu; subst hu; rfl)
     case d003 => unfold maxLen; omega
     case d004 => omega
     case d005 => first | omega | (simp; done) | (simp; omega)
     intro v' w1 hown' hgrow _
     rw [Hs.out] at hown'
     have hb2 : Below w.heap.size w w1 := (hbel.alloc hsz _).grown hgrow (by first | omega | (simp; done) | (simp; omega)) fun k' hk' => (hown.lt k' hk').1
     clear hown hgrow hbel
     have ed := HED.out
     have HOWN := Lib.hid hown'
     have HB2 := Lib.hid hb2
     clear hown' hb2
     go_wp2_with fail
     clear ed
     refine ⟨⟨k + 1, cr2, by omega, by go_num, Hc2, hcr21, by first | rfl | go_num, HOWN.out, HB2.out⟩, by first | (simp [intOf]; done) | (simp [intOf]; omega)⟩
    ·have hkx : ¬ (k : Int) < (N : Int) := by omega
     have hky : ¬ (k : Int) < (M : Int) := by omega
     have hcz : cr = 0 := by omega
     have hend : x + y < 256 ^ k := cr8_end x y k (HXB.out k (by omega)).2 (HYB.out k (by omega)).2 (by rw [← HCR.out]; exact hcz)
     have HDL := Lib.hid (Dl.of_owned hown hend)
     have hkb : k ≤ 8589934592 := by omega
     have HFR := Lib.hid (fun k h => (hown.lt k h).1)
     subst hcz
     clear hown hend hs1a hs2a e1 e2 ha hb hdg hcr2 HEM HED Hs Hc2 hc1 hkM hx1 hy1
     go_wp2_with fail
     refine (strimF_c _ _ _ _ HDL.out hkb).mono ?_
     rintro e w' ⟨v', rfl, hdt, hfr, rfl⟩
     have HDT := Lib.hid hdt
     have HF2 := Lib.hid (fun k h => HFR.out k (hfr k h))
     clear hdt hfr
     go_wp2_with fail
     go_ret
     exact ⟨_, rfl, HDT.out, HF2.out, hbel⟩
theorem splus_c (v1 v2 : Value) (x y z : Nat) (hzz : z = x + y) (w : World) (h1 : DT w v1 x) (h2 : DT w v2 y) (hnx : nd 256 x ≤ 4294967296) (hny : nd 256 y ≤ 4294967296) : Calls Tryz.prog 139 #[v1, v2] w fun e w' => ∃ v, e = .returned v ∧ DT w' v z ∧ Below w.heap.size w w' :=
 (splusF_c v1 v2 x y z hzz w h1 h2 hnx hny).mono fun e w' ⟨v, he, hd, _, hb⟩ => ⟨v, he, hd, hb⟩
end Go.Proofs.YthdaimoankaciaaGreatDoor
