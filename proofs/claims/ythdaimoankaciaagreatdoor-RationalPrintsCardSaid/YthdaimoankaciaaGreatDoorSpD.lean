import Derived.Test.YthdaimoankaciaaGreatDoorSpC
import Derived.Test.YthdaimoankaciaaGreatDoorRefs
import Derived.Test.YthdaimoankaciaaGreatDoorRelM
import Derived.Test.YthdaimoankaciaaGreatDoorFrac
import Derived.OwnWalk
import Derived.Deep.DeepCutAuto
import Derived.Deep.CutBlock
set_option linter.unusedSimpArgs false
set_option linter.unusedVariables false
namespace Go.Proofs.YthdaimoankaciaaGreatDoor
open Go Go.RowKit
open Vi
set_option maxRecDepth 100000 in
set_option maxHeartbeats 3200000 in
theorem sminusF_c (v1 v2 : Value) (x y z : Nat) (hzz : z = x - y) (hle : y ≤ x) (w : World) (h1 : DT w v1 x) (h2 : DT w v2 y) (hnx : nd 256 x ≤ 4294967296) (hny : nd 256 y ≤ 4294967296) : Calls Tryz.prog 141 #[v1, v2] w fun e w' => ∃ v, e = .returned v ∧ DT w' v z ∧ (∀ k, v.ownBlock = some k → w.heap.size ≤ k) ∧ Below w.heap.size w w' := by
 subst hzz
 obtain ⟨i0, hi, hz0, hz1, hz2⟩ := info_parts info3
 obtain ⟨a1, c1, e1⟩ := h1.lenForm
 obtain ⟨a2, c2, e2⟩ := h2.lenForm
 subst e1
 subst e2
 have A1 := Lib.hid (fun (i : Nat) (wr : World) (hb : Below w.heap.size w wr) (hi : i < nd 256 x) => h1.cellAt hb hi)
 have A2 := Lib.hid (fun (i : Nat) (wr : World) (hb : Below w.heap.size w wr) (hi : i < nd 256 y) => h2.cellAt hb hi)
 have HYB : Hid (∀ i, nd 256 y ≤ i → d8 y i = 0) := Lib.hid fun i hi => d8_big y _ i h2.1 hi
 have HXY : Hid (x - y < 256 ^ nd 256 x) := Lib.hid (Nat.lt_of_le_of_lt (Nat.sub_le _ _) h1.1)
 have HL := Lib.hid hle
 obtain ⟨N, hN⟩ : ∃ N, N = nd 256 x := ⟨_, rfl⟩
 obtain ⟨M, hM⟩ : ∃ M, M = nd 256 y := ⟨_, rfl⟩
 rw [← hN] at A1 HXY hnx ⊢
 rw [← hM] at A2 HYB hny ⊢
 have HC0 := Lib.hid (cr8_zero (x - y) y)
 clear h1 h2 hN hM hle
 go_enter Tryz.func141, Tryz.ntmps141
 go_wp2_with fail
 go_loopw [5, 6, 7] (fun v c i wr => ∃ k cr : Nat, k ≤ N ∧ i = .int .i64 k ∧ Hid (cr = cr8 (x - y) y k) ∧ cr ≤ 1 ∧ c = .int .i64 (cr : Nat) ∧ wr.ownsRow w.heap.size 3 1 v k (dvals (x - y) k) ∧ Below w.heap.size w wr) (fun _ _ i _ => N - (intOf i).toNat)
 case atStart => exact ⟨0, 0, Nat.zero_le _, rfl, Lib.hid HC0.out.symm, by omega, rfl, World.ownsRow_nil _ _ _ _, Below.refl _ _⟩
 case round =>
  obtain ⟨k, cr, hk, rfl, HCR, hcr1, rfl, hown, hbel⟩ := hrel
  have hsz := hbel.size
  by_cases hx1 : k < N
  ·obtain ⟨a, ha⟩ : ∃ a, a = d8 x k := ⟨_, rfl⟩
   obtain ⟨b, hb⟩ : ∃ b, b = d8 y k := ⟨_, rfl⟩
   obtain ⟨dg1, hdg⟩ : ∃ d, d = d8 (x - y) k := ⟨_, rfl⟩
   obtain ⟨cr2, hcr2⟩ : ∃ c, c = cr8 (x - y) y (k + 1) := ⟨_, rfl⟩
   have ha2 : a < 256 := ha ▸ d8_lt x k
   have hbb : b < 256 := hb ▸ d8_lt y k
   have hd2 : dg1 < 256 := hdg ▸ d8_lt _ _
   have hcr21 : cr2 ≤ 1 := by rw [hcr2]; exact cr8_le _ _ _
   have hst := cr8_sub x y k HL.out
   rw [← hdg, ← hb, ← ha, ← hcr2, ← HCR.out] at hst
   have Hs : Hid (dvals (x - y) k ++ [Value.int .i64 (dg1 : Nat)] = dvals (x - y) (k + 1)) := Lib.hid (by rw [hdg, dvals_succ])
   have Hc2 := Lib.hid hcr2
   have hkx : (k : Int) < (N : Int) := by omega
   obtain ⟨g1, rfl, hc1, hg1, hcx⟩ := A1.out k wr hbel hx1
   rw [← ha] at hcx
   obtain ⟨D1, hD1⟩ : ∃ z : Int, z = (a : Int) - (cr : Int) := ⟨_, rfl⟩
   obtain ⟨D2, hD2⟩ : ∃ z : Int, z = D1 - (b : Int) := ⟨_, rfl⟩
   have e1 : (a : Int) - (cr : Int) = D1 := hD1.symm
   have e2 : D1 - (b : Int) = D2 := hD2.symm
   have hD1b : -300 ≤ D1 ∧ D1 ≤ 300 := by omega
   have hD2b : -600 ≤ D2 ∧ D2 ≤ 300 := by omega
   obtain ⟨hD11, hD12⟩ := hD1b
   obtain ⟨hD21, hD22⟩ := hD2b
   rcases (by omega : cr2 = 0 ∨ cr2 = 1) with hz | hz
   ·by_cases hy1 : k < M
    ·subst hz
     have e3 : D2 = (dg1 : Int) := by omega
     subst e3
     have e4 : ¬ ((dg1 : Int) < 0) := by omega
     have hky : (k : Int) < (M : Int) := by omega
     obtain ⟨g2, rfl, hc2, hg2, hcy⟩ := A2.out k wr hbel (by omega)
     rw [← hb] at hcy
     clear ha hb hdg hcr2 hst hD1 hD2
     go_wp2_with (first | (at_builtin; refine wpList_append_own _ rfl _ _ 102 rfl w.heap.size 3 i0 (.int .i64 0) 1 8 Tryz.underlying102 hi hz0 hz1 hz2 rfl (by decide) _ _ _ rfl (hown.alloc _) ⟨wr.heap.size, 0, none⟩ 1 1 [.int .i64 (dg1 : Nat)] rfl rfl ?q101 ?q102 ?q103 ?q104 ?q105 ?_) | go_in)
     all_goals skip
     first
     | case q101 =>
         intro j u hj
         match j, hj with
         | 0, hj => simp at hj; subst hj; simp [Addr.add]
     | skip
     case q102 => first | rfl | (intro u hu; simp at hu; subst hu; rfl)
     case q103 => unfold maxLen; omega
     case q104 => omega
     case q105 => first | omega | (simp; done) | (simp; omega)
     intro v' w1 hown' hgrow _
     rw [Hs.out] at hown'
     have hb2 : Below w.heap.size w w1 := (hbel.alloc hsz _).grown hgrow (by first | omega | (simp; done) | (simp; omega)) fun k' hk' => (hown.lt k' hk').1
     clear hown hgrow hbel
     have HOWN := Lib.hid hown'
     have HB2 := Lib.hid hb2
     clear hown' hb2
     go_wp2_with fail
     refine ⟨⟨k + 1, 0, by omega, by go_num, Hc2, by omega, by first | rfl | go_num, HOWN.out, HB2.out⟩, by first | (simp [intOf]; done) | (simp [intOf]; omega)⟩
    ·subst hz
     have e3 : D2 = (dg1 : Int) := by omega
     subst e3
     have e4 : ¬ ((dg1 : Int) < 0) := by omega
     have hky : ¬ (k : Int) < (M : Int) := by omega
     have hb0 : b = 0 := by rw [hb]; exact HYB.out k (by omega)
     have e5 : D1 = (dg1 : Int) := by omega
     subst e5
     clear ha hb hdg hcr2 hst hD1 hD2 hb0 e2
     go_wp2_with (first | (at_builtin; refine wpList_append_own _ rfl _ _ 102 rfl w.heap.size 3 i0 (.int .i64 0) 1 8 Tryz.underlying102 hi hz0 hz1 hz2 rfl (by decide) _ _ _ rfl (hown.alloc _) ⟨wr.heap.size, 0, none⟩ 1 1 [.int .i64 (dg1 : Nat)] rfl rfl ?q001 ?q002 ?q003 ?q004 ?q005 ?_) | go_in)
     all_goals skip
     first
     | case q001 =>
         intro j u hj
         match j, hj with
         | 0, hj => simp at hj; subst hj; simp [Addr.add]
     | skip
     case q002 => first | rfl | (intro u hu; simp at hu; subst hu; rfl)
     case q003 => unfold maxLen; omega
     case q004 => omega
     case q005 => first | omega | (simp; done) | (simp; omega)
     intro v' w1 hown' hgrow _
     rw [Hs.out] at hown'
     have hb2 : Below w.heap.size w w1 := (hbel.alloc hsz _).grown hgrow (by first | omega | (simp; done) | (simp; omega)) fun k' hk' => (hown.lt k' hk').1
     clear hown hgrow hbel
     have HOWN := Lib.hid hown'
     have HB2 := Lib.hid hb2
     clear hown' hb2
     go_wp2_with fail
     refine ⟨⟨k + 1, 0, by omega, by go_num, Hc2, by omega, by first | rfl | go_num, HOWN.out, HB2.out⟩, by first | (simp [intOf]; done) | (simp [intOf]; omega)⟩
   ·by_cases hy1 : k < M
    ·subst hz
     have e3 : D2 + 256 = (dg1 : Int) := by omega
     have e4 : D2 < 0 := by omega
     have hky : (k : Int) < (M : Int) := by omega
     obtain ⟨g2, rfl, hc2, hg2, hcy⟩ := A2.out k wr hbel (by omega)
     rw [← hb] at hcy
     clear ha hb hdg hcr2 hst hD1 hD2
     go_wp2_with (first | (at_builtin; refine wpList_append_own _ rfl _ _ 102 rfl w.heap.size 3 i0 (.int .i64 0) 1 8 Tryz.underlying102 hi hz0 hz1 hz2 rfl (by decide) _ _ _ rfl (hown.alloc _) ⟨wr.heap.size, 0, none⟩ 1 1 [.int .i64 (dg1 : Nat)] rfl rfl ?q111 ?q112 ?q113 ?q114 ?q115 ?_) | go_in)
     all_goals skip
     first
     | case q111 =>
         intro j u hj
         match j, hj with
         | 0, hj => simp at hj; subst hj; simp [Addr.add]
     | skip
     case q112 => first | rfl | (intro u hu; simp at hu; subst hu; rfl)
     case q113 => unfold maxLen; omega
     case q114 => omega
     case q115 => first | omega | (simp; done) | (simp; omega)
     intro v' w1 hown' hgrow _
     rw [Hs.out] at hown'
     have hb2 : Below w.heap.size w w1 := (hbel.alloc hsz _).grown hgrow (by first | omega | (simp; done) | (simp; omega)) fun k' hk' => (hown.lt k' hk').1
     clear hown hgrow hbel
     have HOWN := Lib.hid hown'
     have HB2 := Lib.hid hb2
     clear hown' hb2
     go_wp2_with fail
     refine ⟨⟨k + 1, 1, by omega, by go_num, Hc2, by omega, by first | rfl | go_num, HOWN.out, HB2.out⟩, by first | (simp [intOf]; done) | (simp [intOf]; omega)⟩
    ·subst hz
     have e3 : D2 + 256 = (dg1 : Int) := by omega
     have e4 : D2 < 0 := by omega
     have hky : ¬ (k : Int) < (M : Int) := by omega
     have hb0 : b = 0 := by rw [hb]; exact HYB.out k (by omega)
     have e5 : D1 = D2 := by omega
     subst e5
     clear ha hb hdg hcr2 hst hD1 hD2 hb0 e2
     go_wp2_with (first | (at_builtin; refine wpList_append_own _ rfl _ _ 102 rfl w.heap.size 3 i0 (.int .i64 0) 1 8 Tryz.underlying102 hi hz0 hz1 hz2 rfl (by decide) _ _ _ rfl (hown.alloc _) ⟨wr.heap.size, 0, none⟩ 1 1 [.int .i64 (dg1 : Nat)] rfl rfl ?q011 ?q012 ?q013 ?q014 ?q015 ?_) | go_in)
     all_goals skip
     first
     | case q011 =>
         intro j u hj
         match j, hj with
         | 0, hj => simp at hj; subst hj; simp [Addr.add]
     | skip
     case q012 => first | rfl | (intro u hu; simp at hu; subst hu; rfl)
     case q013 => unfold maxLen; omega
     case q014 => omega
     case q015 => first | omega | (simp; done) | (simp; omega)
     intro v' w1 hown' hgrow _
     rw [Hs.out] at hown'
     have hb2 : Below w.heap.size w w1 := (hbel.alloc hsz _).grown hgrow (by first | omega | (simp; done) | (simp; omega)) fun k' hk' => (hown.lt k' hk').1
     clear hown hgrow hbel
     have HOWN := Lib.hid hown'
     have HB2 := Lib.hid hb2
     clear hown' hb2
     go_wp2_with fail
     refine ⟨⟨k + 1, 1, by omega, by go_num, Hc2, by omega, by first | rfl | go_num, HOWN.out, HB2.out⟩, by first | (simp [intOf]; done) | (simp [intOf]; omega)⟩
  ·have hkx : ¬ (k : Int) < (N : Int) := by omega
   have e : k = N := by omega
   subst e
   have HDL := Lib.hid (Dl.of_owned hown HXY.out)
   have HFR := Lib.hid (fun k h => (hown.lt k h).1)
   have hkb : k ≤ 8589934592 := by omega
   clear hown
   go_wp2_with fail
   refine (strimF_c _ _ _ _ HDL.out hkb).mono ?_
   rintro e w' ⟨v', rfl, hdt, hfr, rfl⟩
   have HDT := Lib.hid hdt
   have HF2 := Lib.hid (fun k h => HFR.out k (hfr k h))
   clear hdt hfr
   go_wp2_with fail
   go_ret
   exact ⟨_, rfl, HDT.out, HF2.out, hbel⟩
theorem my8_next (o d y i n : Nat) (ho : o < 256 ^ (i + n)) (hy : y < 256 ^ n) (hd : d < 256) : my8 o d y i (n + 1) = 0 := by
 have h1 := my8_step o d y i n
 have h2 := my8_last o d y i n ho hy hd
 have h3 := d8_big o (i + n) (i + n) ho (Nat.le_refl _)
 have h4 := d8_big y n n hy (Nat.le_refl _)
 rw [h3, h4, Nat.mul_zero, ← h2] at h1
 omega
theorem mulFn8_early (o d y i n m : Nat) (ho : o < 256 ^ (i + n)) (hy : y < 256 ^ n) (hd : d < 256) (hz : my8 o d y i n = 0) :
    arr .i64 (mulFn8 o (o + 256 ^ i * (d * y)) i n) m = arr .i64 (d8 (o + 256 ^ i * (d * y))) m := by
 have h := row_lt8 o d y i n ho hy hd
 have h2 := my8_last o d y i n ho hy hd
 apply arr_congr
 intro p _
 unfold mulFn8
 by_cases h1 : p < i + n
 ·rw [if_pos h1]
 ·rw [if_neg h1, d8_big o (i + n) p ho (by omega)]
  by_cases h3 : p = i + n
  ·rw [h3, ← h2, hz]
  ·rw [d8_big _ (i + n + 1) p h (by omega)]
set_option maxRecDepth 100000 in
set_option maxHeartbeats 3200000 in
theorem stimesF_c (v1 v2 : Value) (x y z : Nat) (hzz : z = x * y) (w : World) (h1 : DT w v1 x) (h2 : DT w v2 y) (hnx : nd 256 x ≤ 4294967290) (hny : nd 256 y ≤ 4294967290) : Calls Tryz.prog 138 #[v1, v2] w fun e w' => ∃ v, e = .returned v ∧ DT w' v z ∧ (∀ k, v.ownBlock = some k → w.heap.size ≤ k) ∧ Below w.heap.size w w' := by
 subst hzz
 obtain ⟨a1, c1, e1⟩ := h1.lenForm
 obtain ⟨a2, c2, e2⟩ := h2.lenForm
 subst e1
 subst e2
 have A1 := Lib.hid (fun (i : Nat) (hi : i < nd 256 x) => h1.cellAt (Below.refl _ _) hi)
 have A2 := Lib.hid (fun (i : Nat) (hi : i < nd 256 y) => h2.cellAt (Below.refl _ _) hi)
 have HXL := Lib.hid h1.1
 have HYL := Lib.hid h2.1
 obtain ⟨n, hN⟩ : ∃ N, N = nd 256 x := ⟨_, rfl⟩
 obtain ⟨m, hM⟩ : ∃ M, M = nd 256 y := ⟨_, rfl⟩
 rw [← hN] at A1 HXL hnx ⊢
 rw [← hM] at A2 HYL hny ⊢
 have HT := Lib.hid (prod_lt8 x y n m HXL.out HYL.out)
 have HMK := Lib.hid (makeIntT n m · (by omega))
 clear h1 h2 hN hM
 go_enter Tryz.func138, Tryz.ntmps138
 go_wp2_with fail
 have hmk := HMK.out
 simp only [hmk]
 clear hmk
 go_wp2_with fail
 have H0 := Lib.hid (zero_row8 (n + m + 1) x y)
 go_loopw [6] (fun v wr => ∃ (i : Nat) (u : World), i ≤ n ∧ v = .int .i64 i ∧ wr = (w.alloc (.cells (arr .i64 (d8 (x % 256 ^ i * y)) (n + m + 1)) 3)).plus u) (fun v _ => n - (intOf v).toNat)
 case atStart =>
  obtain ⟨u, hu⟩ := World.plus_of_below (Below.refl (w.alloc (.cells (arr .i64 (fun _ => 0) (n + m + 1)) 3)).heap.size (w.alloc (.cells (arr .i64 (fun _ => 0) (n + m + 1)) 3)))
  exact ⟨0, u, Nat.zero_le _, rfl, by rw [← H0.out]; exact hu⟩
 case round =>
  obtain ⟨i, u0, hi, rfl, rfl⟩ := hrel
  by_cases hlt : i < n
  ·obtain ⟨g, rfl, hcap, hg, hgx⟩ := A1.out i hlt
   have hdx1 := d8_lt x i
   have hli : (i : Int) < (n : Int) := by omega
   obtain ⟨o, ho⟩ : ∃ o, o = x % 256 ^ i * y := ⟨_, rfl⟩
   have hol := part_lt8 x y i m HYL.out
   rw [← ho] at hol ⊢
   have HOL := Lib.hid hol
   have HO := Lib.hid ho
   clear ho hol
   obtain ⟨d, hd⟩ : ∃ d, d = d8 x i := ⟨_, rfl⟩
   rw [← hd] at hdx1 hgx
   have HD := Lib.hid hd
   clear hd
   obtain ⟨t, ht⟩ : ∃ t, t = o + 256 ^ i * (d * y) := ⟨_, rfl⟩
   have HTT := Lib.hid ht
   have HZ := Lib.hid (mulFn8_zero o (d * y) i (n + m + 1))
   rw [← ht] at HZ
   clear ht
   have HM0 := Lib.hid (my8_zero o d y i)
   have HNX := Lib.hid (my8_next o d y i m HOL.out HYL.out hdx1)
   have HN := Lib.hid (part_mul8 x y i)
   go_wp2_with fail
   go_loopw [7, 8] (fun c v wr => ∃ (k ck : Nat) (u : World), k ≤ m + 1 ∧ v = .int .i64 k ∧ Hid (ck = my8 o d y i k) ∧ c = .int .i64 (ck : Int) ∧ wr = (w.alloc (.cells (arr .i64 (mulFn8 o t i k) (n + m + 1)) 3)).plus u) (fun _ v _ => m + 1 - (intOf v).toNat)
   case atStart => exact ⟨0, 0, u0, Nat.zero_le _, rfl, Lib.hid HM0.out.symm, rfl, by rw [HZ.out]⟩
   case round =>
    obtain ⟨k, ck, u1, hk, rfl, HCK, rfl, rfl⟩ := hrel
    have hc1 : ck < 256 := by rw [HCK.out]; exact my8_lt o d y i k hdx1
    by_cases hgo : k < m ∨ 0 < ck
    ·have hkm : k ≤ m := by
       rcases hgo with h | h
       ·omega
       ·apply Decidable.byContradiction
        intro hc
        have e : k = m + 1 := by omega
        have := HCK.out
        rw [e, HNX.out] at this
        omega
     have hgo1 := arr_get .i64 (mulFn8 o t i k) (n + m + 1) (i + k) (by omega)
     rw [mulFn8_at] at hgo1
     have hst := my8_step o d y i k
     rw [← HTT.out, ← HCK.out] at hst
     have ho1 := d8_lt o (i + k)
     have hy1 := d8_lt y k
     have ht1 := d8_lt t (i + k)
     have hcn := my8_lt o d y i (k + 1) hdx1
     obtain ⟨yk, hyk⟩ : ∃ z, z = d8 y k := ⟨_, rfl⟩
     obtain ⟨P, hP⟩ : ∃ P, P = d * yk := ⟨_, rfl⟩
     rw [← hyk, ← hP] at hst
     rw [← hyk] at hy1
     have hp1 : P ≤ 255 * 255 := by rw [hP]; exact Nat.mul_le_mul (by omega) (by omega)
     have e1 : IntKind.i64.wrap ((d : Int) * (yk : Int)) = (P : Int) := by
      rw [← Int.natCast_mul, ← hP]; exact IntWalk.i64_in _ (by omega)
     obtain ⟨ok, hok⟩ : ∃ z, z = d8 o (i + k) := ⟨_, rfl⟩
     rw [← hok] at hgo1 hst ho1
     obtain ⟨tk, htk⟩ : ∃ z, z = d8 t (i + k) := ⟨_, rfl⟩
     rw [← htk] at hst ht1
     obtain ⟨cn, hcnn⟩ : ∃ z, z = my8 o d y i (k + 1) := ⟨_, rfl⟩
     rw [← hcnn] at hst hcn
     have HCN := Lib.hid hcnn
     obtain ⟨R0, hR0⟩ : ∃ R, R = ok + ck := ⟨_, rfl⟩
     obtain ⟨R, hR⟩ : ∃ R, R = R0 + P := ⟨_, rfl⟩
     have hRl : R < 100000 := by omega
     have hR0l : R0 < 100000 := by omega
     have e2 : (ok : Int) + (ck : Int) = (R0 : Int) := by omega
     have e3 : (R0 : Int) + (P : Int) = (R : Int) := by omega
     have hR1 : (R : Int).tmod 256 = (tk : Int) := by rw [Int.tmod_eq_emod_of_nonneg (by omega)]; omega
     have hR2 : (R : Int).tdiv 256 = (cn : Int) := by rw [Int.tdiv_eq_ediv_of_nonneg (by omega)]; omega
     have HR1 := Lib.hid hR1
     have HR2 := Lib.hid hR2
     have HS3 : Hid (upd (mulFn8 o t i k) (i + k) tk = mulFn8 o t i (k + 1)) := Lib.hid (by rw [htk]; exact mulFn8_succ o t i k)
     have e4 : IntKind.i64.wrap ((i : Int) + (k : Int)) = (i : Int) + (k : Int) := IntWalk.i64_in _ (by omega)
     have e5 : (0 : Int) ≤ (i : Int) + (k : Int) := by omega
     have e6 : ((i : Int) + (k : Int)).toNat = i + k := by omega
     have e7 : (i : Int) + (k : Int) < (n : Int) + (m : Int) + 1 := by omega
     clear hR1 hR2
     by_cases hkm2 : k < m
     ·have hkmi : (k : Int) < (m : Int) := by omega
      obtain ⟨g2, rfl, hc2, hg2, hcy⟩ := A2.out k hkm2
      rw [← hyk] at hcy
      have hR1 := HR1.out
      have hR2 := HR2.out
      clear hst hR ht1 hp1 hok hP hyk htk hcnn hR0 hgo
      go_wp2_with fail
      (refine wp_region_exact (by kernel_rfl) (by kernel_rfl) ?_; repeat go_big_quiet_step (fail)); (refine wpQuiet_nil ?_; rintro _ rfl)
      go_wp2_with fail
      obtain ⟨u2, hu2⟩ := World.plus_of_below (w := w.alloc (.cells (arr .i64 (mulFn8 o t i (k + 1)) (n + m + 1)) 3)) (w' := ((w.alloc (.cells (arr .i64 (mulFn8 o t i (k + 1)) (n + m + 1)) 3)).plus u1).drew) (by (repeat' (first | (with_reducible first | exact Below.refl _ _ | assumption | refine Below.plus0 ?_ _ | refine Below.alloc0 ?_ _ | refine Below.plus ?_ ?_ _ | refine Below.alloc ?_ ?_ _ | refine Below.drew ?_ | refine Below.drewN ?_ _) | (simp [go_sem]; done) | (simp [go_sem]; omega))))
      exact ⟨⟨k + 1, cn, u2, by omega, by go_num, HCN, rfl, by rw [arr_set, HS3.out]; exact hu2⟩, by first | (simp [intOf]; done) | (simp [intOf]; omega)⟩
     ·have hkmi : ¬ (k : Int) < (m : Int) := by omega
      have hckp : (0 : Int) < (ck : Int) := by omega
      have hP0 : P = 0 := by rw [hP, hyk, d8_big y m k HYL.out (by omega), Nat.mul_zero]
      have hRR : R = R0 := by omega
      subst hRR
      have hR1 := HR1.out
      have hR2 := HR2.out
      clear hst hR ht1 hp1 hok hP hyk htk hcnn hR0 hgo hP0 e3 e1
      go_wp2_with fail
      exact ⟨⟨k + 1, cn, u1, by omega, by go_num, HCN, rfl, by rw [arr_set, HS3.out]⟩, by first | (simp [intOf]; done) | (simp [intOf]; omega)⟩
    ·have hkmi : ¬ (k : Int) < (m : Int) := by omega
     have hck0 : ck = 0 := by omega
     subst hck0
     have HF : Hid (arr .i64 (mulFn8 o t i k) (n + m + 1) = arr .i64 (d8 t) (n + m + 1)) := Lib.hid (by
      rw [HTT.out]
      rcases (by omega : k = m ∨ k = m + 1) with e | e
      ·rw [e]; exact mulFn8_early o d y i m (n + m + 1) HOL.out HYL.out hdx1 (by rw [← e]; exact HCK.out.symm)
      ·rw [e]; exact mulFn8_end o d y i m (n + m + 1) HOL.out HYL.out hdx1)
     clear hgo
     go_wp2_with fail
     exact ⟨⟨i + 1, u1, by omega, by go_num, by rw [HF.out, HTT.out, HO.out, HD.out, HN.out]⟩, by first | (simp [intOf]; done) | (simp [intOf]; omega)⟩
  ·have e : i = n := by omega
   subst e
   have HA := Lib.hid (Nat.mod_eq_of_lt HXL.out)
   have hli : ¬ (i : Int) < (i : Int) := by omega
   go_wp2_with fail
   rw [HA.out]
   have hdl : Dl ((w.alloc (.cells (arr .i64 (d8 (x * y)) (i + m + 1)) 3)).plus u0) (.slice (some ⟨w.heap.size, 0, none⟩) (i + m + 1) (i + m + 1)) (i + m + 1) (x * y) := Dl.of_arr _ _ _ _ _ (fun j hj => by simp [go_sem, arr_get _ _ _ _ hj]) (by simp [go_sem]) HT.out (Nat.le_refl _) (by unfold maxLen; omega)
   refine (strimF_c _ _ _ _ hdl (by omega)).mono ?_
   rintro e w' ⟨v', rfl, hdt, hfr, rfl⟩
   have HDT := Lib.hid hdt
   have HF2 : Hid (∀ k, v'.ownBlock = some k → w.heap.size ≤ k) := Lib.hid (fun k h => by have := hfr k h; cases this; exact Nat.le_refl _)
   clear hdt hdl hfr
   go_wp2_with fail
   go_ret
   exact ⟨_, rfl, HDT.out, HF2.out, by (repeat' (first | (with_reducible first | exact Below.refl _ _ | assumption | refine Below.plus0 ?_ _ | refine Below.alloc0 ?_ _ | refine Below.plus ?_ ?_ _ | refine Below.alloc ?_ ?_ _ | refine Below.drew ?_ | refine Below.drewN ?_ _) | (simp [go_sem]; done) | (simp [go_sem]; omega)))⟩
theorem sminus_c (v1 v2 : Value) (x y z : Nat) (hzz : z = x - y) (hle : y ≤ x) (w : World) (h1 : DT w v1 x) (h2 : DT w v2 y) (hnx : nd 256 x ≤ 4294967296) (hny : nd 256 y ≤ 4294967296) : Calls Tryz.prog 141 #[v1, v2] w fun e w' => ∃ v, e = .returned v ∧ DT w' v z ∧ Below w.heap.size w w' :=
 (sminusF_c v1 v2 x y z hzz hle w h1 h2 hnx hny).mono fun e w' ⟨v, he, hd, _, hb⟩ => ⟨v, he, hd, hb⟩
theorem stimes_c (v1 v2 : Value) (x y z : Nat) (hzz : z = x * y) (w : World) (h1 : DT w v1 x) (h2 : DT w v2 y) (hnx : nd 256 x ≤ 4294967290) (hny : nd 256 y ≤ 4294967290) : Calls Tryz.prog 138 #[v1, v2] w fun e w' => ∃ v, e = .returned v ∧ DT w' v z ∧ Below w.heap.size w w' :=
 (stimesF_c v1 v2 x y z hzz w h1 h2 hnx hny).mono fun e w' ⟨v, he, hd, _, hb⟩ => ⟨v, he, hd, hb⟩
end Go.Proofs.YthdaimoankaciaaGreatDoor
