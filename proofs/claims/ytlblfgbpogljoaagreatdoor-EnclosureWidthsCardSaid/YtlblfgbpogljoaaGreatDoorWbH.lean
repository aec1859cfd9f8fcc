/- Part 8 of the proof; what it holds is said text by text. -/
import Derived.Test.YtlblfgbpogljoaaGreatDoorWbG
import Derived.Test.YtlblfgbpogljoaaGreatDoorWbF
import Derived.Test.YtlblfgbpogljoaaGreatDoorWbC
import Derived.OwnWalk
import Derived.Deep.DeepCutAuto
import Derived.Deep.CutBlock
set_option linter.unusedSimpArgs false
set_option linter.unusedVariables false
section
namespace Go.Proofs.YtlblfgbpogljoaaGreatDoor
open Go Go.RowKit
open Vi
theorem dvals_cons (R a k : Nat) (ha : a < 256) : [Value.int .i64 (a : Nat)] ++ dvals R k = dvals (R * 256 + a) (k + 1) := by
 unfold dvals
 rw [List.range_succ_eq_map, List.map_cons, List.map_map]
 have h0 : d8 (R * 256 + a) 0 = a := by unfold d8; rw [Nat.pow_zero, Nat.div_one]; omega
 rw [h0]
 show _ :: _ = _ :: _
 congr 1
 apply List.map_congr_left
 intro i _
 show Value.int .i64 _ = Value.int .i64 _
 congr 2
 unfold d8
 rw [Nat.pow_succ, Nat.mul_comm (256 ^ i), ← Nat.div_div_eq_div_mul, show (R * 256 + a) / 256 = R by omega]
theorem app_lt (R a k : Nat) (ha : a < 256) (hR : R < 256 ^ k) : R * 256 + a < 256 ^ (k + 1) := by rw [Nat.pow_succ]; omega
theorem cmpN_ge0 (x y : Nat) (h : y ≤ x) : decide (cmpN x y < 0) = false := by unfold cmpN; rw [if_neg (by omega)]; split <;> rfl
theorem cmpN_ge2 (x y : Nat) (h : y ≤ x) : decide (0 ≤ cmpN x y) = true := by unfold cmpN; rw [if_neg (by omega)]; split <;> rfl
theorem cmpN_lt2 (x y : Nat) (h : x < y) : decide (0 ≤ cmpN x y) = false := by unfold cmpN; rw [if_pos h]; rfl
theorem cmpN_le1 (x y : Nat) (h : x ≤ y) : decide (cmpN x y ≤ 0) = true := by
 unfold cmpN
 by_cases h1 : x < y
 ·rw [if_pos h1]; rfl
 ·rw [if_neg h1, if_pos (by omega)]; rfl
theorem cmpN_le0 (x y : Nat) (h : y < x) : decide (cmpN x y ≤ 0) = false := by unfold cmpN; rw [if_neg (by omega), if_neg (by omega)]; rfl
theorem nd_mul2 (x k : Nat) (h : nd 256 x ≤ k) : nd 256 (x + x) ≤ k + 1 := by
 apply nd_le 256 (by omega)
 have := nd_of_x h
 rw [Nat.pow_succ]; omega
def FD (w : World) (v : Value) (g x : Nat) : Prop := DT w v x ∧ ∀ k, v.ownBlock = some k → g < k
def PTF (B : Nat) (w : World) (v : Value) (q r : Nat) : Prop := ∃ vq vr, v = .tuple #[vq, vr] ∧ DT w vq q ∧ DT w vr r ∧ (∀ k, vq.ownBlock = some k → B ≤ k) ∧ (∀ k, vr.ownBlock = some k → B ≤ k)
theorem FD.below {w w' : World} {v : Value} {g x : Nat} (h : FD w v g x) (hb : Below w.heap.size w w') : FD w' v g x := ⟨h.1.below hb, h.2⟩
theorem FD.row {wr u : World} {v : Value} {g x : Nat} {ty : TypeId} {c0 c1 : Array Value} (h : FD (wr.plus u) v g x) (hg : wr.heap[g]? = some (.cells c0 ty (0, 0))) : DT ((wr.row g ty c1).plus u) v x ∧ ((wr.row g ty c1).plus u).heap[g]? = some (.cells c1 ty (0, 0)) := by
 have hk := (Array.getElem?_eq_some_iff.1 hg).1
 have hs := SR.store (W := wr) (k := g) (ty := ty) (c := c0) (c1 := c1) (u := u) hk
 rw [World.row_self wr g ty c0 hg] at hs
 obtain ⟨⟨_, _, _, h4, h5, _⟩, h6⟩ := hs
 refine ⟨?_, h6⟩
 obtain ⟨h1, h2⟩ := h
 refine ⟨h1.1, ?_⟩
 rcases h1.2 with h3 | ⟨gv, cv, rfl, hc, hm, hgv, hcell⟩
 ·exact .inl h3
 ·refine .inr ⟨gv, cv, rfl, hc, hm, Nat.lt_of_lt_of_le hgv h4, fun i hi => ?_⟩
  rw [← hcell i hi]
  exact World.cell?_of_block (h5 gv hgv (Nat.ne_of_gt (h2 gv rfl)))
theorem minus_F (v1 v2 : Value) (x y z g : Nat) (hzz : z = x - y) (hle : y ≤ x) (w : World) (h1 : DT w v1 x) (h2 : DT w v2 y) (hnx : nd 256 x ≤ 4294967296) (hny : nd 256 y ≤ 4294967296) (hg : g < w.heap.size) : Calls Tryz.prog 120 #[v1, v2] w fun e w' => ∃ v, e = .returned v ∧ FD w' v g z ∧ Below w.heap.size w w' :=
 (sminusF_c v1 v2 x y z hzz hle w h1 h2 hnx hny).mono fun e w' ⟨v, he, hd, hf, hb⟩ => ⟨v, he, ⟨hd, fun k hk => by have := hf k hk; omega⟩, hb⟩
theorem ssmall_any (v : Value) (x : Nat) (w : World) (h : DT w v x) : ∃ (s : Int) (b : Bool), Calls Tryz.prog 175 #[v] w fun e w' => e = .returned (.tuple #[.int .i64 s, .bool b]) ∧ w = w' := by
 by_cases h7 : nd 256 x ≤ 7
 ·exact ⟨_, _, ssmall_c v x w h h7⟩
 ·exact ⟨_, _, ssmall_big v x w h (by omega)⟩
set_option maxRecDepth 100000 in
set_option maxHeartbeats 6400000 in
theorem sdivide_big (v1 v2 : Value) (x y Q r : Nat) (hq : Q = x / y) (hr : r = x % y) (hy0 : 0 < y) (hle : y ≤ x) (hbig : 7 < nd 256 x) (w : World) (h1 : DT w v1 x) (h2 : DT w v2 y) (hx : nd 256 x ≤ 1048576) : Calls Tryz.prog 139 #[v1, v2] w fun e w' => ∃ v, e = .returned v ∧ PTF w.heap.size w' v Q r ∧ Below w.heap.size w w' := by
 obtain ⟨i0, hi, hz0, hz1, hz2⟩ := info_parts info3
 have hyx : nd 256 y ≤ nd 256 x := nd_mono 256 (by omega) y x hle
 obtain ⟨a1, c1, e1⟩ := h1.lenForm
 obtain ⟨a2, c2, e2⟩ := h2.lenForm
 subst e1
 subst e2
 have S1 := Lib.hid (ssmall_big _ x w h1 hbig)
 obtain ⟨s2, b2, S2⟩ := ssmall_any _ y w h2
 have S2 := Lib.hid S2
 have SC := Lib.hid (scompare_c _ _ x y w h1 h2 (by omega) (by omega))
 have hc := cmpN_ge0 x y hle
 obtain ⟨c, hcc⟩ : ∃ c, c = cmpN x y := ⟨_, rfl⟩
 rw [← hcc] at SC hc
 have A1 := Lib.hid (fun (i : Nat) (wr : World) (hb : Below w.heap.size w wr) (hi : i < nd 256 x) => h1.cellAt hb hi)
 have HY := Lib.hid (fun (wr : World) (hb : Below w.heap.size w wr) => h2.below hb)
 have HQX : Hid (Q < 256 ^ nd 256 x) := Lib.hid (by rw [hq]; exact Nat.lt_of_le_of_lt (Nat.div_le_self _ _) (lt_pow_nd 256 (by omega) x))
 have HX0 : Hid (x / 256 ^ nd 256 x = 0) := Lib.hid (Nat.div_eq_of_lt (lt_pow_nd 256 (by omega) x))
 obtain ⟨n, hn⟩ : ∃ n, n = nd 256 x := ⟨_, rfl⟩
 rw [← hn] at A1 HQX HX0 ⊢
 obtain ⟨m, hm⟩ : ∃ m, m = nd 256 y := ⟨_, rfl⟩
 rw [← hm] at HY ⊢
 rw [← hn] at S1 SC
 rw [← hm] at S2 SC
 have hnb : n ≤ 1048576 := by omega
 have hmn : m ≤ n := by omega
 have HM := Lib.hid hm
 have HQ := Lib.hid hq
 have HR := Lib.hid hr
 have HY0 := Lib.hid hy0
 have HMK := Lib.hid (makeInt n · (by omega))
 clear h1 h2 hle hbig hx hyx hn hm hcc hq hr hy0
 go_enter Tryz.func139, Tryz.ntmps139
 go_wp2_with fail
 (refine (S1.out).mono ?_; rintro e w' ⟨rfl, rfl⟩)
 go_wp2_with fail
 (refine (S2.out).mono ?_; rintro e w' ⟨rfl, rfl⟩)
 go_wp2_with fail
 (go_wp2_with fail; refine (SC.out).mono ?_; rintro e w' ⟨rfl, hb⟩; (first | (with_reducible (have hb2 := World.plus_of_below ((World.below_plus _ _).trans (hb.mono (World.size_plus _ _)))); obtain ⟨u, rfl⟩ := hb2) | (obtain ⟨u, rfl⟩ := World.plus_of_below hb)); clear hb)
 go_wp2_with fail
 have hmk := HMK.out
 simp only [hmk]
 clear hmk
 obtain ⟨gq, hgq⟩ : ∃ g, g = (w.plus u).heap.size := ⟨_, rfl⟩
 rw [← hgq]
 obtain ⟨V, hV⟩ : ∃ V, V = (w.plus u).alloc (.cells (arr .i64 (fun _ => 0) n) 3) := ⟨_, rfl⟩
 rw [← hV]
 have hqV : V.heap[gq]? = some (.cells (arr .i64 (fun _ => 0) n) 3 (0, 0)) := by rw [hV, hgq]; exact heap_alloc_new _ _
 have hbV : Below w.heap.size w V := by rw [hV]; (exact belA)
 have hgw : w.heap.size ≤ gq := by rw [hgq]; exact World.size_plus _ _
 clear hV hgq
 go_wp2_with fail
 go_loopw [5, 10] (fun rv iv wr => ∃ p R : Nat, p ≤ n ∧ iv = .int .i64 ((p : Int) - 1) ∧ Hid (R = x / 256 ^ p % y) ∧ DT wr rv R ∧ (∀ k, rv.ownBlock = some k → gq < k) ∧ wr.heap[gq]? = some (.cells (arr .i64 (qfn Q p) n) 3 (0, 0)) ∧ Below w.heap.size w wr) (fun _ iv _ => (intOf iv + 1).toNat)
 case atStart => exact ⟨n, 0, Nat.le_refl _, rfl, Lib.hid (by rw [HX0.out, Nat.zero_mod]), DT.nil _, fun k h => (by cases h), by rw [← qfn_top Q n n HQX.out]; exact hqV, hbV⟩
 case round =>
  obtain ⟨p, R, hp, rfl, HRE, hdt, hfr, hrow, hbel⟩ := hrel
  have hgl : gq < wr.heap.size := (Array.getElem?_eq_some_iff.1 hrow).1
  cases p with
  | zero =>
   have hdq : Dl wr (.slice (some ⟨gq, 0, none⟩) n n) n Q := Dl.of_arr _ _ _ _ _ (fun j hj => by rw [cell_at hrow, arr_get _ _ _ _ hj, qfn_zero]) hgl HQX.out (Nat.le_refl _) (by unfold maxLen; omega)
   have hRr : R = r := by rw [HRE.out, HR.out, Nat.pow_zero, Nat.div_one]
   subst hRr
   have HDQ := Lib.hid hdq
   have HDR := Lib.hid hdt
   have HFR := Lib.hid (fun k h => Nat.le_of_lt (Nat.lt_of_le_of_lt hgw (hfr k h)))
   clear hdq hdt hrow hfr
   go_wp2_with fail
   refine (strimF_c _ _ _ _ HDQ.out (by omega)).mono ?_
   rintro e w' ⟨v', rfl, hd2, hf2, rfl⟩
   have HD2 := Lib.hid hd2
   have HFQ : Hid (∀ k, v'.ownBlock = some k → w.heap.size ≤ k) := Lib.hid fun k h => by have := hf2 k h; cases this; exact hgw
   clear hd2 hf2
   go_wp2_with fail
   go_ret2
   exact ⟨_, rfl, ⟨_, _, rfl, HD2.out, HDR.out, HFQ.out, HFR.out⟩, hbel⟩
  | succ i4 =>
   have hpi : ((i4 + 1 : Nat) : Int) - 1 = (i4 : Int) := by omega
   rw [hpi]
   have hin : i4 < n := by omega
   have hini : (i4 : Int) < (n : Int) := by omega
   have hi0 : (0 : Int) ≤ (i4 : Int) := by omega
   obtain ⟨g1, rfl, hc1, hg1, hcx⟩ := A1.out i4 wr hbel hin
   obtain ⟨a, ha⟩ : ∃ a, a = d8 x i4 := ⟨_, rfl⟩
   rw [← ha] at hcx
   have ha256 : a < 256 := ha ▸ d8_lt x i4
   obtain ⟨A, hA⟩ : ∃ A, A = R * 256 + a := ⟨_, rfl⟩
   obtain ⟨hAlt, hAd, hAr⟩ := dgt_div x y i4 HY0.out A (by rw [hA, HRE.out, ha])
   rw [← HQ.out] at hAd
   have HAD := Lib.hid hAd
   have HAR := Lib.hid hAr
   have HAL := Lib.hid hAlt
   have hRy : R < y := by rw [HRE.out]; exact Nat.mod_lt _ HY0.out
   have hRm : nd 256 R ≤ m := by rw [HM.out]; exact nd_mono 256 (by omega) R y (by omega)
   have hAm : nd 256 A ≤ m + 1 := nd_le 256 (by omega) A (m + 1) (by rw [hA]; exact app_lt R a m ha256 (nd_of_x hRm))
   obtain ⟨k, hk⟩ : ∃ k, k = nd 256 R := ⟨_, rfl⟩
   have HDV : Hid ([Value.int .i64 (a : Nat)] ++ dvals R k = dvals A (k + 1)) := Lib.hid (by rw [hA]; exact dvals_cons R a k ha256)
   have HAK : Hid (A < 256 ^ (k + 1)) := Lib.hid (by rw [hA, hk]; exact app_lt R a _ ha256 (lt_pow_nd 256 (by omega) R))
   have hlit : (wr.alloc (.cells #[.int .i64 (a : Nat)] 3)).ownsRow wr.heap.size 3 1 (.slice (some ⟨wr.heap.size, 0, none⟩) 1 1) 1 [.int .i64 (a : Nat)] := World.ownsRow_lit wr #[.int .i64 (a : Nat)] 1 (Nat.le_refl _) (by unfold maxLen; omega) rfl
   have hkn : k ≤ 1048577 := by omega
   have HK := Lib.hid hk
   have HFR := Lib.hid hfr
   rcases hdt.cases with ⟨rfl, hR0⟩ | ⟨gr, cr, rfl, hcr, hcm, hgr, hrc⟩
   ·have HRC := Lib.hid hR0
    clear hdt hA ha hAd hAr hAlt hfr hk
    go_wp2_with fail
    have hk0 : k = 0 := by rw [HK.out, HRC.out, nd_zero]
    have hdl : Dl (wr.alloc (.cells #[.int .i64 (a : Nat)] 3)) (.slice (some ⟨wr.heap.size, 0, none⟩) 1 1) 1 A := by
     have h5 := HDV.out
     rw [hk0] at h5
     have h6 : (wr.alloc (.cells #[.int .i64 (a : Nat)] 3)).ownsRow wr.heap.size 3 1 (.slice (some ⟨wr.heap.size, 0, none⟩) 1 1) 1 (dvals A 1) := by
      rw [← h5]; exact hlit
     exact Dl.of_owned h6 (by have := HAK.out; rwa [hk0] at this)
    have HDL := Lib.hid hdl
    have HFN : Hid (∀ kk, (Value.slice (some ⟨wr.heap.size, 0, none⟩) 1 1).ownBlock = some kk → wr.heap.size ≤ kk) := Lib.hid fun kk h => by cases h; exact Nat.le_refl _
    have hrow1 : (wr.alloc (.cells #[.int .i64 (a : Nat)] 3)).heap[gq]? = some (.cells (arr .i64 (qfn Q (i4 + 1)) n) 3 (0, 0)) := (heap_alloc_old _ _ hgl).trans hrow
    have hbel1 : Below w.heap.size w (wr.alloc (.cells #[.int .i64 (a : Nat)] 3)) := hbel.trans ((Below.refl wr.heap.size wr).alloc (Nat.le_refl _) _ |>.mono hbel.size)
    clear hdl hrow hbel hlit
    refine (strimF_c _ _ _ _ HDL.out (by omega)).mono ?_
    rintro e w' ⟨vr, rfl, hd2, hfr2, rfl⟩
    have HD2 := Lib.hid hd2
    have HF2 : Hid (∀ kk, vr.ownBlock = some kk → gq < kk) := Lib.hid fun kk h => by have := HFN.out kk (hfr2 kk h); omega
    clear hd2 hfr2
    go_wp2_with fail
    go_loopw [5] (fun rv wx => ∃ R2 cc : Nat, cc ≤ 255 ∧ Hid (A = cc * y + R2) ∧ DT wx rv R2 ∧ (∀ kk, rv.ownBlock = some kk → gq < kk) ∧ wx.heap[gq]? = some (.cells (arr .i64 (upd (qfn Q (i4 + 1)) i4 cc) n) 3 (0, 0)) ∧ Below w.heap.size w wx) (fun _ wx => 256 - (intOf ((wx.cell? ⟨gq, i4, none⟩).getD undef)).toNat)
    case atStart => exact ⟨A, 0, by omega, Lib.hid (by rw [Nat.zero_mul, Nat.zero_add]), HD2.out, HF2.out, by rw [qfn_start]; exact hrow1, hbel1⟩
    case round =>
     obtain ⟨R2, cc, hcc, HAC, hdt2, hfr3, hrow2, hbel2⟩ := hrel
     have hgl2 : gq < wr.heap.size := (Array.getElem?_eq_some_iff.1 hrow2).1
     have hcq : wr.cell? ⟨gq, i4, none⟩ = some (.int .i64 (cc : Nat)) := by rw [cell_at hrow2, arr_get _ _ _ _ hin, upd_at]
     have hR2A : R2 ≤ A := by rw [HAC.out]; omega
     have hR2m : nd 256 R2 ≤ m + 1 := Nat.le_trans (nd_mono 256 (by omega) R2 A hR2A) hAm
     have SC2 := Lib.hid (scompare_c _ _ R2 y wr hdt2 (HY.out wr hbel2) (by omega) (by rw [← HM.out]; omega))
     have HDT2 := Lib.hid hdt2
     have HFR3 := Lib.hid hfr3
     obtain ⟨av, cv2, hvf⟩ := hdt2.lenForm
     subst hvf
     obtain ⟨k2, hk2⟩ : ∃ k2, k2 = nd 256 R2 := ⟨_, rfl⟩
     rw [← hk2] at SC2 HDT2 HFR3 ⊢
     have HK2 := Lib.hid hk2
     by_cases hge : y ≤ R2
     ·have hcl : cc < 255 := by
        apply Decidable.byContradiction
        intro h
        have e : cc = 255 := by omega
        have h3 := HAC.out
        have h4 := HAL.out
        rw [e] at h3
        omega
      have hcd := cmpN_ge2 R2 y hge
      have hcli : (cc : Int) < 255 := by omega
      obtain ⟨cm, hcm⟩ : ∃ c, c = cmpN R2 y := ⟨_, rfl⟩
      rw [← hcm] at SC2 hcd
      have HGE := Lib.hid hge
      clear hdt2 hfr3 hk2 hge hcm
      go_wp2_with fail
      (go_wp2_with fail; refine (SC2.out).mono ?_; rintro e w' ⟨rfl, hb⟩; (first | (with_reducible (have hb2 := World.plus_of_below ((World.below_plus _ _).trans (hb.mono (World.size_plus _ _)))); obtain ⟨u, rfl⟩ := hb2) | (obtain ⟨u, rfl⟩ := World.plus_of_below hb)); clear hb)
      go_wp2_with fail
      go_loopw [11, 12] (fun sv pv wx => ∃ (e s P : Nat) (u' : World), e ≤ 7 ∧ Hid (s = 2 ^ e) ∧ sv = .int .i64 (s : Int) ∧ Hid (P = s * y) ∧ P ≤ R2 ∧ DT wx pv P ∧ wx = wr.plus u') (fun sv _ _ => 256 - (intOf sv).toNat)
      case atStart => exact ⟨0, 1, y, u, by omega, Lib.hid rfl, rfl, Lib.hid (by omega), HGE.out, HY.out _ (hbel2.trans ((World.below_plus _ _).mono hbel2.size)), rfl⟩
      case round =>
       obtain ⟨e, s, P, u', he7, HS, rfl, HP, hPR, hdp, rfl⟩ := hrel
       have hPm : nd 256 P ≤ m + 1 := Nat.le_trans (nd_mono 256 (by omega) P R2 hPR) hR2m
       by_cases he : e < 7
       ·obtain ⟨P2, hP2⟩ : ∃ z, z = P + P := ⟨_, rfl⟩
        obtain ⟨s2, hs2⟩ : ∃ z, z = 2 * s := ⟨_, rfl⟩
        have hs64 : s ≤ 64 := by
         rw [HS.out, show (64 : Nat) = 2 ^ 6 by decide]
         exact Nat.pow_le_pow_right (by omega) (by omega)
        have HS2 : Hid (s2 = 2 ^ (e + 1)) := Lib.hid (by rw [hs2, HS.out, Nat.pow_succ]; omega)
        have HP2 : Hid (P2 = s2 * y) := Lib.hid (by rw [hP2, hs2, HP.out, Nat.mul_assoc, Nat.two_mul])
        have hP2m : nd 256 P2 ≤ m + 2 := by rw [hP2]; exact nd_mul2 P (m + 1) hPm
        have e1 : (2 : Int) * (s : Int) = (s2 : Int) := by omega
        have hsl : (s2 : Int) ≤ 128 := by omega
        have hss : s < s2 := by
         have : 1 ≤ s := by rw [HS.out]; exact Nat.one_le_two_pow
         omega
        have HPL := Lib.hid (fun (u : World) (hp : DT (wr.plus u) u12 P) => splus_c u12 u12 P P P2 hP2 (wr.plus u) hp hp (by omega) (by omega))
        have HSS := Lib.hid hss
        by_cases hle2 : P2 ≤ R2
        ·have hcd2 := cmpN_le1 P2 R2 hle2
         obtain ⟨cm2, hcm2⟩ : ∃ c, c = cmpN P2 R2 := ⟨_, rfl⟩
         have HC2 : Hid (∀ (u : World) (v : Value), DT (wr.plus u) v P2 → Calls Tryz.prog 119 #[v, .slice av k2 cv2] (wr.plus u) fun e w' => e = .returned (.int .i64 cm2) ∧ Below (wr.plus u).heap.size (wr.plus u) w') := Lib.hid fun u v hv => by
          rw [hcm2]; exact scompare_c v _ P2 R2 (wr.plus u) hv (HDT2.out.below (World.below_plus _ _)) (by omega) (by omega)
         rw [← hcm2] at hcd2
         have HDP := Lib.hid hdp
         clear hdp hs2 hP2 hcm2 hss
         go_wp2_with fail
         refine (HPL.out _ HDP.out).mono ?_
         rintro e9 w9 ⟨vp, rfl, hvp, hb9⟩
         obtain ⟨u1, rfl⟩ := World.plus_of_below ((World.below_plus wr u').trans (hb9.mono (World.size_plus _ _)))
         have HVP := Lib.hid hvp
         have HDP1 : Hid (DT (wr.plus u1) u12 P) := Lib.hid (HDP.out.below hb9)
         clear hb9 hvp
         go_wp2_with fail
         refine (HC2.out _ _ HVP.out).mono ?_
         rintro e9 w9 ⟨rfl, hb9⟩
         obtain ⟨u2, rfl⟩ := World.plus_of_below ((World.below_plus wr u1).trans (hb9.mono (World.size_plus _ _)))
         have HDP2 : Hid (DT (wr.plus u2) u12 P) := Lib.hid (HDP1.out.below hb9)
         clear hb9
         go_wp2_with fail
         refine (HPL.out _ HDP2.out).mono ?_
         rintro e9 w9 ⟨vp2, rfl, hvp2, hb9⟩
         obtain ⟨u3, rfl⟩ := World.plus_of_below ((World.below_plus wr u2).trans (hb9.mono (World.size_plus _ _)))
         have HVP2 := Lib.hid hvp2
         clear hb9 hvp2
         go_wp2_with fail
         exact ⟨⟨e + 1, s2, P2, u3, by omega, HS2, by first | rfl | go_num, HP2, hle2, HVP2.out, rfl⟩, by have := HSS.out; first | (simp [intOf]; done) | (simp [intOf]; omega)⟩
        ·have hcd2 := cmpN_le0 P2 R2 (by omega)
         obtain ⟨cm2, hcm2⟩ : ∃ c, c = cmpN P2 R2 := ⟨_, rfl⟩
         have HC2 : Hid (∀ (u : World) (v : Value), DT (wr.plus u) v P2 → Calls Tryz.prog 119 #[v, .slice av k2 cv2] (wr.plus u) fun e w' => e = .returned (.int .i64 cm2) ∧ Below (wr.plus u).heap.size (wr.plus u) w') := Lib.hid fun u v hv => by
          rw [hcm2]; exact scompare_c v _ P2 R2 (wr.plus u) hv (HDT2.out.below (World.below_plus _ _)) (by omega) (by omega)
         rw [← hcm2] at hcd2
         have HDP := Lib.hid hdp
         clear hdp hs2 hP2 hcm2 hss
         go_wp2_with fail
         refine (HPL.out _ HDP.out).mono ?_
         rintro e9 w9 ⟨vp, rfl, hvp, hb9⟩
         obtain ⟨u1, rfl⟩ := World.plus_of_below ((World.below_plus wr u').trans (hb9.mono (World.size_plus _ _)))
         have HVP := Lib.hid hvp
         have HDP1 : Hid (DT (wr.plus u1) u12 P) := Lib.hid (HDP.out.below hb9)
         clear hb9 hvp
         go_wp2_with fail
         refine (HC2.out _ _ HVP.out).mono ?_
         rintro e9 w9 ⟨rfl, hb9⟩
         obtain ⟨u2, rfl⟩ := World.plus_of_below ((World.below_plus wr u1).trans (hb9.mono (World.size_plus _ _)))
         have hdpW : DT (wr.plus u2) u12 P := HDP1.out.below hb9
         have hdp := 0
         clear hb9
         go_wp2_with fail
         obtain ⟨R3, hR3⟩ : ∃ z, z = R2 - P := ⟨_, rfl⟩
         obtain ⟨cs, hcs⟩ : ∃ z, z = cc + s := ⟨_, rfl⟩
         have hAcs : A = cs * y + R3 := by
          have h3 := HAC.out
          have h4 := HP.out
          rw [hcs, hR3, Nat.add_mul, ← h4]; omega
         have hcs255 : cs ≤ 255 := by
          apply Decidable.byContradiction
          intro h
          have h3 := HAL.out
          have h4 : 256 * y ≤ cs * y := Nat.mul_le_mul_right _ (by omega)
          omega
         have hs1 : 1 ≤ s := by rw [HS.out]; exact Nat.one_le_two_pow
         have HMI := Lib.hid (fun (u : World) (hp : DT (wr.plus u) u12 P) => minus_F _ u12 R2 P R3 gq hR3 hPR (wr.plus u) (HDT2.out.below (World.below_plus _ _)) hp (by omega) (by omega) (Nat.lt_of_lt_of_le hgl2 (World.size_plus _ _)))
         have eW := Lib.hid (World.row_self wr _ _ _ hrow2)
         have hget : (arr .i64 (upd (qfn Q (i4 + 1)) i4 cc) n)[i4]? = some (.int .i64 (cc : Nat)) := by rw [arr_get _ _ _ _ hin, upd_at]
         have ecs : (cc : Int) + (s : Int) = (cs : Int) := by omega
         have HACS := Lib.hid hAcs
         have HMEAS : Hid (cc < cs) := Lib.hid (by omega)
         have HG := Lib.hid hget
         clear hR3 hcs hAcs hs1 hget hdp
         refine wp_region_ufacts_t 13 (fun i v w9 => match i with
          | 0 => v = .slice (some ⟨gq, 0, none⟩) n n
          | 1 => v = .int .i64 (i4 : Int)
          | 2 => v = .slice av k2 cv2
          | 3 => v = u12
          | 4 => FD w9 v gq R3
          | 5 => v = .slice (some ⟨gq, 0, none⟩) n n
          | 6 => v = .int .i64 (i4 : Int)
          | 7 => v = .pointer (some ⟨gq, i4, none⟩)
          | 8 => v = .int .i64 (cc : Nat)
          | 9 => v = .int .i64 (s : Int)
          | 10 => v = .int .i64 (cs : Int)
          | 11 => FD w9 v gq R3
          | 12 => v = .pointer (some ⟨gq, i4, none⟩)
          | _ => True) (by kernel_rfl) (by kernel_rfl) ?_ ?_ ?_
         ·intro i v w1 w2 hb h
          match i, h with
          | 0, h => exact h
          | 1, h => exact h
          | 2, h => exact h
          | 3, h => exact h
          | 4, h => exact FD.below h hb
          | 5, h => exact h
          | 6, h => exact h
          | 7, h => exact h
          | 8, h => exact h
          | 9, h => exact h
          | 10, h => exact h
          | 11, h => exact FD.below h hb
          | 12, h => exact h
          | k + 13, h => exact trivial
         ·simp only [List.take_succ_cons, List.take_zero];
          refine USteps.cons ?_ ?_
          ·intro xs w9 hw hd hu
           have hdpW := hdpW.below hw; (first | (with_reducible have hw2 := World.plus_of_below ((World.below_plus _ _).trans (hw.mono (World.size_plus _ _))); obtain ⟨u, rfl⟩ := hw2) | (obtain ⟨u, rfl⟩ := World.plus_of_below hw))
           simp only [fill, Act.put, List.take_succ_cons, List.take_zero, List.drop_succ_cons, List.drop_zero, Nat.reduceAdd, Nat.zero_add, List.setIfInBounds_toArray, List.set_cons_succ, List.set_cons_zero, if_true, if_false, Nat.reduceEqDiff, reduceIte]
           go_wp2_with fail
           all_goals (first | exact Below.refl _ _ | ((first | refine ⟨?_, _, rfl, rfl⟩ | refine ⟨rfl, ?_, _, rfl, rfl⟩ | refine ⟨?_, rfl⟩); (exact belA)) | exact Fresh.old rfl | exact Fresh.new _ _ _)
          refine USteps.cons ?_ ?_
          ·intro xs w9 hw hd hu
           have hdpW := hdpW.below hw; (first | (with_reducible have hw2 := World.plus_of_below ((World.below_plus _ _).trans (hw.mono (World.size_plus _ _))); obtain ⟨u, rfl⟩ := hw2) | (obtain ⟨u, rfl⟩ := World.plus_of_below hw))
           simp only [fill, Act.put, List.take_succ_cons, List.take_zero, List.drop_succ_cons, List.drop_zero, Nat.reduceAdd, Nat.zero_add, List.setIfInBounds_toArray, List.set_cons_succ, List.set_cons_zero, if_true, if_false, Nat.reduceEqDiff, reduceIte]
           go_wp2_with fail
           all_goals (first | exact Below.refl _ _ | ((first | refine ⟨?_, _, rfl, rfl⟩ | refine ⟨rfl, ?_, _, rfl, rfl⟩ | refine ⟨?_, rfl⟩); (exact belA)) | exact Fresh.old rfl | exact Fresh.new _ _ _)
          refine USteps.cons ?_ ?_
          ·intro xs w9 hw hd hu
           have hdpW := hdpW.below hw; (first | (with_reducible have hw2 := World.plus_of_below ((World.below_plus _ _).trans (hw.mono (World.size_plus _ _))); obtain ⟨u, rfl⟩ := hw2) | (obtain ⟨u, rfl⟩ := World.plus_of_below hw))
           simp only [fill, Act.put, List.take_succ_cons, List.take_zero, List.drop_succ_cons, List.drop_zero, Nat.reduceAdd, Nat.zero_add, List.setIfInBounds_toArray, List.set_cons_succ, List.set_cons_zero, if_true, if_false, Nat.reduceEqDiff, reduceIte]
           have hx11 : xs 11 = .slice av k2 cv2 := (hu 11 _ rfl (by kernel_rfl)).trans rfl
           simp only [hx11]
           go_wp2_with fail
           all_goals (first | exact Below.refl _ _ | ((first | refine ⟨?_, _, rfl, rfl⟩ | refine ⟨rfl, ?_, _, rfl, rfl⟩ | refine ⟨?_, rfl⟩); (exact belA)) | exact Fresh.old rfl | exact Fresh.new _ _ _)
          refine USteps.cons ?_ ?_
          ·intro xs w9 hw hd hu
           have hdpW := hdpW.below hw; (first | (with_reducible have hw2 := World.plus_of_below ((World.below_plus _ _).trans (hw.mono (World.size_plus _ _))); obtain ⟨u, rfl⟩ := hw2) | (obtain ⟨u, rfl⟩ := World.plus_of_below hw))
           simp only [fill, Act.put, List.take_succ_cons, List.take_zero, List.drop_succ_cons, List.drop_zero, Nat.reduceAdd, Nat.zero_add, List.setIfInBounds_toArray, List.set_cons_succ, List.set_cons_zero, if_true, if_false, Nat.reduceEqDiff, reduceIte]
           go_wp2_with fail
           all_goals (first | exact Below.refl _ _ | ((first | refine ⟨?_, _, rfl, rfl⟩ | refine ⟨rfl, ?_, _, rfl, rfl⟩ | refine ⟨?_, rfl⟩); (exact belA)) | exact Fresh.old rfl | exact Fresh.new _ _ _)
          refine USteps.cons ?_ ?_
          ·intro xs w9 hw hd hu
           have hdpW := hdpW.below hw; (first | (with_reducible have hw2 := World.plus_of_below ((World.below_plus _ _).trans (hw.mono (World.size_plus _ _))); obtain ⟨u, rfl⟩ := hw2) | (obtain ⟨u, rfl⟩ := World.plus_of_below hw))
           simp only [fill, Act.put, List.take_succ_cons, List.take_zero, List.drop_succ_cons, List.drop_zero, Nat.reduceAdd, Nat.zero_add, List.setIfInBounds_toArray, List.set_cons_succ, List.set_cons_zero, if_true, if_false, Nat.reduceEqDiff, reduceIte]
           have f2 : (xs 2) = .slice av k2 cv2 := hd 2 (by kernel_rfl); simp only [f2]
           have f3 : (xs 3) = u12 := hd 3 (by kernel_rfl); simp only [f3]
           go_wp2_with (go_at_call 120; refine (HMI.out _ hdpW).mono ?_; rintro e w8 ⟨v, rfl, hdl, hb⟩)
           all_goals (first | exact Below.refl _ _ | exact hb | exact hdl | exact ⟨hb, hdl⟩ | exact ⟨hb, _, rfl, hdl⟩ | exact ⟨rfl, hb, _, rfl, hdl⟩)
          refine USteps.cons ?_ ?_
          ·intro xs w9 hw hd hu
           have hdpW := hdpW.below hw; (first | (with_reducible have hw2 := World.plus_of_below ((World.below_plus _ _).trans (hw.mono (World.size_plus _ _))); obtain ⟨u, rfl⟩ := hw2) | (obtain ⟨u, rfl⟩ := World.plus_of_below hw))
           simp only [fill, Act.put, List.take_succ_cons, List.take_zero, List.drop_succ_cons, List.drop_zero, Nat.reduceAdd, Nat.zero_add, List.setIfInBounds_toArray, List.set_cons_succ, List.set_cons_zero, if_true, if_false, Nat.reduceEqDiff, reduceIte]
           go_wp2_with fail
           all_goals (first | exact Below.refl _ _ | ((first | refine ⟨?_, _, rfl, rfl⟩ | refine ⟨rfl, ?_, _, rfl, rfl⟩ | refine ⟨?_, rfl⟩); (exact belA)) | exact Fresh.old rfl | exact Fresh.new _ _ _)
          refine USteps.cons ?_ ?_
          ·intro xs w9 hw hd hu
           have hdpW := hdpW.below hw; (first | (with_reducible have hw2 := World.plus_of_below ((World.below_plus _ _).trans (hw.mono (World.size_plus _ _))); obtain ⟨u, rfl⟩ := hw2) | (obtain ⟨u, rfl⟩ := World.plus_of_below hw))
           simp only [fill, Act.put, List.take_succ_cons, List.take_zero, List.drop_succ_cons, List.drop_zero, Nat.reduceAdd, Nat.zero_add, List.setIfInBounds_toArray, List.set_cons_succ, List.set_cons_zero, if_true, if_false, Nat.reduceEqDiff, reduceIte]
           go_wp2_with fail
           all_goals (first | exact Below.refl _ _ | ((first | refine ⟨?_, _, rfl, rfl⟩ | refine ⟨rfl, ?_, _, rfl, rfl⟩ | refine ⟨?_, rfl⟩); (exact belA)) | exact Fresh.old rfl | exact Fresh.new _ _ _)
          refine USteps.cons ?_ ?_
          ·intro xs w9 hw hd hu
           have hdpW := hdpW.below hw; (first | (with_reducible have hw2 := World.plus_of_below ((World.below_plus _ _).trans (hw.mono (World.size_plus _ _))); obtain ⟨u, rfl⟩ := hw2) | (obtain ⟨u, rfl⟩ := World.plus_of_below hw))
           simp only [fill, Act.put, List.take_succ_cons, List.take_zero, List.drop_succ_cons, List.drop_zero, Nat.reduceAdd, Nat.zero_add, List.setIfInBounds_toArray, List.set_cons_succ, List.set_cons_zero, if_true, if_false, Nat.reduceEqDiff, reduceIte]
           have f5 : (xs 5) = .slice (some ⟨gq, 0, none⟩) n n := hd 5 (by kernel_rfl); simp only [f5]
           have f6 : (xs 6) = .int .i64 (i4 : Int) := hd 6 (by kernel_rfl); simp only [f6]
           go_wp2_with fail
           all_goals (first | exact Below.refl _ _ | ((first | refine ⟨?_, _, rfl, rfl⟩ | refine ⟨rfl, ?_, _, rfl, rfl⟩ | refine ⟨?_, rfl⟩); (exact belA)) | exact Fresh.old rfl | exact Fresh.new _ _ _)
          refine USteps.cons ?_ ?_
          ·intro xs w9 hw hd hu
           have hdpW := hdpW.below hw; (first | (with_reducible have hw2 := World.plus_of_below ((World.below_plus _ _).trans (hw.mono (World.size_plus _ _))); obtain ⟨u, rfl⟩ := hw2) | (obtain ⟨u, rfl⟩ := World.plus_of_below hw))
           simp only [fill, Act.put, List.take_succ_cons, List.take_zero, List.drop_succ_cons, List.drop_zero, Nat.reduceAdd, Nat.zero_add, List.setIfInBounds_toArray, List.set_cons_succ, List.set_cons_zero, if_true, if_false, Nat.reduceEqDiff, reduceIte]
           have f7 : (xs 7) = .pointer (some ⟨gq, i4, none⟩) := hd 7 (by kernel_rfl); simp only [f7]
           go_wp2_with fail
           all_goals (first | exact Below.refl _ _ | ((first | refine ⟨?_, _, rfl, rfl⟩ | refine ⟨rfl, ?_, _, rfl, rfl⟩ | refine ⟨?_, rfl⟩); (exact belA)) | exact Fresh.old rfl | exact Fresh.new _ _ _)
          refine USteps.cons ?_ ?_
          ·intro xs w9 hw hd hu
           have hdpW := hdpW.below hw; (first | (with_reducible have hw2 := World.plus_of_below ((World.below_plus _ _).trans (hw.mono (World.size_plus _ _))); obtain ⟨u, rfl⟩ := hw2) | (obtain ⟨u, rfl⟩ := World.plus_of_below hw))
           simp only [fill, Act.put, List.take_succ_cons, List.take_zero, List.drop_succ_cons, List.drop_zero, Nat.reduceAdd, Nat.zero_add, List.setIfInBounds_toArray, List.set_cons_succ, List.set_cons_zero, if_true, if_false, Nat.reduceEqDiff, reduceIte]
           go_wp2_with fail
           all_goals (first | exact Below.refl _ _ | ((first | refine ⟨?_, _, rfl, rfl⟩ | refine ⟨rfl, ?_, _, rfl, rfl⟩ | refine ⟨?_, rfl⟩); (exact belA)) | exact Fresh.old rfl | exact Fresh.new _ _ _)
          refine USteps.cons ?_ ?_
          ·intro xs w9 hw hd hu
           have hdpW := hdpW.below hw; (first | (with_reducible have hw2 := World.plus_of_below ((World.below_plus _ _).trans (hw.mono (World.size_plus _ _))); obtain ⟨u, rfl⟩ := hw2) | (obtain ⟨u, rfl⟩ := World.plus_of_below hw))
           simp only [fill, Act.put, List.take_succ_cons, List.take_zero, List.drop_succ_cons, List.drop_zero, Nat.reduceAdd, Nat.zero_add, List.setIfInBounds_toArray, List.set_cons_succ, List.set_cons_zero, if_true, if_false, Nat.reduceEqDiff, reduceIte]
           have f8 : (xs 8) = .int .i64 (cc : Nat) := hd 8 (by kernel_rfl); simp only [f8]
           have f9 : (xs 9) = .int .i64 (s : Int) := hd 9 (by kernel_rfl); simp only [f9]
           go_wp2_with fail
           all_goals (first | exact Below.refl _ _ | ((first | refine ⟨?_, _, rfl, rfl⟩ | refine ⟨rfl, ?_, _, rfl, rfl⟩ | refine ⟨?_, rfl⟩); (exact belA)) | exact Fresh.old rfl | exact Fresh.new _ _ _)
          refine USteps.cons ?_ ?_
          ·intro xs w9 hw hd hu
           have hdpW := hdpW.below hw; (first | (with_reducible have hw2 := World.plus_of_below ((World.below_plus _ _).trans (hw.mono (World.size_plus _ _))); obtain ⟨u, rfl⟩ := hw2) | (obtain ⟨u, rfl⟩ := World.plus_of_below hw))
           simp only [fill, Act.put, List.take_succ_cons, List.take_zero, List.drop_succ_cons, List.drop_zero, Nat.reduceAdd, Nat.zero_add, List.setIfInBounds_toArray, List.set_cons_succ, List.set_cons_zero, if_true, if_false, Nat.reduceEqDiff, reduceIte]
           have f4 : FD _ (xs 4) gq R3 := hd 4 (by kernel_rfl)
           go_wp2_with fail
           all_goals (first | exact Below.refl _ _ | ((first | refine ⟨?_, _, rfl, f4⟩ | refine ⟨rfl, ?_, _, rfl, f4⟩ | refine ⟨?_, f4⟩); (exact belA)) | exact Fresh.old rfl | exact Fresh.new _ _ _)
          refine USteps.cons ?_ ?_
          ·intro xs w9 hw hd hu
           have hdpW := hdpW.below hw; (first | (with_reducible have hw2 := World.plus_of_below ((World.below_plus _ _).trans (hw.mono (World.size_plus _ _))); obtain ⟨u, rfl⟩ := hw2) | (obtain ⟨u, rfl⟩ := World.plus_of_below hw))
           simp only [fill, Act.put, List.take_succ_cons, List.take_zero, List.drop_succ_cons, List.drop_zero, Nat.reduceAdd, Nat.zero_add, List.setIfInBounds_toArray, List.set_cons_succ, List.set_cons_zero, if_true, if_false, Nat.reduceEqDiff, reduceIte]
           have f0 : (xs 0) = .slice (some ⟨gq, 0, none⟩) n n := hd 0 (by kernel_rfl); simp only [f0]
           have f1 : (xs 1) = .int .i64 (i4 : Int) := hd 1 (by kernel_rfl); simp only [f1]
           go_wp2_with fail
           all_goals (first | exact Below.refl _ _ | ((first | refine ⟨?_, _, rfl, rfl⟩ | refine ⟨rfl, ?_, _, rfl, rfl⟩ | refine ⟨?_, rfl⟩); (exact belA)) | exact Fresh.old rfl | exact Fresh.new _ _ _)
          exact USteps.nil
         intro xs w9 hw hd
         have hdpW := hdpW.below hw; (first | (with_reducible have hw2 := World.plus_of_below ((World.below_plus _ _).trans (hw.mono (World.size_plus _ _))); obtain ⟨u, rfl⟩ := hw2) | (obtain ⟨u, rfl⟩ := World.plus_of_below hw))
         simp only [fill, Act.put, List.take_succ_cons, List.take_zero, List.drop_succ_cons, List.drop_zero, Nat.reduceAdd, Nat.zero_add, List.setIfInBounds_toArray, List.set_cons_succ, List.set_cons_zero, if_true, if_false, Nat.reduceEqDiff, reduceIte]
         have f0 : (xs 0) = .slice (some ⟨gq, 0, none⟩) n n := hd 0 (by decide)
         simp only [f0]
         have f1 : (xs 1) = .int .i64 (i4 : Int) := hd 1 (by decide)
         simp only [f1]
         have f2 : (xs 2) = .slice av k2 cv2 := hd 2 (by decide)
         simp only [f2]
         have f3 : (xs 3) = u12 := hd 3 (by decide)
         simp only [f3]
         have f4 : FD _ (xs 4) gq R3 := hd 4 (by decide)
         have f5 : (xs 5) = .slice (some ⟨gq, 0, none⟩) n n := hd 5 (by decide)
         simp only [f5]
         have f6 : (xs 6) = .int .i64 (i4 : Int) := hd 6 (by decide)
         simp only [f6]
         have f7 : (xs 7) = .pointer (some ⟨gq, i4, none⟩) := hd 7 (by decide)
         simp only [f7]
         have f8 : (xs 8) = .int .i64 (cc : Nat) := hd 8 (by decide)
         simp only [f8]
         have f9 : (xs 9) = .int .i64 (s : Int) := hd 9 (by decide)
         simp only [f9]
         have f10 : (xs 10) = .int .i64 (cs : Int) := hd 10 (by decide)
         simp only [f10]
         have f11 : FD _ (xs 11) gq R3 := hd 11 (by decide)
         have f12 : (xs 12) = .pointer (some ⟨gq, i4, none⟩) := hd 12 (by decide)
         simp only [f12]
         clear hd
         have FR := Lib.hid f11
         clear f4 f11
         rw [← eW.out]
         have hget := HG.out
         go_wp2_with fail
         have hSET : (arr .i64 (upd (qfn Q (i4 + 1)) i4 cc) n).setIfInBounds i4 (.int .i64 (cs : Int)) = arr .i64 (upd (qfn Q (i4 + 1)) i4 cs) n := by rw [arr_set, upd_upd]
         rw [hSET]
         obtain ⟨hd5, hr5⟩ := FD.row (c1 := arr .i64 (upd (qfn Q (i4 + 1)) i4 cs) n) FR.out hrow2
         refine ⟨⟨R3, cs, hcs255, HACS, hd5, FR.out.2, hr5, Below.plus (hbel2.row hgw _ _) (hbel2.row hgw _ _).size u⟩, ?_⟩
         have hm1 : ((wr.row gq 3 (arr .i64 (upd (qfn Q (i4 + 1)) i4 cs) n)).plus u).cell? ⟨gq, i4, none⟩ = some (.int .i64 (cs : Nat)) := by rw [cell_at hr5, arr_get _ _ _ _ hin, upd_at]
         rw [hm1, hcq]
         have := HMEAS.out
         simp [intOf]
         omega
       ·have e7 : e = 7 := by omega
        have hs128 : s = 128 := by rw [HS.out, e7]
        obtain ⟨s2, hs2⟩ : ∃ z, z = 2 * s := ⟨_, rfl⟩
        have e1 : (2 : Int) * (s : Int) = (s2 : Int) := by omega
        have hs256 : (s2 : Int) ≤ 256 := by omega
        have hsl : decide ((s2 : Int) ≤ 128) = false := decide_eq_false (by omega)
        have hdpW := hdp
        clear e7 hs128 hs2
        go_wp2_with fail
        obtain ⟨R3, hR3⟩ : ∃ z, z = R2 - P := ⟨_, rfl⟩
        obtain ⟨cs, hcs⟩ : ∃ z, z = cc + s := ⟨_, rfl⟩
        have hAcs : A = cs * y + R3 := by
         have h3 := HAC.out
         have h4 := HP.out
         rw [hcs, hR3, Nat.add_mul, ← h4]; omega
        have hcs255 : cs ≤ 255 := by
         apply Decidable.byContradiction
         intro h
         have h3 := HAL.out
         have h4 : 256 * y ≤ cs * y := Nat.mul_le_mul_right _ (by omega)
         omega
        have hs1 : 1 ≤ s := by rw [HS.out]; exact Nat.one_le_two_pow
        have HMI := Lib.hid (fun (u : World) (hp : DT (wr.plus u) u12 P) => minus_F _ u12 R2 P R3 gq hR3 hPR (wr.plus u) (HDT2.out.below (World.below_plus _ _)) hp (by omega) (by omega) (Nat.lt_of_lt_of_le hgl2 (World.size_plus _ _)))
        have eW := Lib.hid (World.row_self wr _ _ _ hrow2)
        have hget : (arr .i64 (upd (qfn Q (i4 + 1)) i4 cc) n)[i4]? = some (.int .i64 (cc : Nat)) := by rw [arr_get _ _ _ _ hin, upd_at]
        have ecs : (cc : Int) + (s : Int) = (cs : Int) := by omega
        have HACS := Lib.hid hAcs
        have HMEAS : Hid (cc < cs) := Lib.hid (by omega)
        have HG := Lib.hid hget
        clear hR3 hcs hAcs hs1 hget hdp
        refine wp_region_ufacts_t 13 (fun i v w9 => match i with
         | 0 => v = .slice (some ⟨gq, 0, none⟩) n n
         | 1 => v = .int .i64 (i4 : Int)
         | 2 => v = .slice av k2 cv2
         | 3 => v = u12
         | 4 => FD w9 v gq R3
         | 5 => v = .slice (some ⟨gq, 0, none⟩) n n
         | 6 => v = .int .i64 (i4 : Int)
         | 7 => v = .pointer (some ⟨gq, i4, none⟩)
         | 8 => v = .int .i64 (cc : Nat)
         | 9 => v = .int .i64 (s : Int)
         | 10 => v = .int .i64 (cs : Int)
         | 11 => FD w9 v gq R3
         | 12 => v = .pointer (some ⟨gq, i4, none⟩)
         | _ => True) (by kernel_rfl) (by kernel_rfl) ?_ ?_ ?_
        ·intro i v w1 w2 hb h
         match i, h with
         | 0, h => exact h
         | 1, h => exact h
         | 2, h => exact h
         | 3, h => exact h
         | 4, h => exact FD.below h hb
         | 5, h => exact h
         | 6, h => exact h
         | 7, h => exact h
         | 8, h => exact h
         | 9, h => exact h
         | 10, h => exact h
         | 11, h => exact FD.below h hb
         | 12, h => exact h
         | k + 13, h => exact trivial
        ·simp only [List.take_succ_cons, List.take_zero];
         refine USteps.cons ?_ ?_
         ·intro xs w9 hw hd hu
          have hdpW := hdpW.below hw; (first | (with_reducible have hw2 := World.plus_of_below ((World.below_plus _ _).trans (hw.mono (World.size_plus _ _))); obtain ⟨u, rfl⟩ := hw2) | (obtain ⟨u, rfl⟩ := World.plus_of_below hw))
          simp only [fill, Act.put, List.take_succ_cons, List.take_zero, List.drop_succ_cons, List.drop_zero, Nat.reduceAdd, Nat.zero_add, List.setIfInBounds_toArray, List.set_cons_succ, List.set_cons_zero, if_true, if_false, Nat.reduceEqDiff, reduceIte]
          go_wp2_with fail
          all_goals (first | exact Below.refl _ _ | ((first | refine ⟨?_, _, rfl, rfl⟩ | refine ⟨rfl, ?_, _, rfl, rfl⟩ | refine ⟨?_, rfl⟩); (exact belA)) | exact Fresh.old rfl | exact Fresh.new _ _ _)
         refine USteps.cons ?_ ?_
         ·intro xs w9 hw hd hu
          have hdpW := hdpW.below hw; (first | (with_reducible have hw2 := World.plus_of_below ((World.below_plus _ _).trans (hw.mono (World.size_plus _ _))); obtain ⟨u, rfl⟩ := hw2) | (obtain ⟨u, rfl⟩ := World.plus_of_below hw))
          simp only [fill, Act.put, List.take_succ_cons, List.take_zero, List.drop_succ_cons, List.drop_zero, Nat.reduceAdd, Nat.zero_add, List.setIfInBounds_toArray, List.set_cons_succ, List.set_cons_zero, if_true, if_false, Nat.reduceEqDiff, reduceIte]
          go_wp2_with fail
          all_goals (first | exact Below.refl _ _ | ((first | refine ⟨?_, _, rfl, rfl⟩ | refine ⟨rfl, ?_, _, rfl, rfl⟩ | refine ⟨?_, rfl⟩); (exact belA)) | exact Fresh.old rfl | exact Fresh.new _ _ _)
         refine USteps.cons ?_ ?_
         ·intro xs w9 hw hd hu
          have hdpW := hdpW.below hw; (first | (with_reducible have hw2 := World.plus_of_below ((World.below_plus _ _).trans (hw.mono (World.size_plus _ _))); obtain ⟨u, rfl⟩ := hw2) | (obtain ⟨u, rfl⟩ := World.plus_of_below hw))
          simp only [fill, Act.put, List.take_succ_cons, List.take_zero, List.drop_succ_cons, List.drop_zero, Nat.reduceAdd, Nat.zero_add, List.setIfInBounds_toArray, List.set_cons_succ, List.set_cons_zero, if_true, if_false, Nat.reduceEqDiff, reduceIte]
          have hx11 : xs 11 = .slice av k2 cv2 := (hu 11 _ rfl (by kernel_rfl)).trans rfl
          simp only [hx11]
          go_wp2_with fail
          all_goals (first | exact Below.refl _ _ | ((first | refine ⟨?_, _, rfl, rfl⟩ | refine ⟨rfl, ?_, _, rfl, rfl⟩ | refine ⟨?_, rfl⟩); (exact belA)) | exact Fresh.old rfl | exact Fresh.new _ _ _)
         refine USteps.cons ?_ ?_
         ·intro xs w9 hw hd hu
          have hdpW := hdpW.below hw; (first | (with_reducible have hw2 := World.plus_of_below ((World.below_plus _ _).trans (hw.mono (World.size_plus _ _))); obtain ⟨u, rfl⟩ := hw2) | (obtain ⟨u, rfl⟩ := World.plus_of_below hw))
          simp only [fill, Act.put, List.take_succ_cons, List.take_zero, List.drop_succ_cons, List.drop_zero, Nat.reduceAdd, Nat.zero_add, List.setIfInBounds_toArray, List.set_cons_succ, List.set_cons_zero, if_true, if_false, Nat.reduceEqDiff, reduceIte]
          go_wp2_with fail
          all_goals (first | exact Below.refl _ _ | ((first | refine ⟨?_, _, rfl, rfl⟩ | refine ⟨rfl, ?_, _, rfl, rfl⟩ | refine ⟨?_, rfl⟩); (exact belA)) | exact Fresh.old rfl | exact Fresh.new _ _ _)
         refine USteps.cons ?_ ?_
         ·intro xs w9 hw hd hu
          have hdpW := hdpW.below hw; (first | (with_reducible have hw2 := World.plus_of_below ((World.below_plus _ _).trans (hw.mono (World.size_plus _ _))); obtain ⟨u, rfl⟩ := hw2) | (obtain ⟨u, rfl⟩ := World.plus_of_below hw))
          simp only [fill, Act.put, List.take_succ_cons, List.take_zero, List.drop_succ_cons, List.drop_zero, Nat.reduceAdd, Nat.zero_add, List.setIfInBounds_toArray, List.set_cons_succ, List.set_cons_zero, if_true, if_false, Nat.reduceEqDiff, reduceIte]
          have f2 : (xs 2) = .slice av k2 cv2 := hd 2 (by kernel_rfl); simp only [f2]
          have f3 : (xs 3) = u12 := hd 3 (by kernel_rfl); simp only [f3]
          go_wp2_with (go_at_call 120; refine (HMI.out _ hdpW).mono ?_; rintro e w8 ⟨v, rfl, hdl, hb⟩)
          all_goals (first | exact Below.refl _ _ | exact hb | exact hdl | exact ⟨hb, hdl⟩ | exact ⟨hb, _, rfl, hdl⟩ | exact ⟨rfl, hb, _, rfl, hdl⟩)
         refine USteps.cons ?_ ?_
         ·intro xs w9 hw hd hu
          have hdpW := hdpW.below hw; (first | (with_reducible have hw2 := World.plus_of_below ((World.below_plus _ _).trans (hw.mono (World.size_plus _ _))); obtain ⟨u, rfl⟩ := hw2) | (obtain ⟨u, rfl⟩ := World.plus_of_below hw))
          simp only [fill, Act.put, List.take_succ_cons, List.take_zero, List.drop_succ_cons, List.drop_zero, Nat.reduceAdd, Nat.zero_add, List.setIfInBounds_toArray, List.set_cons_succ, List.set_cons_zero, if_true, if_false, Nat.reduceEqDiff, reduceIte]
          go_wp2_with fail
          all_goals (first | exact Below.refl _ _ | ((first | refine ⟨?_, _, rfl, rfl⟩ | refine ⟨rfl, ?_, _, rfl, rfl⟩ | refine ⟨?_, rfl⟩); (exact belA)) | exact Fresh.old rfl | exact Fresh.new _ _ _)
         refine USteps.cons ?_ ?_
         ·intro xs w9 hw hd hu
          have hdpW := hdpW.below hw; (first | (with_reducible have hw2 := World.plus_of_below ((World.below_plus _ _).trans (hw.mono (World.size_plus _ _))); obtain ⟨u, rfl⟩ := hw2) | (obtain ⟨u, rfl⟩ := World.plus_of_below hw))
          simp only [fill, Act.put, List.take_succ_cons, List.take_zero, List.drop_succ_cons, List.drop_zero, Nat.reduceAdd, Nat.zero_add, List.setIfInBounds_toArray, List.set_cons_succ, List.set_cons_zero, if_true, if_false, Nat.reduceEqDiff, reduceIte]
          go_wp2_with fail
          all_goals (first | exact Below.refl _ _ | ((first | refine ⟨?_, _, rfl, rfl⟩ | refine ⟨rfl, ?_, _, rfl, rfl⟩ | refine ⟨?_, rfl⟩); (exact belA)) | exact Fresh.old rfl | exact Fresh.new _ _ _)
         refine USteps.cons ?_ ?_
         ·intro xs w9 hw hd hu
          have hdpW := hdpW.below hw; (first | (with_reducible have hw2 := World.plus_of_below ((World.below_plus _ _).trans (hw.mono (World.size_plus _ _))); obtain ⟨u, rfl⟩ := hw2) | (obtain ⟨u, rfl⟩ := World.plus_of_below hw))
          simp only [fill, Act.put, List.take_succ_cons, List.take_zero, List.drop_succ_cons, List.drop_zero, Nat.reduceAdd, Nat.zero_add, List.setIfInBounds_toArray, List.set_cons_succ, List.set_cons_zero, if_true, if_false, Nat.reduceEqDiff, reduceIte]
          have f5 : (xs 5) = .slice (some ⟨gq, 0, none⟩) n n := hd 5 (by kernel_rfl); simp only [f5]
          have f6 : (xs 6) = .int .i64 (i4 : Int) := hd 6 (by kernel_rfl); simp only [f6]
          go_wp2_with fail
          all_goals (first | exact Below.refl _ _ | ((first | refine ⟨?_, _, rfl, rfl⟩ | refine ⟨rfl, ?_, _, rfl, rfl⟩ | refine ⟨?_, rfl⟩); (exact belA)) | exact Fresh.old rfl | exact Fresh.new _ _ _)
         refine USteps.cons ?_ ?_
         ·intro xs w9 hw hd hu
          have hdpW := hdpW.below hw; (first | (with_reducible have hw2 := World.plus_of_below ((World.below_plus _ _).trans (hw.mono (World.size_plus _ _))); obtain ⟨u, rfl⟩ := hw2) | (obtain ⟨u, rfl⟩ := World.plus_of_below hw))
          simp only [fill, Act.put, List.take_succ_cons, List.take_zero, List.drop_succ_cons, List.drop_zero, Nat.reduceAdd, Nat.zero_add, List.setIfInBounds_toArray, List.set_cons_succ, List.set_cons_zero, if_true, if_false, Nat.reduceEqDiff, reduceIte]
          have f7 : (xs 7) = .pointer (some ⟨gq, i4, none⟩) := hd 7 (by kernel_rfl); simp only [f7]
          go_wp2_with fail
          all_goals (first | exact Below.refl _ _ | ((first | refine ⟨?_, _, rfl, rfl⟩ | refine ⟨rfl, ?_, _, rfl, rfl⟩ | refine ⟨?_, rfl⟩); (exact belA)) | exact Fresh.old rfl | exact Fresh.new _ _ _)
         refine USteps.cons ?_ ?_
         ·intro xs w9 hw hd hu
          have hdpW := hdpW.below hw; (first | (with_reducible have hw2 := World.plus_of_below ((World.below_plus _ _).trans (hw.mono (World.size_plus _ _))); obtain ⟨u, rfl⟩ := hw2) | (obtain ⟨u, rfl⟩ := World.plus_of_below hw))
          simp only [fill, Act.put, List.take_succ_cons, List.take_zero, List.drop_succ_cons, List.drop_zero, Nat.reduceAdd, Nat.zero_add, List.setIfInBounds_toArray, List.set_cons_succ, List.set_cons_zero, if_true, if_false, Nat.reduceEqDiff, reduceIte]
          go_wp2_with fail
          all_goals (first | exact Below.refl _ _ | ((first | refine ⟨?_, _, rfl, rfl⟩ | refine ⟨rfl, ?_, _, rfl, rfl⟩ | refine ⟨?_, rfl⟩); (exact belA)) | exact Fresh.old rfl | exact Fresh.new _ _ _)
         refine USteps.cons ?_ ?_
         ·intro xs w9 hw hd hu
          have hdpW := hdpW.below hw; (first | (with_reducible have hw2 := World.plus_of_below ((World.below_plus _ _).trans (hw.mono (World.size_plus _ _))); obtain ⟨u, rfl⟩ := hw2) | (obtain ⟨u, rfl⟩ := World.plus_of_below hw))
          simp only [fill, Act.put, List.take_succ_cons, List.take_zero, List.drop_succ_cons, List.drop_zero, Nat.reduceAdd, Nat.zero_add, List.setIfInBounds_toArray, List.set_cons_succ, List.set_cons_zero, if_true, if_false, Nat.reduceEqDiff, reduceIte]
          have f8 : (xs 8) = .int .i64 (cc : Nat) := hd 8 (by kernel_rfl); simp only [f8]
          have f9 : (xs 9) = .int .i64 (s : Int) := hd 9 (by kernel_rfl); simp only [f9]
          go_wp2_with fail
          all_goals (first | exact Below.refl _ _ | ((first | refine ⟨?_, _, rfl, rfl⟩ | refine ⟨rfl, ?_, _, rfl, rfl⟩ | refine ⟨?_, rfl⟩); (exact belA)) | exact Fresh.old rfl | exact Fresh.new _ _ _)
         refine USteps.cons ?_ ?_
         ·intro xs w9 hw hd hu
          have hdpW := hdpW.below hw; (first | (with_reducible have hw2 := World.plus_of_below ((World.below_plus _ _).trans (hw.mono (World.size_plus _ _))); obtain ⟨u, rfl⟩ := hw2) | (obtain ⟨u, rfl⟩ := World.plus_of_below hw))
          simp only [fill, Act.put, List.take_succ_cons, List.take_zero, List.drop_succ_cons, List.drop_zero, Nat.reduceAdd, Nat.zero_add, List.setIfInBounds_toArray, List.set_cons_succ, List.set_cons_zero, if_true, if_false, Nat.reduceEqDiff, reduceIte]
          have f4 : FD _ (xs 4) gq R3 := hd 4 (by kernel_rfl)
          go_wp2_with fail
          all_goals (first | exact Below.refl _ _ | ((first | refine ⟨?_, _, rfl, f4⟩ | refine ⟨rfl, ?_, _, rfl, f4⟩ | refine ⟨?_, f4⟩); (exact belA)) | exact Fresh.old rfl | exact Fresh.new _ _ _)
         refine USteps.cons ?_ ?_
         ·intro xs w9 hw hd hu
          have hdpW := hdpW.below hw; (first | (with_reducible have hw2 := World.plus_of_below ((World.below_plus _ _).trans (hw.mono (World.size_plus _ _))); obtain ⟨u, rfl⟩ := hw2) | (obtain ⟨u, rfl⟩ := World.plus_of_below hw))
          simp only [fill, Act.put, List.take_succ_cons, List.take_zero, List.drop_succ_cons, List.drop_zero, Nat.reduceAdd, Nat.zero_add, List.setIfInBounds_toArray, List.set_cons_succ, List.set_cons_zero, if_true, if_false, Nat.reduceEqDiff, reduceIte]
          have f0 : (xs 0) = .slice (some ⟨gq, 0, none⟩) n n := hd 0 (by kernel_rfl); simp only [f0]
          have f1 : (xs 1) = .int .i64 (i4 : Int) := hd 1 (by kernel_rfl); simp only [f1]
          go_wp2_with fail
          all_goals (first | exact Below.refl _ _ | ((first | refine ⟨?_, _, rfl, rfl⟩ | refine ⟨rfl, ?_, _, rfl, rfl⟩ | refine ⟨?_, rfl⟩); (exact belA)) | exact Fresh.old rfl | exact Fresh.new _ _ _)
         exact USteps.nil
        intro xs w9 hw hd
        have hdpW := hdpW.below hw; (first | (with_reducible have hw2 := World.plus_of_below ((World.below_plus _ _).trans (hw.mono (World.size_plus _ _))); obtain ⟨u, rfl⟩ := hw2) | (obtain ⟨u, rfl⟩ := World.plus_of_below hw))
        simp only [fill, Act.put, List.take_succ_cons, List.take_zero, List.drop_succ_cons, List.drop_zero, Nat.reduceAdd, Nat.zero_add, List.setIfInBounds_toArray, List.set_cons_succ, List.set_cons_zero, if_true, if_false, Nat.reduceEqDiff, reduceIte]
        have f0 : (xs 0) = .slice (some ⟨gq, 0, none⟩) n n := hd 0 (by decide)
        simp only [f0]
        have f1 : (xs 1) = .int .i64 (i4 : Int) := hd 1 (by decide)
        simp only [f1]
        have f2 : (xs 2) = .slice av k2 cv2 := hd 2 (by decide)
        simp only [f2]
        have f3 : (xs 3) = u12 := hd 3 (by decide)
        simp only [f3]
        have f4 : FD _ (xs 4) gq R3 := hd 4 (by decide)
        have f5 : (xs 5) = .slice (some ⟨gq, 0, none⟩) n n := hd 5 (by decide)
        simp only [f5]
        have f6 : (xs 6) = .int .i64 (i4 : Int) := hd 6 (by decide)
        simp only [f6]
        have f7 : (xs 7) = .pointer (some ⟨gq, i4, none⟩) := hd 7 (by decide)
        simp only [f7]
        have f8 : (xs 8) = .int .i64 (cc : Nat) := hd 8 (by decide)
        simp only [f8]
        have f9 : (xs 9) = .int .i64 (s : Int) := hd 9 (by decide)
        simp only [f9]
        have f10 : (xs 10) = .int .i64 (cs : Int) := hd 10 (by decide)
        simp only [f10]
        have f11 : FD _ (xs 11) gq R3 := hd 11 (by decide)
        have f12 : (xs 12) = .pointer (some ⟨gq, i4, none⟩) := hd 12 (by decide)
        simp only [f12]
        clear hd
        have FR := Lib.hid f11
        clear f4 f11
        rw [← eW.out]
        have hget := HG.out
        go_wp2_with fail
        have hSET : (arr .i64 (upd (qfn Q (i4 + 1)) i4 cc) n).setIfInBounds i4 (.int .i64 (cs : Int)) = arr .i64 (upd (qfn Q (i4 + 1)) i4 cs) n := by rw [arr_set, upd_upd]
        rw [hSET]
        obtain ⟨hd5, hr5⟩ := FD.row (c1 := arr .i64 (upd (qfn Q (i4 + 1)) i4 cs) n) FR.out hrow2
        refine ⟨⟨R3, cs, hcs255, HACS, hd5, FR.out.2, hr5, Below.plus (hbel2.row hgw _ _) (hbel2.row hgw _ _).size u⟩, ?_⟩
        have hm1 : ((wr.row gq 3 (arr .i64 (upd (qfn Q (i4 + 1)) i4 cs) n)).plus u).cell? ⟨gq, i4, none⟩ = some (.int .i64 (cs : Nat)) := by rw [cell_at hr5, arr_get _ _ _ _ hin, upd_at]
        rw [hm1, hcq]
        have := HMEAS.out
        simp [intOf]
        omega
     ·have hcd := cmpN_lt2 R2 y (by omega)
      obtain ⟨cm, hcm⟩ : ∃ c, c = cmpN R2 y := ⟨_, rfl⟩
      rw [← hcm] at SC2 hcd
      have hR2y : R2 < y := by omega
      have hcq2 : cc = A / y ∧ R2 = A % y := by
       have h3 := HAC.out
       have e1 : A / y = cc := by rw [h3, Nat.mul_comm, Nat.mul_add_div HY0.out, Nat.div_eq_of_lt hR2y, Nat.add_zero]
       have e2 : A % y = R2 := by rw [h3, Nat.mul_comm, Nat.mul_add_mod, Nat.mod_eq_of_lt hR2y]
       exact ⟨e1.symm, e2.symm⟩
      have HCQ := Lib.hid hcq2
      clear hdt2 hfr3 hk2 hge hcm hcq2
      go_wp2_with fail
      (go_wp2_with fail; refine (SC2.out).mono ?_; rintro e w' ⟨rfl, hb⟩; (first | (with_reducible (have hb2 := World.plus_of_below ((World.below_plus _ _).trans (hb.mono (World.size_plus _ _)))); obtain ⟨u, rfl⟩ := hb2) | (obtain ⟨u, rfl⟩ := World.plus_of_below hb)); clear hb)
      go_wp2_with fail
      have hrow3 : (wr.plus u).heap[gq]? = some (.cells (arr .i64 (qfn Q i4) n) 3 (0, 0)) := by
       rw [World.heap_plus _ _ _ hgl2, hrow2, ← qfn_end Q i4, HAD.out, HCQ.out.1]
      exact ⟨⟨i4, R2, by omega, rfl, Lib.hid (by rw [HAR.out]; exact HCQ.out.2), HDT2.out.below (World.below_plus _ _), HFR3.out, hrow3, hbel2.trans ((World.below_plus _ _).mono hbel2.size)⟩, by first | (simp [intOf]; done) | (simp [intOf]; omega)⟩
   ·rw [← hk] at hcr hrc ⊢
    have HRC := Lib.hid hrc
    clear hdt hA ha hAd hAr hAlt hrc hfr hk
    go_wp2_with (first | (at_builtin; refine wpList_append_own _ rfl _ _ 136 rfl wr.heap.size 3 i0 (.int .i64 0) 1 8 Tryz.underlying136 hi hz0 hz1 hz2 rfl (by decide) _ _ _ rfl hlit ⟨gr, 0, none⟩ k cr (dvals R k) rfl (by rw [dvals_length]; omega) ?j1 ?j2 ?j3 ?j4 ?j5 ?_) | go_in)
    case j1 =>
     intro j v2 hj
     have hjk : j < k := by
      apply Decidable.byContradiction
      intro h
      rw [List.getElem?_eq_none (by rw [dvals_length]; omega)] at hj
      cases hj
     rw [dvals_get R k j hjk] at hj
     have e : (wr.alloc (.cells #[.int .i64 (a : Nat)] 3)).cell? ⟨gr, j, none⟩ = wr.cell? ⟨gr, j, none⟩ := World.cell?_of_block (heap_alloc_old _ _ hgr)
     have e2 : ((⟨gr, 0, none⟩ : Addr).add j) = ⟨gr, j, none⟩ := by unfold Addr.add; split <;> simp_all
     rw [e2, e, HRC.out j hjk]
     exact hj
    case j2 =>
     intro v2 hv2
     unfold dvals at hv2
     rw [List.mem_map] at hv2
     obtain ⟨_, _, rfl⟩ := hv2
     rfl
    case j3 => unfold maxLen; omega
    case j4 => omega
    case j5 => simp
    intro v' w1 hown' hgrow _
    have hown2 : w1.ownsRow wr.heap.size 3 1 v' (k + 1) (dvals A (k + 1)) := by rw [← HDV.out, Nat.add_comm k 1]; exact hown'
    have hb1 : Below wr.heap.size wr w1 := ((Below.refl _ _).alloc (Nat.le_refl _) _).grown hgrow (by simp) fun k' hk' => by cases hk'; exact Nat.le_refl _
    have hrow1 : w1.heap[gq]? = some (.cells (arr .i64 (qfn Q (i4 + 1)) n) 3 (0, 0)) := (hb1.block gq hgl).trans hrow
    have hbel1 : Below w.heap.size w w1 := hbel.trans (hb1.mono hbel.size)
    have HDL := Lib.hid (Dl.of_owned hown2 HAK.out)
    have HFN : Hid (∀ kk, v'.ownBlock = some kk → wr.heap.size ≤ kk) := Lib.hid fun kk h => (hown'.lt kk h).1
    clear hown' hown2 hgrow hb1 hrow hbel hlit
    go_wp2_with fail
    refine (strimF_c _ _ _ _ HDL.out (by omega)).mono ?_
    rintro e w' ⟨vr, rfl, hd2, hfr2, rfl⟩
    have HD2 := Lib.hid hd2
    have HF2 : Hid (∀ kk, vr.ownBlock = some kk → gq < kk) := Lib.hid fun kk h => by have := HFN.out kk (hfr2 kk h); omega
    clear hd2 hfr2
    go_wp2_with fail
    go_loopw [5] (fun rv wx => ∃ R2 cc : Nat, cc ≤ 255 ∧ Hid (A = cc * y + R2) ∧ DT wx rv R2 ∧ (∀ kk, rv.ownBlock = some kk → gq < kk) ∧ wx.heap[gq]? = some (.cells (arr .i64 (upd (qfn Q (i4 + 1)) i4 cc) n) 3 (0, 0)) ∧ Below w.heap.size w wx) (fun _ wx => 256 - (intOf ((wx.cell? ⟨gq, i4, none⟩).getD undef)).toNat)
    case atStart => exact ⟨A, 0, by omega, Lib.hid (by rw [Nat.zero_mul, Nat.zero_add]), HD2.out, HF2.out, by rw [qfn_start]; exact hrow1, hbel1⟩
    case round =>
     obtain ⟨R2, cc, hcc, HAC, hdt2, hfr3, hrow2, hbel2⟩ := hrel
     have hgl2 : gq < wr.heap.size := (Array.getElem?_eq_some_iff.1 hrow2).1
     have hcq : wr.cell? ⟨gq, i4, none⟩ = some (.int .i64 (cc : Nat)) := by rw [cell_at hrow2, arr_get _ _ _ _ hin, upd_at]
     have hR2A : R2 ≤ A := by rw [HAC.out]; omega
     have hR2m : nd 256 R2 ≤ m + 1 := Nat.le_trans (nd_mono 256 (by omega) R2 A hR2A) hAm
     have SC2 := Lib.hid (scompare_c _ _ R2 y wr hdt2 (HY.out wr hbel2) (by omega) (by rw [← HM.out]; omega))
     have HDT2 := Lib.hid hdt2
     have HFR3 := Lib.hid hfr3
     obtain ⟨av, cv2, hvf⟩ := hdt2.lenForm
     subst hvf
     obtain ⟨k2, hk2⟩ : ∃ k2, k2 = nd 256 R2 := ⟨_, rfl⟩
     rw [← hk2] at SC2 HDT2 HFR3 ⊢
     have HK2 := Lib.hid hk2
     by_cases hge : y ≤ R2
     ·have hcl : cc < 255 := by
        apply Decidable.byContradiction
        intro h
        have e : cc = 255 := by omega
        have h3 := HAC.out
        have h4 := HAL.out
        rw [e] at h3
        omega
      have hcd := cmpN_ge2 R2 y hge
      have hcli : (cc : Int) < 255 := by omega
      obtain ⟨cm, hcm⟩ : ∃ c, c = cmpN R2 y := ⟨_, rfl⟩
      rw [← hcm] at SC2 hcd
      have HGE := Lib.hid hge
      clear hdt2 hfr3 hk2 hge hcm
      go_wp2_with fail
      (go_wp2_with fail; refine (SC2.out).mono ?_; rintro e w' ⟨rfl, hb⟩; (first | (with_reducible (have hb2 := World.plus_of_below ((World.below_plus _ _).trans (hb.mono (World.size_plus _ _)))); obtain ⟨u, rfl⟩ := hb2) | (obtain ⟨u, rfl⟩ := World.plus_of_below hb)); clear hb)
      go_wp2_with fail
      go_loopw [11, 12] (fun sv pv wx => ∃ (e s P : Nat) (u' : World), e ≤ 7 ∧ Hid (s = 2 ^ e) ∧ sv = .int .i64 (s : Int) ∧ Hid (P = s * y) ∧ P ≤ R2 ∧ DT wx pv P ∧ wx = wr.plus u') (fun sv _ _ => 256 - (intOf sv).toNat)
      case atStart => exact ⟨0, 1, y, u, by omega, Lib.hid rfl, rfl, Lib.hid (by omega), HGE.out, HY.out _ (hbel2.trans ((World.below_plus _ _).mono hbel2.size)), rfl⟩
      case round =>
       obtain ⟨e, s, P, u', he7, HS, rfl, HP, hPR, hdp, rfl⟩ := hrel
       have hPm : nd 256 P ≤ m + 1 := Nat.le_trans (nd_mono 256 (by omega) P R2 hPR) hR2m
       by_cases he : e < 7
       ·obtain ⟨P2, hP2⟩ : ∃ z, z = P + P := ⟨_, rfl⟩
        obtain ⟨s2, hs2⟩ : ∃ z, z = 2 * s := ⟨_, rfl⟩
        have hs64 : s ≤ 64 := by
         rw [HS.out, show (64 : Nat) = 2 ^ 6 by decide]
         exact Nat.pow_le_pow_right (by omega) (by omega)
        have HS2 : Hid (s2 = 2 ^ (e + 1)) := Lib.hid (by rw [hs2, HS.out, Nat.pow_succ]; omega)
        have HP2 : Hid (P2 = s2 * y) := Lib.hid (by rw [hP2, hs2, HP.out, Nat.mul_assoc, Nat.two_mul])
        have hP2m : nd 256 P2 ≤ m + 2 := by rw [hP2]; exact nd_mul2 P (m + 1) hPm
        have e1 : (2 : Int) * (s : Int) = (s2 : Int) := by omega
        have hsl : (s2 : Int) ≤ 128 := by omega
        have hss : s < s2 := by
         have : 1 ≤ s := by rw [HS.out]; exact Nat.one_le_two_pow
         omega
        have HPL := Lib.hid (fun (u : World) (hp : DT (wr.plus u) u12 P) => splus_c u12 u12 P P P2 hP2 (wr.plus u) hp hp (by omega) (by omega))
        have HSS := Lib.hid hss
        by_cases hle2 : P2 ≤ R2
        ·have hcd2 := cmpN_le1 P2 R2 hle2
         obtain ⟨cm2, hcm2⟩ : ∃ c, c = cmpN P2 R2 := ⟨_, rfl⟩
         have HC2 : Hid (∀ (u : World) (v : Value), DT (wr.plus u) v P2 → Calls Tryz.prog 119 #[v, .slice av k2 cv2] (wr.plus u) fun e w' => e = .returned (.int .i64 cm2) ∧ Below (wr.plus u).heap.size (wr.plus u) w') := Lib.hid fun u v hv => by
          rw [hcm2]; exact scompare_c v _ P2 R2 (wr.plus u) hv (HDT2.out.below (World.below_plus _ _)) (by omega) (by omega)
         rw [← hcm2] at hcd2
         have HDP := Lib.hid hdp
         clear hdp hs2 hP2 hcm2 hss
         go_wp2_with fail
         refine (HPL.out _ HDP.out).mono ?_
         rintro e9 w9 ⟨vp, rfl, hvp, hb9⟩
         obtain ⟨u1, rfl⟩ := World.plus_of_below ((World.below_plus wr u').trans (hb9.mono (World.size_plus _ _)))
         have HVP := Lib.hid hvp
         have HDP1 : Hid (DT (wr.plus u1) u12 P) := Lib.hid (HDP.out.below hb9)
         clear hb9 hvp
         go_wp2_with fail
         refine (HC2.out _ _ HVP.out).mono ?_
         rintro e9 w9 ⟨rfl, hb9⟩
         obtain ⟨u2, rfl⟩ := World.plus_of_below ((World.below_plus wr u1).trans (hb9.mono (World.size_plus _ _)))
         have HDP2 : Hid (DT (wr.plus u2) u12 P) := Lib.hid (HDP1.out.below hb9)
         clear hb9
         go_wp2_with fail
         refine (HPL.out _ HDP2.out).mono ?_
         rintro e9 w9 ⟨vp2, rfl, hvp2, hb9⟩
         obtain ⟨u3, rfl⟩ := World.plus_of_below ((World.below_plus wr u2).trans (hb9.mono (World.size_plus _ _)))
         have HVP2 := Lib.hid hvp2
         clear hb9 hvp2
         go_wp2_with fail
         exact ⟨⟨e + 1, s2, P2, u3, by omega, HS2, by first | rfl | go_num, HP2, hle2, HVP2.out, rfl⟩, by have := HSS.out; first | (simp [intOf]; done) | (simp [intOf]; omega)⟩
        ·have hcd2 := cmpN_le0 P2 R2 (by omega)
         obtain ⟨cm2, hcm2⟩ : ∃ c, c = cmpN P2 R2 := ⟨_, rfl⟩
         have HC2 : Hid (∀ (u : World) (v : Value), DT (wr.plus u) v P2 → Calls Tryz.prog 119 #[v, .slice av k2 cv2] (wr.plus u) fun e w' => e = .returned (.int .i64 cm2) ∧ Below (wr.plus u).heap.size (wr.plus u) w') := Lib.hid fun u v hv => by
          rw [hcm2]; exact scompare_c v _ P2 R2 (wr.plus u) hv (HDT2.out.below (World.below_plus _ _)) (by omega) (by omega)
         rw [← hcm2] at hcd2
         have HDP := Lib.hid hdp
         clear hdp hs2 hP2 hcm2 hss
         go_wp2_with fail
         refine (HPL.out _ HDP.out).mono ?_
         rintro e9 w9 ⟨vp, rfl, hvp, hb9⟩
         obtain ⟨u1, rfl⟩ := World.plus_of_below ((World.below_plus wr u').trans (hb9.mono (World.size_plus _ _)))
         have HVP := Lib.hid hvp
         have HDP1 : Hid (DT (wr.plus u1) u12 P) := Lib.hid (HDP.out.below hb9)
         clear hb9 hvp
         go_wp2_with fail
         refine (HC2.out _ _ HVP.out).mono ?_
         rintro e9 w9 ⟨rfl, hb9⟩
         obtain ⟨u2, rfl⟩ := World.plus_of_below ((World.below_plus wr u1).trans (hb9.mono (World.size_plus _ _)))
         have hdpW : DT (wr.plus u2) u12 P := HDP1.out.below hb9
         have hdp := 0
         clear hb9
         go_wp2_with fail
         obtain ⟨R3, hR3⟩ : ∃ z, z = R2 - P := ⟨_, rfl⟩
         obtain ⟨cs, hcs⟩ : ∃ z, z = cc + s := ⟨_, rfl⟩
         have hAcs : A = cs * y + R3 := by
          have h3 := HAC.out
          have h4 := HP.out
          rw [hcs, hR3, Nat.add_mul, ← h4]; omega
         have hcs255 : cs ≤ 255 := by
          apply Decidable.byContradiction
          intro h
          have h3 := HAL.out
          have h4 : 256 * y ≤ cs * y := Nat.mul_le_mul_right _ (by omega)
          omega
         have hs1 : 1 ≤ s := by rw [HS.out]; exact Nat.one_le_two_pow
         have HMI := Lib.hid (fun (u : World) (hp : DT (wr.plus u) u12 P) => minus_F _ u12 R2 P R3 gq hR3 hPR (wr.plus u) (HDT2.out.below (World.below_plus _ _)) hp (by omega) (by omega) (Nat.lt_of_lt_of_le hgl2 (World.size_plus _ _)))
         have eW := Lib.hid (World.row_self wr _ _ _ hrow2)
         have hget : (arr .i64 (upd (qfn Q (i4 + 1)) i4 cc) n)[i4]? = some (.int .i64 (cc : Nat)) := by rw [arr_get _ _ _ _ hin, upd_at]
         have ecs : (cc : Int) + (s : Int) = (cs : Int) := by omega
         have HACS := Lib.hid hAcs
         have HMEAS : Hid (cc < cs) := Lib.hid (by omega)
         have HG := Lib.hid hget
         clear hR3 hcs hAcs hs1 hget hdp
         refine wp_region_ufacts_t 13 (fun i v w9 => match i with
          | 0 => v = .slice (some ⟨gq, 0, none⟩) n n
          | 1 => v = .int .i64 (i4 : Int)
          | 2 => v = .slice av k2 cv2
          | 3 => v = u12
          | 4 => FD w9 v gq R3
          | 5 => v = .slice (some ⟨gq, 0, none⟩) n n
          | 6 => v = .int .i64 (i4 : Int)
          | 7 => v = .pointer (some ⟨gq, i4, none⟩)
          | 8 => v = .int .i64 (cc : Nat)
          | 9 => v = .int .i64 (s : Int)
          | 10 => v = .int .i64 (cs : Int)
          | 11 => FD w9 v gq R3
          | 12 => v = .pointer (some ⟨gq, i4, none⟩)
          | _ => True) (by kernel_rfl) (by kernel_rfl) ?_ ?_ ?_
         ·intro i v w1 w2 hb h
          match i, h with
          | 0, h => exact h
          | 1, h => exact h
          | 2, h => exact h
          | 3, h => exact h
          | 4, h => exact FD.below h hb
          | 5, h => exact h
          | 6, h => exact h
          | 7, h => exact h
          | 8, h => exact h
          | 9, h => exact h
          | 10, h => exact h
          | 11, h => exact FD.below h hb
          | 12, h => exact h
          | k + 13, h => exact trivial
         ·simp only [List.take_succ_cons, List.take_zero];
          refine USteps.cons ?_ ?_
          ·intro xs w9 hw hd hu
           have hdpW := hdpW.below hw; (first | (with_reducible have hw2 := World.plus_of_below ((World.below_plus _ _).trans (hw.mono (World.size_plus _ _))); obtain ⟨u, rfl⟩ := hw2) | (obtain ⟨u, rfl⟩ := World.plus_of_below hw))
           simp only [fill, Act.put, List.take_succ_cons, List.take_zero, List.drop_succ_cons, List.drop_zero, Nat.reduceAdd, Nat.zero_add, List.setIfInBounds_toArray, List.set_cons_succ, List.set_cons_zero, if_true, if_false, Nat.reduceEqDiff, reduceIte]
           go_wp2_with fail
           all_goals (first | exact Below.refl _ _ | ((first | refine ⟨?_, _, rfl, rfl⟩ | refine ⟨rfl, ?_, _, rfl, rfl⟩ | refine ⟨?_, rfl⟩); (exact belA)) | exact Fresh.old rfl | exact Fresh.new _ _ _)
          refine USteps.cons ?_ ?_
          ·intro xs w9 hw hd hu
           have hdpW := hdpW.below hw; (first | (with_reducible have hw2 := World.plus_of_below ((World.below_plus _ _).trans (hw.mono (World.size_plus _ _))); obtain ⟨u, rfl⟩ := hw2) | (obtain ⟨u, rfl⟩ := World.plus_of_below hw))
           simp only [fill, Act.put, List.take_succ_cons, List.take_zero, List.drop_succ_cons, List.drop_zero, Nat.reduceAdd, Nat.zero_add, List.setIfInBounds_toArray, List.set_cons_succ, List.set_cons_zero, if_true, if_false, Nat.reduceEqDiff, reduceIte]
           go_wp2_with fail
           all_goals (first | exact Below.refl _ _ | ((first | refine ⟨?_, _, rfl, rfl⟩ | refine ⟨rfl, ?_, _, rfl, rfl⟩ | refine ⟨?_, rfl⟩); (exact belA)) | exact Fresh.old rfl | exact Fresh.new _ _ _)
          refine USteps.cons ?_ ?_
          ·intro xs w9 hw hd hu
           have hdpW := hdpW.below hw; (first | (with_reducible have hw2 := World.plus_of_below ((World.below_plus _ _).trans (hw.mono (World.size_plus _ _))); obtain ⟨u, rfl⟩ := hw2) | (obtain ⟨u, rfl⟩ := World.plus_of_below hw))
           simp only [fill, Act.put, List.take_succ_cons, List.take_zero, List.drop_succ_cons, List.drop_zero, Nat.reduceAdd, Nat.zero_add, List.setIfInBounds_toArray, List.set_cons_succ, List.set_cons_zero, if_true, if_false, Nat.reduceEqDiff, reduceIte]
           have hx11 : xs 11 = .slice av k2 cv2 := (hu 11 _ rfl (by kernel_rfl)).trans rfl
           simp only [hx11]
           go_wp2_with fail
           all_goals (first | exact Below.refl _ _ | ((first | refine ⟨?_, _, rfl, rfl⟩ | refine ⟨rfl, ?_, _, rfl, rfl⟩ | refine ⟨?_, rfl⟩); (exact belA)) | exact Fresh.old rfl | exact Fresh.new _ _ _)
          refine USteps.cons ?_ ?_
          ·intro xs w9 hw hd hu
           have hdpW := hdpW.below hw; (first | (with_reducible have hw2 := World.plus_of_below ((World.below_plus _ _).trans (hw.mono (World.size_plus _ _))); obtain ⟨u, rfl⟩ := hw2) | (obtain ⟨u, rfl⟩ := World.plus_of_below hw))
           simp only [fill, Act.put, List.take_succ_cons, List.take_zero, List.drop_succ_cons, List.drop_zero, Nat.reduceAdd, Nat.zero_add, List.setIfInBounds_toArray, List.set_cons_succ, List.set_cons_zero, if_true, if_false, Nat.reduceEqDiff, reduceIte]
           go_wp2_with fail
           all_goals (first | exact Below.refl _ _ | ((first | refine ⟨?_, _, rfl, rfl⟩ | refine ⟨rfl, ?_, _, rfl, rfl⟩ | refine ⟨?_, rfl⟩); (exact belA)) | exact Fresh.old rfl | exact Fresh.new _ _ _)
          refine USteps.cons ?_ ?_
          ·intro xs w9 hw hd hu
           have hdpW := hdpW.below hw; (first | (with_reducible have hw2 := World.plus_of_below ((World.below_plus _ _).trans (hw.mono (World.size_plus _ _))); obtain ⟨u, rfl⟩ := hw2) | (obtain ⟨u, rfl⟩ := World.plus_of_below hw))
           simp only [fill, Act.put, List.take_succ_cons, List.take_zero, List.drop_succ_cons, List.drop_zero, Nat.reduceAdd, Nat.zero_add, List.setIfInBounds_toArray, List.set_cons_succ, List.set_cons_zero, if_true, if_false, Nat.reduceEqDiff, reduceIte]
           have f2 : (xs 2) = .slice av k2 cv2 := hd 2 (by kernel_rfl); simp only [f2]
           have f3 : (xs 3) = u12 := hd 3 (by kernel_rfl); simp only [f3]
           go_wp2_with (go_at_call 120; refine (HMI.out _ hdpW).mono ?_; rintro e w8 ⟨v, rfl, hdl, hb⟩)
           all_goals (first | exact Below.refl _ _ | exact hb | exact hdl | exact ⟨hb, hdl⟩ | exact ⟨hb, _, rfl, hdl⟩ | exact ⟨rfl, hb, _, rfl, hdl⟩)
          refine USteps.cons ?_ ?_
          ·intro xs w9 hw hd hu
           have hdpW := hdpW.below hw; (first | (with_reducible have hw2 := World.plus_of_below ((World.below_plus _ _).trans (hw.mono (World.size_plus _ _))); obtain ⟨u, rfl⟩ := hw2) | (obtain ⟨u, rfl⟩ := World.plus_of_below hw))
           simp only [fill, Act.put, List.take_succ_cons, List.take_zero, List.drop_succ_cons, List.drop_zero, Nat.reduceAdd, Nat.zero_add, List.setIfInBounds_toArray, List.set_cons_succ, List.set_cons_zero, if_true, if_false, Nat.reduceEqDiff, reduceIte]
           go_wp2_with fail
           all_goals (first | exact Below.refl _ _ | ((first | refine ⟨?_, _, rfl, rfl⟩ | refine ⟨rfl, ?_, _, rfl, rfl⟩ | refine ⟨?_, rfl⟩); (exact belA)) | exact Fresh.old rfl | exact Fresh.new _ _ _)
          refine USteps.cons ?_ ?_
          ·intro xs w9 hw hd hu
           have hdpW := hdpW.below hw; (first | (with_reducible have hw2 := World.plus_of_below ((World.below_plus _ _).trans (hw.mono (World.size_plus _ _))); obtain ⟨u, rfl⟩ := hw2) | (obtain ⟨u, rfl⟩ := World.plus_of_below hw))
           simp only [fill, Act.put, List.take_succ_cons, List.take_zero, List.drop_succ_cons, List.drop_zero, Nat.reduceAdd, Nat.zero_add, List.setIfInBounds_toArray, List.set_cons_succ, List.set_cons_zero, if_true, if_false, Nat.reduceEqDiff, reduceIte]
           go_wp2_with fail
           all_goals (first | exact Below.refl _ _ | ((first | refine ⟨?_, _, rfl, rfl⟩ | refine ⟨rfl, ?_, _, rfl, rfl⟩ | refine ⟨?_, rfl⟩); (exact belA)) | exact Fresh.old rfl | exact Fresh.new _ _ _)
          refine USteps.cons ?_ ?_
          ·intro xs w9 hw hd hu
           have hdpW := hdpW.below hw; (first | (with_reducible have hw2 := World.plus_of_below ((World.below_plus _ _).trans (hw.mono (World.size_plus _ _))); obtain ⟨u, rfl⟩ := hw2) | (obtain ⟨u, rfl⟩ := World.plus_of_below hw))
           simp only [fill, Act.put, List.take_succ_cons, List.take_zero, List.drop_succ_cons, List.drop_zero, Nat.reduceAdd, Nat.zero_add, List.setIfInBounds_toArray, List.set_cons_succ, List.set_cons_zero, if_true, if_false, Nat.reduceEqDiff, reduceIte]
           have f5 : (xs 5) = .slice (some ⟨gq, 0, none⟩) n n := hd 5 (by kernel_rfl); simp only [f5]
           have f6 : (xs 6) = .int .i64 (i4 : Int) := hd 6 (by kernel_rfl); simp only [f6]
           go_wp2_with fail
           all_goals (first | exact Below.refl _ _ | ((first | refine ⟨?_, _, rfl, rfl⟩ | refine ⟨rfl, ?_, _, rfl, rfl⟩ | refine ⟨?_, rfl⟩); (exact belA)) | exact Fresh.old rfl | exact Fresh.new _ _ _)
          refine USteps.cons ?_ ?_
          ·intro xs w9 hw hd hu
           have hdpW := hdpW.below hw; (first | (with_reducible have hw2 := World.plus_of_below ((World.below_plus _ _).trans (hw.mono (World.size_plus _ _))); obtain ⟨u, rfl⟩ := hw2) | (obtain ⟨u, rfl⟩ := World.plus_of_below hw))
           simp only [fill, Act.put, List.take_succ_cons, List.take_zero, List.drop_succ_cons, List.drop_zero, Nat.reduceAdd, Nat.zero_add, List.setIfInBounds_toArray, List.set_cons_succ, List.set_cons_zero, if_true, if_false, Nat.reduceEqDiff, reduceIte]
           have f7 : (xs 7) = .pointer (some ⟨gq, i4, none⟩) := hd 7 (by kernel_rfl); simp only [f7]
           go_wp2_with fail
           all_goals (first | exact Below.refl _ _ | ((first | refine ⟨?_, _, rfl, rfl⟩ | refine ⟨rfl, ?_, _, rfl, rfl⟩ | refine ⟨?_, rfl⟩); (exact belA)) | exact Fresh.old rfl | exact Fresh.new _ _ _)
          refine USteps.cons ?_ ?_
          ·intro xs w9 hw hd hu
           have hdpW := hdpW.below hw; (first | (with_reducible have hw2 := World.plus_of_below ((World.below_plus _ _).trans (hw.mono (World.size_plus _ _))); obtain ⟨u, rfl⟩ := hw2) | (obtain ⟨u, rfl⟩ := World.plus_of_below hw))
           simp only [fill, Act.put, List.take_succ_cons, List.take_zero, List.drop_succ_cons, List.drop_zero, Nat.reduceAdd, Nat.zero_add, List.setIfInBounds_toArray, List.set_cons_succ, List.set_cons_zero, if_true, if_false, Nat.reduceEqDiff, reduceIte]
           go_wp2_with fail
           all_goals (first | exact Below.refl _ _ | ((first | refine ⟨?_, _, rfl, rfl⟩ | refine ⟨rfl, ?_, _, rfl, rfl⟩ | refine ⟨?_, rfl⟩); (exact belA)) | exact Fresh.old rfl | exact Fresh.new _ _ _)
          refine USteps.cons ?_ ?_
          ·intro xs w9 hw hd hu
           have hdpW := hdpW.below hw; (first | (with_reducible have hw2 := World.plus_of_below ((World.below_plus _ _).trans (hw.mono (World.size_plus _ _))); obtain ⟨u, rfl⟩ := hw2) | (obtain ⟨u, rfl⟩ := World.plus_of_below hw))
           simp only [fill, Act.put, List.take_succ_cons, List.take_zero, List.drop_succ_cons, List.drop_zero, Nat.reduceAdd, Nat.zero_add, List.setIfInBounds_toArray, List.set_cons_succ, List.set_cons_zero, if_true, if_false, Nat.reduceEqDiff, reduceIte]
           have f8 : (xs 8) = .int .i64 (cc : Nat) := hd 8 (by kernel_rfl); simp only [f8]
           have f9 : (xs 9) = .int .i64 (s : Int) := hd 9 (by kernel_rfl); simp only [f9]
           go_wp2_with fail
           all_goals (first | exact Below.refl _ _ | ((first | refine ⟨?_, _, rfl, rfl⟩ | refine ⟨rfl, ?_, _, rfl, rfl⟩ | refine ⟨?_, rfl⟩); (exact belA)) | exact Fresh.old rfl | exact Fresh.new _ _ _)
          refine USteps.cons ?_ ?_
          ·intro xs w9 hw hd hu
           have hdpW := hdpW.below hw; (first | (with_reducible have hw2 := World.plus_of_below ((World.below_plus _ _).trans (hw.mono (World.size_plus _ _))); obtain ⟨u, rfl⟩ := hw2) | (obtain ⟨u, rfl⟩ := World.plus_of_below hw))
           simp only [fill, Act.put, List.take_succ_cons, List.take_zero, List.drop_succ_cons, List.drop_zero, Nat.reduceAdd, Nat.zero_add, List.setIfInBounds_toArray, List.set_cons_succ, List.set_cons_zero, if_true, if_false, Nat.reduceEqDiff, reduceIte]
           have f4 : FD _ (xs 4) gq R3 := hd 4 (by kernel_rfl)
           go_wp2_with fail
           all_goals (first | exact Below.refl _ _ | ((first | refine ⟨?_, _, rfl, f4⟩ | refine ⟨rfl, ?_, _, rfl, f4⟩ | refine ⟨?_, f4⟩); (exact belA)) | exact Fresh.old rfl | exact Fresh.new _ _ _)
          refine USteps.cons ?_ ?_
          ·intro xs w9 hw hd hu
           have hdpW := hdpW.below hw; (first | (with_reducible have hw2 := World.plus_of_below ((World.below_plus _ _).trans (hw.mono (World.size_plus _ _))); obtain ⟨u, rfl⟩ := hw2) | (obtain ⟨u, rfl⟩ := World.plus_of_below hw))
           simp only [fill, Act.put, List.take_succ_cons, List.take_zero, List.drop_succ_cons, List.drop_zero, Nat.reduceAdd, Nat.zero_add, List.setIfInBounds_toArray, List.set_cons_succ, List.set_cons_zero, if_true, if_false, Nat.reduceEqDiff, reduceIte]
           have f0 : (xs 0) = .slice (some ⟨gq, 0, none⟩) n n := hd 0 (by kernel_rfl); simp only [f0]
           have f1 : (xs 1) = .int .i64 (i4 : Int) := hd 1 (by kernel_rfl); simp only [f1]
           go_wp2_with fail
           all_goals (first | exact Below.refl _ _ | ((first | refine ⟨?_, _, rfl, rfl⟩ | refine ⟨rfl, ?_, _, rfl, rfl⟩ | refine ⟨?_, rfl⟩); (exact belA)) | exact Fresh.old rfl | exact Fresh.new _ _ _)
          exact USteps.nil
         intro xs w9 hw hd
         have hdpW := hdpW.below hw; (first | (with_reducible have hw2 := World.plus_of_below ((World.below_plus _ _).trans (hw.mono (World.size_plus _ _))); obtain ⟨u, rfl⟩ := hw2) | (obtain ⟨u, rfl⟩ := World.plus_of_below hw))
         simp only [fill, Act.put, List.take_succ_cons, List.take_zero, List.drop_succ_cons, List.drop_zero, Nat.reduceAdd, Nat.zero_add, List.setIfInBounds_toArray, List.set_cons_succ, List.set_cons_zero, if_true, if_false, Nat.reduceEqDiff, reduceIte]
         have f0 : (xs 0) = .slice (some ⟨gq, 0, none⟩) n n := hd 0 (by decide)
         simp only [f0]
         have f1 : (xs 1) = .int .i64 (i4 : Int) := hd 1 (by decide)
         simp only [f1]
         have f2 : (xs 2) = .slice av k2 cv2 := hd 2 (by decide)
         simp only [f2]
         have f3 : (xs 3) = u12 := hd 3 (by decide)
         simp only [f3]
         have f4 : FD _ (xs 4) gq R3 := hd 4 (by decide)
         have f5 : (xs 5) = .slice (some ⟨gq, 0, none⟩) n n := hd 5 (by decide)
         simp only [f5]
         have f6 : (xs 6) = .int .i64 (i4 : Int) := hd 6 (by decide)
         simp only [f6]
         have f7 : (xs 7) = .pointer (some ⟨gq, i4, none⟩) := hd 7 (by decide)
         simp only [f7]
         have f8 : (xs 8) = .int .i64 (cc : Nat) := hd 8 (by decide)
         simp only [f8]
         have f9 : (xs 9) = .int .i64 (s : Int) := hd 9 (by decide)
         simp only [f9]
         have f10 : (xs 10) = .int .i64 (cs : Int) := hd 10 (by decide)
         simp only [f10]
         have f11 : FD _ (xs 11) gq R3 := hd 11 (by decide)
         have f12 : (xs 12) = .pointer (some ⟨gq, i4, none⟩) := hd 12 (by decide)
         simp only [f12]
         clear hd
         have FR := Lib.hid f11
         clear f4 f11
         rw [← eW.out]
         have hget := HG.out
         go_wp2_with fail
         have hSET : (arr .i64 (upd (qfn Q (i4 + 1)) i4 cc) n).setIfInBounds i4 (.int .i64 (cs : Int)) = arr .i64 (upd (qfn Q (i4 + 1)) i4 cs) n := by rw [arr_set, upd_upd]
         rw [hSET]
         obtain ⟨hd5, hr5⟩ := FD.row (c1 := arr .i64 (upd (qfn Q (i4 + 1)) i4 cs) n) FR.out hrow2
         refine ⟨⟨R3, cs, hcs255, HACS, hd5, FR.out.2, hr5, Below.plus (hbel2.row hgw _ _) (hbel2.row hgw _ _).size u⟩, ?_⟩
         have hm1 : ((wr.row gq 3 (arr .i64 (upd (qfn Q (i4 + 1)) i4 cs) n)).plus u).cell? ⟨gq, i4, none⟩ = some (.int .i64 (cs : Nat)) := by rw [cell_at hr5, arr_get _ _ _ _ hin, upd_at]
         rw [hm1, hcq]
         have := HMEAS.out
         simp [intOf]
         omega
       ·have e7 : e = 7 := by omega
        have hs128 : s = 128 := by rw [HS.out, e7]
        obtain ⟨s2, hs2⟩ : ∃ z, z = 2 * s := ⟨_, rfl⟩
        have e1 : (2 : Int) * (s : Int) = (s2 : Int) := by omega
        have hs256 : (s2 : Int) ≤ 256 := by omega
        have hsl : decide ((s2 : Int) ≤ 128) = false := decide_eq_false (by omega)
        have hdpW := hdp
        clear e7 hs128 hs2
        go_wp2_with fail
        obtain ⟨R3, hR3⟩ : ∃ z, z = R2 - P := ⟨_, rfl⟩
        obtain ⟨cs, hcs⟩ : ∃ z, z = cc + s := ⟨_, rfl⟩
        have hAcs : A = cs * y + R3 := by
         have h3 := HAC.out
         have h4 := HP.out
         rw [hcs, hR3, Nat.add_mul, ← h4]; omega
        have hcs255 : cs ≤ 255 := by
         apply Decidable.byContradiction
         intro h
         have h3 := HAL.out
         have h4 : 256 * y ≤ cs * y := Nat.mul_le_mul_right _ (by omega)
         omega
        have hs1 : 1 ≤ s := by rw [HS.out]; exact Nat.one_le_two_pow
        have HMI := Lib.hid (fun (u : World) (hp : DT (wr.plus u) u12 P) => minus_F _ u12 R2 P R3 gq hR3 hPR (wr.plus u) (HDT2.out.below (World.below_plus _ _)) hp (by omega) (by omega) (Nat.lt_of_lt_of_le hgl2 (World.size_plus _ _)))
        have eW := Lib.hid (World.row_self wr _ _ _ hrow2)
        have hget : (arr .i64 (upd (qfn Q (i4 + 1)) i4 cc) n)[i4]? = some (.int .i64 (cc : Nat)) := by rw [arr_get _ _ _ _ hin, upd_at]
        have ecs : (cc : Int) + (s : Int) = (cs : Int) := by omega
        have HACS := Lib.hid hAcs
        have HMEAS : Hid (cc < cs) := Lib.hid (by omega)
        have HG := Lib.hid hget
        clear hR3 hcs hAcs hs1 hget hdp
        refine wp_region_ufacts_t 13 (fun i v w9 => match i with
         | 0 => v = .slice (some ⟨gq, 0, none⟩) n n
         | 1 => v = .int .i64 (i4 : Int)
         | 2 => v = .slice av k2 cv2
         | 3 => v = u12
         | 4 => FD w9 v gq R3
         | 5 => v = .slice (some ⟨gq, 0, none⟩) n n
         | 6 => v = .int .i64 (i4 : Int)
         | 7 => v = .pointer (some ⟨gq, i4, none⟩)
         | 8 => v = .int .i64 (cc : Nat)
         | 9 => v = .int .i64 (s : Int)
         | 10 => v = .int .i64 (cs : Int)
         | 11 => FD w9 v gq R3
         | 12 => v = .pointer (some ⟨gq, i4, none⟩)
         | _ => True) (by kernel_rfl) (by kernel_rfl) ?_ ?_ ?_
        ·intro i v w1 w2 hb h
         match i, h with
         | 0, h => exact h
         | 1, h => exact h
         | 2, h => exact h
         | 3, h => exact h
         | 4, h => exact FD.below h hb
         | 5, h => exact h
         | 6, h => exact h
         | 7, h => exact h
         | 8, h => exact h
         | 9, h => exact h
         | 10, h => exact h
         | 11, h => exact FD.below h hb
         | 12, h => exact h
         | k + 13, h => exact trivial
        ·simp only [List.take_succ_cons, List.take_zero];
         refine USteps.cons ?_ ?_
         ·intro xs w9 hw hd hu
          have hdpW := hdpW.below hw; (first | (with_reducible have hw2 := World.plus_of_below ((World.below_plus _ _).trans (hw.mono (World.size_plus _ _))); obtain ⟨u, rfl⟩ := hw2) | (obtain ⟨u, rfl⟩ := World.plus_of_below hw))
          simp only [fill, Act.put, List.take_succ_cons, List.take_zero, List.drop_succ_cons, List.drop_zero, Nat.reduceAdd, Nat.zero_add, List.setIfInBounds_toArray, List.set_cons_succ, List.set_cons_zero, if_true, if_false, Nat.reduceEqDiff, reduceIte]
          go_wp2_with fail
          all_goals (first | exact Below.refl _ _ | ((first | refine ⟨?_, _, rfl, rfl⟩ | refine ⟨rfl, ?_, _, rfl, rfl⟩ | refine ⟨?_, rfl⟩); (exact belA)) | exact Fresh.old rfl | exact Fresh.new _ _ _)
         refine USteps.cons ?_ ?_
         ·intro xs w9 hw hd hu
          have hdpW := hdpW.below hw; (first | (with_reducible have hw2 := World.plus_of_below ((World.below_plus _ _).trans (hw.mono (World.size_plus _ _))); obtain ⟨u, rfl⟩ := hw2) | (obtain ⟨u, rfl⟩ := World.plus_of_below hw))
          simp only [fill, Act.put, List.take_succ_cons, List.take_zero, List.drop_succ_cons, List.drop_zero, Nat.reduceAdd, Nat.zero_add, List.setIfInBounds_toArray, List.set_cons_succ, List.set_cons_zero, if_true, if_false, Nat.reduceEqDiff, reduceIte]
          go_wp2_with fail
          all_goals (first | exact Below.refl _ _ | ((first | refine ⟨?_, _, rfl, rfl⟩ | refine ⟨rfl, ?_, _, rfl, rfl⟩ | refine ⟨?_, rfl⟩); (exact belA)) | exact Fresh.old rfl | exact Fresh.new _ _ _)
         refine USteps.cons ?_ ?_
         ·intro xs w9 hw hd hu
          have hdpW := hdpW.below hw; (first | (with_reducible have hw2 := World.plus_of_below ((World.below_plus _ _).trans (hw.mono (World.size_plus _ _))); obtain ⟨u, rfl⟩ := hw2) | (obtain ⟨u, rfl⟩ := World.plus_of_below hw))
          simp only [fill, Act.put, List.take_succ_cons, List.take_zero, List.drop_succ_cons, List.drop_zero, Nat.reduceAdd, Nat.zero_add, List.setIfInBounds_toArray, List.set_cons_succ, List.set_cons_zero, if_true, if_false, Nat.reduceEqDiff, reduceIte]
          have hx11 : xs 11 = .slice av k2 cv2 := (hu 11 _ rfl (by kernel_rfl)).trans rfl
          simp only [hx11]
          go_wp2_with fail
          all_goals (first | exact Below.refl _ _ | ((first | refine ⟨?_, _, rfl, rfl⟩ | refine ⟨rfl, ?_, _, rfl, rfl⟩ | refine ⟨?_, rfl⟩); (exact belA)) | exact Fresh.old rfl | exact Fresh.new _ _ _)
         refine USteps.cons ?_ ?_
         ·intro xs w9 hw hd hu
          have hdpW := hdpW.below hw; (first | (with_reducible have hw2 := World.plus_of_below ((World.below_plus _ _).trans (hw.mono (World.size_plus _ _))); obtain ⟨u, rfl⟩ := hw2) | (obtain ⟨u, rfl⟩ := World.plus_of_below hw))
          simp only [fill, Act.put, List.take_succ_cons, List.take_zero, List.drop_succ_cons, List.drop_zero, Nat.reduceAdd, Nat.zero_add, List.setIfInBounds_toArray, List.set_cons_succ, List.set_cons_zero, if_true, if_false, Nat.reduceEqDiff, reduceIte]
          go_wp2_with fail
          all_goals (first | exact Below.refl _ _ | ((first | refine ⟨?_, _, rfl, rfl⟩ | refine ⟨rfl, ?_, _, rfl, rfl⟩ | refine ⟨?_, rfl⟩); (exact belA)) | exact Fresh.old rfl | exact Fresh.new _ _ _)
         refine USteps.cons ?_ ?_
         ·intro xs w9 hw hd hu
          have hdpW := hdpW.below hw; (first | (with_reducible have hw2 := World.plus_of_below ((World.below_plus _ _).trans (hw.mono (World.size_plus _ _))); obtain ⟨u, rfl⟩ := hw2) | (obtain ⟨u, rfl⟩ := World.plus_of_below hw))
          simp only [fill, Act.put, List.take_succ_cons, List.take_zero, List.drop_succ_cons, List.drop_zero, Nat.reduceAdd, Nat.zero_add, List.setIfInBounds_toArray, List.set_cons_succ, List.set_cons_zero, if_true, if_false, Nat.reduceEqDiff, reduceIte]
          have f2 : (xs 2) = .slice av k2 cv2 := hd 2 (by kernel_rfl); simp only [f2]
          have f3 : (xs 3) = u12 := hd 3 (by kernel_rfl); simp only [f3]
          go_wp2_with (go_at_call 120; refine (HMI.out _ hdpW).mono ?_; rintro e w8 ⟨v, rfl, hdl, hb⟩)
          all_goals (first | exact Below.refl _ _ | exact hb | exact hdl | exact ⟨hb, hdl⟩ | exact ⟨hb, _, rfl, hdl⟩ | exact ⟨rfl, hb, _, rfl, hdl⟩)
         refine USteps.cons ?_ ?_
         ·intro xs w9 hw hd hu
          have hdpW := hdpW.below hw; (first | (with_reducible have hw2 := World.plus_of_below ((World.below_plus _ _).trans (hw.mono (World.size_plus _ _))); obtain ⟨u, rfl⟩ := hw2) | (obtain ⟨u, rfl⟩ := World.plus_of_below hw))
          simp only [fill, Act.put, List.take_succ_cons, List.take_zero, List.drop_succ_cons, List.drop_zero, Nat.reduceAdd, Nat.zero_add, List.setIfInBounds_toArray, List.set_cons_succ, List.set_cons_zero, if_true, if_false, Nat.reduceEqDiff, reduceIte]
          go_wp2_with fail
          all_goals (first | exact Below.refl _ _ | ((first | refine ⟨?_, _, rfl, rfl⟩ | refine ⟨rfl, ?_, _, rfl, rfl⟩ | refine ⟨?_, rfl⟩); (exact belA)) | exact Fresh.old rfl | exact Fresh.new _ _ _)
         refine USteps.cons ?_ ?_
         ·intro xs w9 hw hd hu
          have hdpW := hdpW.below hw; (first | (with_reducible have hw2 := World.plus_of_below ((World.below_plus _ _).trans (hw.mono (World.size_plus _ _))); obtain ⟨u, rfl⟩ := hw2) | (obtain ⟨u, rfl⟩ := World.plus_of_below hw))
          simp only [fill, Act.put, List.take_succ_cons, List.take_zero, List.drop_succ_cons, List.drop_zero, Nat.reduceAdd, Nat.zero_add, List.setIfInBounds_toArray, List.set_cons_succ, List.set_cons_zero, if_true, if_false, Nat.reduceEqDiff, reduceIte]
          go_wp2_with fail
          all_goals (first | exact Below.refl _ _ | ((first | refine ⟨?_, _, rfl, rfl⟩ | refine ⟨rfl, ?_, _, rfl, rfl⟩ | refine ⟨?_, rfl⟩); (exact belA)) | exact Fresh.old rfl | exact Fresh.new _ _ _)
         refine USteps.cons ?_ ?_
         ·intro xs w9 hw hd hu
          have hdpW := hdpW.below hw; (first | (with_reducible have hw2 := World.plus_of_below ((World.below_plus _ _).trans (hw.mono (World.size_plus _ _))); obtain ⟨u, rfl⟩ := hw2) | (obtain ⟨u, rfl⟩ := World.plus_of_below hw))
          simp only [fill, Act.put, List.take_succ_cons, List.take_zero, List.drop_succ_cons, List.drop_zero, Nat.reduceAdd, Nat.zero_add, List.setIfInBounds_toArray, List.set_cons_succ, List.set_cons_zero, if_true, if_false, Nat.reduceEqDiff, reduceIte]
          have f5 : (xs 5) = .slice (some ⟨gq, 0, none⟩) n n := hd 5 (by kernel_rfl); simp only [f5]
          have f6 : (xs 6) = .int .i64 (i4 : Int) := hd 6 (by kernel_rfl); simp only [f6]
          go_wp2_with fail
          all_goals (first | exact Below.refl _ _ | ((first | refine ⟨?_, _, rfl, rfl⟩ | refine ⟨rfl, ?_, _, rfl, rfl⟩ | refine ⟨?_, rfl⟩); (exact belA)) | exact Fresh.old rfl | exact Fresh.new _ _ _)
         refine USteps.cons ?_ ?_
         ·intro xs w9 hw hd hu
          have hdpW := hdpW.below hw; (first | (with_reducible have hw2 := World.plus_of_below ((World.below_plus _ _).trans (hw.mono (World.size_plus _ _))); obtain ⟨u, rfl⟩ := hw2) | (obtain ⟨u, rfl⟩ := World.plus_of_below hw))
          simp only [fill, Act.put, List.take_succ_cons, List.take_zero, List.drop_succ_cons, List.drop_zero, Nat.reduceAdd, Nat.zero_add, List.setIfInBounds_toArray, List.set_cons_succ, List.set_cons_zero, if_true, if_false, Nat.reduceEqDiff, reduceIte]
          have f7 : (xs 7) = .pointer (some ⟨gq, i4, none⟩) := hd 7 (by kernel_rfl); simp only [f7]
          go_wp2_with fail
          all_goals (first | exact Below.refl _ _ | ((first | refine ⟨?_, _, rfl, rfl⟩ | refine ⟨rfl, ?_, _, rfl, rfl⟩ | refine ⟨?_, rfl⟩); (exact belA)) | exact Fresh.old rfl | exact Fresh.new _ _ _)
         refine USteps.cons ?_ ?_
         ·intro xs w9 hw hd hu
          have hdpW := hdpW.below hw; (first | (with_reducible have hw2 := World.plus_of_below ((World.below_plus _ _).trans (hw.mono (World.size_plus _ _))); obtain ⟨u, rfl⟩ := hw2) | (obtain ⟨u, rfl⟩ := World.plus_of_below hw))
          simp only [fill, Act.put, List.take_succ_cons, List.take_zero, List.drop_succ_cons, List.drop_zero, Nat.reduceAdd, Nat.zero_add, List.setIfInBounds_toArray, List.set_cons_succ, List.set_cons_zero, if_true, if_false, Nat.reduceEqDiff, reduceIte]
          go_wp2_with fail
          all_goals (first | exact Below.refl _ _ | ((first | refine ⟨?_, _, rfl, rfl⟩ | refine ⟨rfl, ?_, _, rfl, rfl⟩ | refine ⟨?_, rfl⟩); (exact belA)) | exact Fresh.old rfl | exact Fresh.new _ _ _)
         refine USteps.cons ?_ ?_
         ·intro xs w9 hw hd hu
          have hdpW := hdpW.below hw; (first | (with_reducible have hw2 := World.plus_of_below ((World.below_plus _ _).trans (hw.mono (World.size_plus _ _))); obtain ⟨u, rfl⟩ := hw2) | (obtain ⟨u, rfl⟩ := World.plus_of_below hw))
          simp only [fill, Act.put, List.take_succ_cons, List.take_zero, List.drop_succ_cons, List.drop_zero, Nat.reduceAdd, Nat.zero_add, List.setIfInBounds_toArray, List.set_cons_succ, List.set_cons_zero, if_true, if_false, Nat.reduceEqDiff, reduceIte]
          have f8 : (xs 8) = .int .i64 (cc : Nat) := hd 8 (by kernel_rfl); simp only [f8]
          have f9 : (xs 9) = .int .i64 (s : Int) := hd 9 (by kernel_rfl); simp only [f9]
          go_wp2_with fail
          all_goals (first | exact Below.refl _ _ | ((first | refine ⟨?_, _, rfl, rfl⟩ | refine ⟨rfl, ?_, _, rfl, rfl⟩ | refine ⟨?_, rfl⟩); (exact belA)) | exact Fresh.old rfl | exact Fresh.new _ _ _)
         refine USteps.cons ?_ ?_
         ·intro xs w9 hw hd hu
          have hdpW := hdpW.below hw; (first | (with_reducible have hw2 := World.plus_of_below ((World.below_plus _ _).trans (hw.mono (World.size_plus _ _))); obtain ⟨u, rfl⟩ := hw2) | (obtain ⟨u, rfl⟩ := World.plus_of_below hw))
          simp only [fill, Act.put, List.take_succ_cons, List.take_zero, List.drop_succ_cons, List.drop_zero, Nat.reduceAdd, Nat.zero_add, List.setIfInBounds_toArray, List.set_cons_succ, List.set_cons_zero, if_true, if_false, Nat.reduceEqDiff, reduceIte]
          have f4 : FD _ (xs 4) gq R3 := hd 4 (by kernel_rfl)
          go_wp2_with fail
          all_goals (first | exact Below.refl _ _ | ((first | refine ⟨?_, _, rfl, f4⟩ | refine ⟨rfl, ?_, _, rfl, f4⟩ | refine ⟨?_, f4⟩); (exact belA)) | exact Fresh.old rfl | exact Fresh.new _ _ _)
         refine USteps.cons ?_ ?_
         ·intro xs w9 hw hd hu
          have hdpW := hdpW.below hw; (first | (with_reducible have hw2 := World.plus_of_below ((World.below_plus _ _).trans (hw.mono (World.size_plus _ _))); obtain ⟨u, rfl⟩ := hw2) | (obtain ⟨u, rfl⟩ := World.plus_of_below hw))
          simp only [fill, Act.put, List.take_succ_cons, List.take_zero, List.drop_succ_cons, List.drop_zero, Nat.reduceAdd, Nat.zero_add, List.setIfInBounds_toArray, List.set_cons_succ, List.set_cons_zero, if_true, if_false, Nat.reduceEqDiff, reduceIte]
          have f0 : (xs 0) = .slice (some ⟨gq, 0, none⟩) n n := hd 0 (by kernel_rfl); simp only [f0]
          have f1 : (xs 1) = .int .i64 (i4 : Int) := hd 1 (by kernel_rfl); simp only [f1]
          go_wp2_with fail
          all_goals (first | exact Below.refl _ _ | ((first | refine ⟨?_, _, rfl, rfl⟩ | refine ⟨rfl, ?_, _, rfl, rfl⟩ | refine ⟨?_, rfl⟩); (exact belA)) | exact Fresh.old rfl | exact Fresh.new _ _ _)
         exact USteps.nil
        intro xs w9 hw hd
        have hdpW := hdpW.below hw; (first | (with_reducible have hw2 := World.plus_of_below ((World.below_plus _ _).trans (hw.mono (World.size_plus _ _))); obtain ⟨u, rfl⟩ := hw2) | (obtain ⟨u, rfl⟩ := World.plus_of_below hw))
        simp only [fill, Act.put, List.take_succ_cons, List.take_zero, List.drop_succ_cons, List.drop_zero, Nat.reduceAdd, Nat.zero_add, List.setIfInBounds_toArray, List.set_cons_succ, List.set_cons_zero, if_true, if_false, Nat.reduceEqDiff, reduceIte]
        have f0 : (xs 0) = .slice (some ⟨gq, 0, none⟩) n n := hd 0 (by decide)
        simp only [f0]
        have f1 : (xs 1) = .int .i64 (i4 : Int) := hd 1 (by decide)
        simp only [f1]
        have f2 : (xs 2) = .slice av k2 cv2 := hd 2 (by decide)
        simp only [f2]
        have f3 : (xs 3) = u12 := hd 3 (by decide)
        simp only [f3]
        have f4 : FD _ (xs 4) gq R3 := hd 4 (by decide)
        have f5 : (xs 5) = .slice (some ⟨gq, 0, none⟩) n n := hd 5 (by decide)
        simp only [f5]
        have f6 : (xs 6) = .int .i64 (i4 : Int) := hd 6 (by decide)
        simp only [f6]
        have f7 : (xs 7) = .pointer (some ⟨gq, i4, none⟩) := hd 7 (by decide)
        simp only [f7]
        have f8 : (xs 8) = .int .i64 (cc : Nat) := hd 8 (by decide)
        simp only [f8]
        have f9 : (xs 9) = .int .i64 (s : Int) := hd 9 (by decide)
        simp only [f9]
        have f10 : (xs 10) = .int .i64 (cs : Int) := hd 10 (by decide)
        simp only [f10]
        have f11 : FD _ (xs 11) gq R3 := hd 11 (by decide)
        have f12 : (xs 12) = .pointer (some ⟨gq, i4, none⟩) := hd 12 (by decide)
        simp only [f12]
        clear hd
        have FR := Lib.hid f11
        clear f4 f11
        rw [← eW.out]
        have hget := HG.out
        go_wp2_with fail
        have hSET : (arr .i64 (upd (qfn Q (i4 + 1)) i4 cc) n).setIfInBounds i4 (.int .i64 (cs : Int)) = arr .i64 (upd (qfn Q (i4 + 1)) i4 cs) n := by rw [arr_set, upd_upd]
        rw [hSET]
        obtain ⟨hd5, hr5⟩ := FD.row (c1 := arr .i64 (upd (qfn Q (i4 + 1)) i4 cs) n) FR.out hrow2
        refine ⟨⟨R3, cs, hcs255, HACS, hd5, FR.out.2, hr5, Below.plus (hbel2.row hgw _ _) (hbel2.row hgw _ _).size u⟩, ?_⟩
        have hm1 : ((wr.row gq 3 (arr .i64 (upd (qfn Q (i4 + 1)) i4 cs) n)).plus u).cell? ⟨gq, i4, none⟩ = some (.int .i64 (cs : Nat)) := by rw [cell_at hr5, arr_get _ _ _ _ hin, upd_at]
        rw [hm1, hcq]
        have := HMEAS.out
        simp [intOf]
        omega
     ·have hcd := cmpN_lt2 R2 y (by omega)
      obtain ⟨cm, hcm⟩ : ∃ c, c = cmpN R2 y := ⟨_, rfl⟩
      rw [← hcm] at SC2 hcd
      have hR2y : R2 < y := by omega
      have hcq2 : cc = A / y ∧ R2 = A % y := by
       have h3 := HAC.out
       have e1 : A / y = cc := by rw [h3, Nat.mul_comm, Nat.mul_add_div HY0.out, Nat.div_eq_of_lt hR2y, Nat.add_zero]
       have e2 : A % y = R2 := by rw [h3, Nat.mul_comm, Nat.mul_add_mod, Nat.mod_eq_of_lt hR2y]
       exact ⟨e1.symm, e2.symm⟩
      have HCQ := Lib.hid hcq2
      clear hdt2 hfr3 hk2 hge hcm hcq2
      go_wp2_with fail
      (go_wp2_with fail; refine (SC2.out).mono ?_; rintro e w' ⟨rfl, hb⟩; (first | (with_reducible (have hb2 := World.plus_of_below ((World.below_plus _ _).trans (hb.mono (World.size_plus _ _)))); obtain ⟨u, rfl⟩ := hb2) | (obtain ⟨u, rfl⟩ := World.plus_of_below hb)); clear hb)
      go_wp2_with fail
      have hrow3 : (wr.plus u).heap[gq]? = some (.cells (arr .i64 (qfn Q i4) n) 3 (0, 0)) := by
       rw [World.heap_plus _ _ _ hgl2, hrow2, ← qfn_end Q i4, HAD.out, HCQ.out.1]
      exact ⟨⟨i4, R2, by omega, rfl, Lib.hid (by rw [HAR.out]; exact HCQ.out.2), HDT2.out.below (World.below_plus _ _), HFR3.out, hrow3, hbel2.trans ((World.below_plus _ _).mono hbel2.size)⟩, by first | (simp [intOf]; done) | (simp [intOf]; omega)⟩
end Go.Proofs.YtlblfgbpogljoaaGreatDoor

end
section
namespace Go.Proofs.YtlblfgbpogljoaaGreatDoor
open Vi
end Go.Proofs.YtlblfgbpogljoaaGreatDoor

end
