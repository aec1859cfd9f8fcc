import Derived.Test.YthdaimoankaciaaGreatDoorRefs
import Derived.Test.YthdaimoankaciaaGreatDoorRoot
import Derived.Test.YthdaimoankaciaaGreatDoorRelM
/- The reference's square root of an integer, binary digit by binary digit. -/
set_option linter.unusedSimpArgs false
set_option linter.unusedVariables false
namespace Go.Proofs.YthdaimoankaciaaGreatDoor
open Go Go.RowKit
open Vi
def hi2 (r p : Nat) : Nat := r / 2 ^ p * 2 ^ p
theorem hi2_zero (r : Nat) : hi2 r 0 = r := by unfold hi2; rw [Nat.pow_zero, Nat.div_one, Nat.mul_one]
theorem hi2_top (r n : Nat) (h : r < 256 ^ n) : hi2 r (8 * n) = 0 := by
 unfold hi2; rw [Nat.div_eq_of_lt (by rw [← pow8]; exact h), Nat.zero_mul]
theorem hi2_le (r p : Nat) : hi2 r p ≤ r := Nat.div_mul_le_self r _
theorem hi2_step (r i : Nat) : hi2 r i = hi2 r (i + 1) + (r / 2 ^ i % 2) * 2 ^ i := by
 unfold hi2
 have h := half_step r i
 have hp : 2 ^ (i + 1) = 2 ^ i * 2 := Nat.pow_succ ..
 generalize r / 2 ^ (i + 1) = a at *
 rw [hp]
 generalize r / 2 ^ i % 2 = b at *
 have e : a * (2 ^ i * 2) = (2 * a) * 2 ^ i := by rw [Nat.mul_comm (2 ^ i) 2, ← Nat.mul_assoc, Nat.mul_comm a 2]
 rw [e, ← Nat.add_mul, ← h]
theorem hi2_bit (r X i : Nat) (h1 : r * r ≤ X) (h2 : X < (r + 1) * (r + 1)) :
    ((hi2 r (i + 1) + 2 ^ i) * (hi2 r (i + 1) + 2 ^ i) ≤ X ∧ hi2 r i = hi2 r (i + 1) + 2 ^ i) ∨ (X < (hi2 r (i + 1) + 2 ^ i) * (hi2 r (i + 1) + 2 ^ i) ∧ hi2 r i = hi2 r (i + 1)) := by
 have hs := hi2_step r i
 have hb : r / 2 ^ i % 2 = 0 ∨ r / 2 ^ i % 2 = 1 := by omega
 rcases hb with hb | hb
 ·right
  rw [hb, Nat.zero_mul, Nat.add_zero] at hs
  refine ⟨?_, hs⟩
  have h3 : r < hi2 r i + 2 ^ i := by
   unfold hi2
   have h4 := Nat.div_add_mod r (2 ^ i)
   have h5 := Nat.mod_lt r (show 0 < 2 ^ i from Nat.pow_pos (by omega))
   rw [Nat.mul_comm] at h4
   omega
  rw [hs] at h3
  have h6 := Nat.mul_le_mul (show r + 1 ≤ hi2 r (i + 1) + 2 ^ i by omega) (show r + 1 ≤ hi2 r (i + 1) + 2 ^ i by omega)
  omega
 ·left
  rw [hb, Nat.one_mul] at hs
  refine ⟨?_, hs⟩
  rw [← hs]
  have h6 := Nat.mul_le_mul (hi2_le r i) (hi2_le r i)
  omega
theorem root_half (r X N : Nat) (h1 : r * r ≤ X) (h2 : X < 256 ^ N) : r < 256 ^ ((N + 1) / 2) := by
 apply Nat.lt_of_not_le
 intro hc
 have h3 := Nat.mul_le_mul hc hc
 rw [← Nat.pow_add] at h3
 have h4 : (256 : Nat) ^ N ≤ 256 ^ ((N + 1) / 2 + (N + 1) / 2) := Nat.pow_le_pow_right (by omega) (by omega)
 omega
set_option maxRecDepth 100000 in
set_option maxHeartbeats 1600000 in
theorem rSqrt_c (x : Int) (r : Nat) (h0 : 0 ≤ x) (h1 : r * r ≤ x.natAbs) (h2 : x.natAbs < (r + 1) * (r + 1)) (w : World) (hx : (mg x).size ≤ 1048576) : Calls Tryz.prog 113 #[.agg #[.bool (sg x), .string (mg x)]] w fun e w' => e = .returned (.agg #[.bool (sg (r : Int)), .string (mg (r : Int))]) ∧ Below w.heap.size w w' := by
 have HD := Lib.hid (fun w => rdig_c x w (by omega))
 have HN1 := Lib.hid (fun (v : Value) (M : Nat) (w : World) (h : DL w v M r) (hM : M ≤ 8589934592) => number_D false v M r (r : Int) w h hM (by simp))
 obtain ⟨N, hN⟩ : ∃ N, N = (mg x).size := ⟨_, rfl⟩
 rw [← hN] at hx HD
 obtain ⟨X, hX⟩ : ∃ X, X = x.natAbs := ⟨_, rfl⟩
 rw [← hX] at h1 h2 HD
 have HB := Lib.hid (fun i => hi2_bit r X i h1 h2)
 have HSQ := Lib.hid h1
 obtain ⟨n, hn⟩ : ∃ n, n = (N + 1) / 2 := ⟨_, rfl⟩
 have hnb : n ≤ 524289 := by omega
 have HMK := Lib.hid (makeInt n · (by omega))
 have hq : ((N : Int) + 1).tdiv 2 = (n : Int) := by rw [hn]; exact Int.ofNat_tdiv (N + 1) 2
 have HN := Lib.hid hN
 have HNN := Lib.hid hn
 clear h1 h2 hN hX hn h0
 go_enter Tryz.func113, Tryz.ntmps113
 go_wp2_with fail
 refine (HD.out _).mono ?_
 rintro e' w1 ⟨v, rfl, hd, hb⟩
 have HRL : Hid (r < 256 ^ n) := Lib.hid (by rw [HNN.out]; exact root_half r X N HSQ.out hd.1)
 obtain ⟨a1, c1, e1⟩ := hd.lenForm
 subst e1
 go_wp2_with fail
 have hmk := HMK.out
 simp only [hmk]
 clear hmk
 have hsz := hb.size
 simp only [World.size_alloc] at hsz
 have hrow : w1.heap[w.heap.size + 1]? = some (.cells #[Value.bool false, Value.string ⟨#[]⟩] 23) := by
  rw [hb.block _ (by simp only [World.size_alloc]; omega)]
  have hnew : ((w.alloc (Obj.cells #[Value.bool (sg x), Value.string (mg x)] 23)).alloc (Obj.cells #[Value.bool false, Value.string ⟨#[]⟩] 23)).heap[(w.alloc (Obj.cells #[Value.bool (sg x), Value.string (mg x)] 23)).heap.size]? = some (.cells #[Value.bool false, Value.string ⟨#[]⟩] 23) := by
   exact Array.getElem?_push_size
  rw [World.size_alloc] at hnew
  exact hnew
 have hbw : Below w.heap.size w w1 := ((Below.alloc (Below.alloc (Below.refl _ _) (Nat.le_refl _) _) (by simp) _)).trans (hb.mono (by simp; omega))
 have AX : Hid (∀ (o : Obj) (u : World), DL ((w1.alloc o).plus u) (.slice a1 N c1) N X) := Lib.hid fun o u => ⟨N, Nat.le_refl _, hd.below (((Below.refl _ _).alloc (Nat.le_refl _) o).trans ((World.below_plus _ _).mono (by simp)))⟩
 have HT := Lib.hid (hi2_top r n HRL.out)
 clear hb hd
 go_wp2_with fail
 go_loopw [5] (fun iv wr => ∃ (p : Nat) (u : World), p ≤ 8 * n ∧ iv = .int .i64 ((p : Int) - 1) ∧ wr = (w1.alloc (.cells (arr .i64 (d8 (hi2 r p)) n) 3)).plus u) (fun iv _ => (intOf iv + 1).toNat)
 case atStart =>
  obtain ⟨u, hu⟩ := World.plus_of_below (Below.refl _ (w1.alloc (.cells (arr .i64 (fun _ => 0) n) 3)))
  have e0 : arr .i64 (fun _ => 0) n = arr .i64 (d8 (hi2 r (8 * n))) n := by
   rw [HT.out]; apply arr_congr; intro i _; rw [d8_zero]
  refine ⟨8 * n, u, Nat.le_refl _, ?_, ?_⟩
  ·first | (congr 1; omega) | rfl
  ·rw [← e0]; exact hu
 case round =>
  obtain ⟨p, u, hp, rfl, rfl⟩ := hrel
  cases p with
  | zero =>
   have e0 : ((0 : Nat) : Int) - 1 = -1 := rfl
   rw [e0]
   have hDr : DL ((w1.alloc (.cells (arr .i64 (d8 (hi2 r 0)) n) 3)).plus u) (.slice (some ⟨w1.heap.size, 0, none⟩) n n) n r := by
    refine ⟨n, Nat.le_refl _, Dl.of_arr _ _ _ _ _ (fun j hj => ?_) ?_ HRL.out (Nat.le_refl _) (by unfold maxLen; omega)⟩
    ·rw [hi2_zero]; simp [go_sem, arr_get _ _ _ _ hj]
    ·simp [go_sem]
   have hNum := HN1.out _ _ _ hDr (by omega)
   have hz2 := World.size_plus (w1.alloc (.cells (arr .i64 (d8 (hi2 r 0)) n) 3)) u
   have hb2 : Below w1.heap.size w1 ((w1.alloc (.cells (arr .i64 (d8 (hi2 r 0)) n) 3)).plus u) := ((Below.refl _ _).alloc (Nat.le_refl _) _).trans ((World.below_plus _ _).mono (by simp))
   clear hDr
   go_wp2_with fail
   refine hNum.mono ?_
   rintro e' w3 ⟨rfl, hb3⟩
   have hb4 : Below w1.heap.size w1 w3 := hb2.trans (hb3.mono (by rw [World.size_alloc] at hz2; omega))
   have hrow3 : w3.heap[w.heap.size + 1]? = some (.cells #[Value.bool false, Value.string ⟨#[]⟩] 23) := (hb4.block _ (by omega)).trans hrow
   have hb5 : Below w.heap.size w w3 := hbw.trans (hb4.mono (by omega))
   clear hb2 hb3 hb4 hNum hz2
   obtain ⟨w8, rfl, hk8⟩ := row_ex hrow3
   go_wp2_with fail
   refine bodyPost_ret (by simp [results, Tryz.results113, go_sem, hk8]; rfl) rfl ?_
   refine ⟨rfl, ?_⟩
   obtain ⟨b1, b2, b3, b4, b5⟩ := hb5
   refine ⟨b1, b2, b3, ?_, fun j hj => ?_⟩
   ·rw [World.size_row] at b4 ⊢; exact b4
   ·have := b5 j hj
    rw [World.heap_row_other _ _ _ _ _ (by omega)] at this ⊢
    exact this
  | succ i =>
   obtain ⟨c, hc⟩ : ∃ z, z = i / 8 := ⟨_, rfl⟩
   obtain ⟨e, he⟩ : ∃ z, z = i % 8 := ⟨_, rfl⟩
   have hi : i = 8 * c + e := by omega
   have he8 : e < 8 := by omega
   have hcn : c < n := by omega
   obtain ⟨Z, hZ⟩ : ∃ z, z = hi2 r (i + 1) := ⟨_, rfl⟩
   have hbit := HB.out i
   rw [← hZ] at hbit ⊢
   have HU : Hid (upd (d8 Z) c (d8 Z c + 2 ^ e) = d8 (Z + 2 ^ i)) := Lib.hid (by
    rw [hi]
    exact bq_upd Z (r / 2 ^ (i + 1)) c e he8 (by rw [hZ, hi]; rfl))
   have i1 : ((i + 1 : Nat) : Int) - 1 = (i : Int) := by omega
   rw [i1]
   have i2 : (i : Int).tdiv 8 = (c : Int) := by rw [hc]; exact Int.ofNat_tdiv i 8
   have i3 : (i : Int).tmod 8 = (e : Int) := by rw [he]; exact Int.ofNat_tmod i 8
   have l1 : (c : Int) < (n : Int) := by omega
   have hi0 : (0 : Int) ≤ (i : Int) := by omega
   obtain ⟨zc, hzc⟩ : ∃ z, z = d8 Z c := ⟨_, rfl⟩
   obtain ⟨pe, hpe⟩ : ∃ z, z = 2 ^ e := ⟨_, rfl⟩
   have hzc2 : zc < 256 := by rw [hzc]; exact d8_lt _ _
   have hpe2 : pe ≤ 128 := by rw [hpe]; exact Nat.le_trans (Nat.pow_le_pow_right (by omega) (show e ≤ 7 by omega)) (by decide)
   have hgz := arr_get .i64 (d8 Z) n c hcn
   rw [← hzc] at hgz
   have j1 : (2 : Int) ^ e = (pe : Int) := by rw [hpe, Int.natCast_pow]; rfl
   have HZC := Lib.hid hzc
   have HPE := Lib.hid hpe
   have Hbit := Lib.hid hbit
   obtain ⟨Z1, hZ1⟩ : ∃ z, z = Z + 2 ^ i := ⟨_, rfl⟩
   rw [← hZ1] at hbit HU Hbit
   have hZ1l : Hid (Z1 < 256 ^ n) := Lib.hid (by
    have hrl := HRL.out
    rw [pow8] at hrl ⊢
    have e8 : 2 ^ (8 * n) = 2 ^ (i + 1) * 2 ^ (8 * n - (i + 1)) := by rw [← Nat.pow_add]; congr 1; omega
    rw [e8] at hrl ⊢
    have ht := Nat.div_lt_of_lt_mul hrl
    have e9 : 2 ^ (i + 1) = 2 ^ i * 2 := Nat.pow_succ ..
    have hp0 : 0 < 2 ^ i := Nat.pow_pos (by omega)
    have h9 := Nat.mul_le_mul_left (2 ^ (i + 1)) ht
    rw [hZ1, hZ]
    unfold hi2
    rw [Nat.mul_comm (r / 2 ^ (i + 1))]
    rw [Nat.mul_succ] at h9
    omega)
   have ew : (arr .i64 (d8 Z) n).setIfInBounds c (.int .i64 ((zc : Int) + (pe : Int))) = arr .i64 (d8 Z1) n := by
    rw [← Int.natCast_add, arr_set, ← HU.out, HZC.out, HPE.out]
   have hg1 := arr_get .i64 (d8 Z1) n c hcn
   have hd1 : d8 Z1 c = zc + pe := by rw [← HU.out, HZC.out, HPE.out]; unfold upd; rw [if_pos rfl]
   rw [hd1] at hg1
   have ew2 : (arr .i64 (d8 Z1) n).setIfInBounds c (.int .i64 (zc : Int)) = arr .i64 (d8 Z) n := by
    rw [arr_set]
    apply arr_congr
    intro j hj
    rw [← HU.out]
    unfold upd
    by_cases hjc : j = c
    ·rw [if_pos hjc, hjc, HZC.out]
    ·rw [if_neg hjc, if_neg hjc]
   have HEW := Lib.hid ew
   have HEW2 := Lib.hid ew2
   clear hc he hi hzc hpe hZ hZ1 hbit hd1 ew ew2 i1
   go_wp2_with fail
   (refine wp_region_exact_t 13 (by kernel_rfl) (by kernel_rfl) ?_; simp only [List.take_succ_cons, List.take_zero, List.drop_succ_cons, List.drop_zero]; repeat go_big_quiet_step (fail)); (refine wpQuiet_nil ?_; rintro _ rfl)
   go_wp2_with fail
   rw [HEW.out]
   obtain ⟨u4, hu4⟩ := later_plus_drew (w1.alloc (.cells (arr .i64 (d8 Z1) n) 3)) u
   show Calls _ _ _ ({ (w1.alloc (.cells (arr .i64 (d8 Z1) n) 3)).plus u with drawn := ((w1.alloc (.cells (arr .i64 (d8 Z1) n) 3)).plus u).drawn + 1 } : World) _
   rw [hu4]
   have hDZ : DL ((w1.alloc (.cells (arr .i64 (d8 Z1) n) 3)).plus u4) (.slice (some ⟨w1.heap.size, 0, none⟩) n n) n Z1 := by
    refine ⟨n, Nat.le_refl _, Dl.of_arr _ _ _ _ _ (fun j hj => ?_) ?_ hZ1l.out (Nat.le_refl _) (by unfold maxLen; omega)⟩
    ·simp [go_sem, arr_get _ _ _ _ hj]
    ·simp [go_sem]
   refine (product_D _ _ n Z1 Z1 _ hDZ hDZ (by omega)).mono ?_
   rintro e' w' ⟨v2, rfl, hd2, hb⟩
   obtain ⟨u5, rfl⟩ := World.plus_of_below ((World.below_plus (w1.alloc (.cells (arr .i64 (d8 Z1) n) 3)) u4).trans (hb.mono (World.size_plus _ _)))
   clear hb hDZ hu4
   go_wp2_with fail
   refine (order_D v2 (.slice a1 N c1) _ _ _ _ _ hd2 (AX.out _ _) (by omega) (by omega)).mono ?_
   rintro e' w' ⟨rfl, rfl⟩
   rcases Hbit.out with ⟨q1, q2⟩ | ⟨q1, q2⟩
   ·have hc0 : ¬ ((0 : Int) < cmpN (Z1 * Z1) X) := by unfold cmpN; split <;> (try split) <;> omega
    clear q1
    have HQ := Lib.hid q2
    clear q2
    go_wp2_with fail
    exact ⟨⟨i, u5, by omega, rfl, by rw [HQ.out]⟩, by simp [intOf]⟩
   ·have hc0 : (0 : Int) < cmpN (Z1 * Z1) X := by unfold cmpN; split <;> (try split) <;> omega
    clear q1
    have HQ := Lib.hid q2
    clear q2
    go_wp2_with fail
    (refine wp_region_exact_t 13 (by kernel_rfl) (by kernel_rfl) ?_; simp only [List.take_succ_cons, List.take_zero, List.drop_succ_cons, List.drop_zero]; repeat go_big_quiet_step (fail)); (refine wpQuiet_nil ?_; rintro _ rfl)
    go_wp2_with fail
    rw [HEW2.out]
    obtain ⟨u6, hu6⟩ := later_plus_drew (w1.alloc (.cells (arr .i64 (d8 Z) n) 3)) u5
    exact ⟨⟨i, u6, by omega, rfl, by rw [HQ.out]; exact hu6⟩, by simp [intOf]⟩
end Go.Proofs.YthdaimoankaciaaGreatDoor
