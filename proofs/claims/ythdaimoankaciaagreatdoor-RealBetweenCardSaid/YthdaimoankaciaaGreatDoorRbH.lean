/- Part 8 of the proof; what it holds is said text by text. -/
import Derived.Test.YthdaimoankaciaaGreatDoorRbE
import Derived.Test.YthdaimoankaciaaGreatDoorRbG
import Derived.Test.YthdaimoankaciaaGreatDoorRbA
section
/- The reference's square root of an integer, binary digit by binary digit. -/
set_option linter.unusedSimpArgs false
set_option linter.unusedVariables false
namespace Go.Proofs.YthdaimoankaciaaGreatDoor
open Go Go.RowKit
open Vi
def hi2 (r p : Nat) : Nat := r / 2 ^ p * 2 ^ p
theorem hi2_zero (r : Nat) : hi2 r 0 = r := by unfold hi2; rw [Nat.pow_zero, Nat.div_one, Nat.mul_one]
theorem hi2_top (r n : Nat) (h : r < 256 ^ n) : hi2 r (8 * n) = 0 := by
 unfold hi2; rw [Nat.div_eq_of_lt (by rw [← pow8]; exact h), Nat.zero_mul]
theorem hi2_le (r p : Nat) : hi2 r p ≤ r := Nat.div_mul_le_self r _
theorem hi2_step (r i : Nat) : hi2 r i = hi2 r (i + 1) + (r / 2 ^ i % 2) * 2 ^ i := by
 unfold hi2
 have h := half_step r i
 have hp : 2 ^ (i + 1) = 2 ^ i * 2 := Nat.pow_succ ..
 generalize r / 2 ^ (i + 1) = a at *
 rw [hp]
 generalize r / 2 ^ i % 2 = b at *
 have e : a * (2 ^ i * 2) = (2 * a) * 2 ^ i := by rw [Nat.mul_comm (2 ^ i) 2, ← Nat.mul_assoc, Nat.mul_comm a 2]
 rw [e, ← Nat.add_mul, ← h]
theorem hi2_bit (r X i : Nat) (h1 : r * r ≤ X) (h2 : X < (r + 1) * (r + 1)) :
    ((hi2 r (i + 1) + 2 ^ i) * (hi2 r (i + 1) + 2 ^ i) ≤ X ∧ hi2 r i = hi2 r (i + 1) + 2 ^ i) ∨ (X < (hi2 r (i + 1) + 2 ^ i) * (hi2 r (i + 1) + 2 ^ i) ∧ hi2 r i = hi2 r (i + 1)) := by
 have hs := hi2_step r i
 have hb : r / 2 ^ i % 2 = 0 ∨ r / 2 ^ i % 2 = 1 := by omega
 rcases hb with hb | hb
 ·right
  rw [hb, Nat.zero_mul, Nat.add_zero] at hs
  refine ⟨?_, hs⟩
  have h3 : r < hi2 r i + 2 ^ i := by
   unfold hi2
   have h4 := Nat.div_add_mod r (2 ^ i)
   have h5 := Nat.mod_lt r (show 0 < 2 ^ i from Nat.pow_pos (by omega))
   rw [Nat.mul_comm] at h4
   omega
  rw [hs] at h3
  have h6 := Nat.mul_le_mul (show r + 1 ≤ hi2 r (i + 1) + 2 ^ i by omega) (show r + 1 ≤ hi2 r (i + 1) + 2 ^ i by omega)
  omega
 ·left
  rw [hb, Nat.one_mul] at hs
  refine ⟨?_, hs⟩
  rw [← hs]
  have h6 := Nat.mul_le_mul (hi2_le r i) (hi2_le r i)
  omega
theorem root_half (r X N : Nat) (h1 : r * r ≤ X) (h2 : X < 256 ^ N) : r < 256 ^ ((N + 1) / 2) := by
 apply Nat.lt_of_not_le
 intro hc
 have h3 := Nat.mul_le_mul hc hc
 rw [← Nat.pow_add] at h3
 have h4 : (256 : Nat) ^ N ≤ 256 ^ ((N + 1) / 2 + (N + 1) / 2) := Nat.pow_le_pow_right (by omega) (by omega)
 omega
set_option maxRecDepth 100000 in
set_option maxHeartbeats 1600000 in
theorem rSqrt_c (x : Int) (r : Nat) (h0 : 0 ≤ x) (h1 : r * r ≤ x.natAbs) (h2 : x.natAbs < (r + 1) * (r + 1)) (w : World) (hx : (mg x).size ≤ 1048576) : Calls Tryz.prog 113 #[.agg #[.bool (sg x), .string (mg x)]] w fun e w' => e = .returned (.agg #[.bool (sg (r : Int)), .string (mg (r : Int))]) ∧ Below w.heap.size w w' := by
 have HD := Lib.hid (fun w => rdig_c x w (by omega))
 have HN1 := Lib.hid (fun (v : Value) (M : Nat) (w : World) (h : DL w v M r) (hM : M ≤ 8589934592) => number_D false v M r (r : Int) w h hM (by simp))
 obtain ⟨N, hN⟩ : ∃ N, N = (mg x).size := ⟨_, rfl⟩
 rw [← hN] at hx HD
 obtain ⟨X, hX⟩ : ∃ X, X = x.natAbs := ⟨_, rfl⟩
 rw [← hX] at h1 h2 HD
 have HB := Lib.hid (fun i => hi2_bit r X i h1 h2)
 have HSQ := Lib.hid h1
 obtain ⟨n, hn⟩ : ∃ n, n = (N + 1) / 2 := ⟨_, rfl⟩
 have hnb : n ≤ 524289 := by omega
 have HMK := Lib.hid (makeInt n · (by omega))
 have hq : ((N : Int) + 1).tdiv 2 = (n : Int) := by rw [hn]; exact Int.ofNat_tdiv (N + 1) 2
 have HN := Lib.hid hN
 have HNN := Lib.hid hn
 clear h1 h2 hN hX hn h0
 go_enter Tryz.func113, Tryz.ntmps113
 go_wp2_with fail
 refine (HD.out _).mono ?_
 rintro e' w1 ⟨v, rfl, hd, hb⟩
 have HRL : Hid (r < 256 ^ n) := Lib.hid (by rw [HNN.out]; exact root_half r X N HSQ.out hd.1)
 obtain ⟨a1, c1, e1⟩ := hd.lenForm
 subst e1
 go_wp2_with fail
 have hmk := HMK.out
 simp only [hmk]
 clear hmk
 have hsz := hb.size
 simp only [World.size_alloc] at hsz
 have hrow : w1.heap[w.heap.size + 1]? = some (.cells #[Value.bool false, Value.string ⟨#[]⟩] 23) := by
  rw [hb.block _ (by simp only [World.size_alloc]; omega)]
  have hnew : ((w.alloc (Obj.cells #[Value.bool (sg x), Value.string (mg x)] 23)).alloc (Obj.cells #[Value.bool false, Value.string ⟨#[]⟩] 23)).heap[(w.alloc (Obj.cells #[Value.bool (sg x), Value.string (mg x)] 23)).heap.size]? = some (.cells #[Value.bool false, Value.string ⟨#[]⟩] 23) := by
   exact Array.getElem?_push_size
  rw [World.size_alloc] at hnew
  exact hnew
 have hbw : Below w.heap.size w w1 := ((Below.alloc (Below.alloc (Below.refl _ _) (Nat.le_refl _) _) (by simp) _)).trans (hb.mono (by simp; omega))
 have AX : Hid (∀ (o : Obj) (u : World), DL ((w1.alloc o).plus u) (.slice a1 N c1) N X) := Lib.hid fun o u => ⟨N, Nat.le_refl _, hd.below (((Below.refl _ _).alloc (Nat.le_refl _) o).trans ((World.below_plus _ _).mono (by simp)))⟩
 have HT := Lib.hid (hi2_top r n HRL.out)
 clear hb hd
 go_wp2_with fail
 go_loopw [5] (fun iv wr => ∃ (p : Nat) (u : World), p ≤ 8 * n ∧ iv = .int .i64 ((p : Int) - 1) ∧ wr = (w1.alloc (.cells (arr .i64 (d8 (hi2 r p)) n) 3)).plus u) (fun iv _ => (intOf iv + 1).toNat)
 case atStart =>
  obtain ⟨u, hu⟩ := World.plus_of_below (Below.refl _ (w1.alloc (.cells (arr .i64 (fun _ => 0) n) 3)))
  have e0 : arr .i64 (fun _ => 0) n = arr .i64 (d8 (hi2 r (8 * n))) n := by
   rw [HT.out]; apply arr_congr; intro i _; rw [d8_zero]
  refine ⟨8 * n, u, Nat.le_refl _, ?_, ?_⟩
  ·first | (congr 1; omega) | rfl
  ·rw [← e0]; exact hu
 case round =>
  obtain ⟨p, u, hp, rfl, rfl⟩ := hrel
  cases p with
  | zero =>
   have e0 : ((0 : Nat) : Int) - 1 = -1 := rfl
   rw [e0]
   have hDr : DL ((w1.alloc (.cells (arr .i64 (d8 (hi2 r 0)) n) 3)).plus u) (.slice (some ⟨w1.heap.size, 0, none⟩) n n) n r := by
    refine ⟨n, Nat.le_refl _, Dl.of_arr _ _ _ _ _ (fun j hj => ?_) ?_ HRL.out (Nat.le_refl _) (by unfold maxLen; omega)⟩
    ·rw [hi2_zero]; simp [go_sem, arr_get _ _ _ _ hj]
    ·simp [go_sem]
   have hNum := HN1.out _ _ _ hDr (by omega)
   have hz2 := World.size_plus (w1.alloc (.cells (arr .i64 (d8 (hi2 r 0)) n) 3)) u
   have hb2 : Below w1.heap.size w1 ((w1.alloc (.cells (arr .i64 (d8 (hi2 r 0)) n) 3)).plus u) := ((Below.refl _ _).alloc (Nat.le_refl _) _).trans ((World.below_plus _ _).mono (by simp))
   clear hDr
   go_wp2_with fail
   refine hNum.mono ?_
   rintro e' w3 ⟨rfl, hb3⟩
   have hb4 : Below w1.heap.size w1 w3 := hb2.trans (hb3.mono (by rw [World.size_alloc] at hz2; omega))
   have hrow3 : w3.heap[w.heap.size + 1]? = some (.cells #[Value.bool false, Value.string ⟨#[]⟩] 23) := (hb4.block _ (by omega)).trans hrow
   have hb5 : Below w.heap.size w w3 := hbw.trans (hb4.mono (by omega))
   clear hb2 hb3 hb4 hNum hz2
   obtain ⟨w8, rfl, hk8⟩ := row_ex hrow3
   go_wp2_with fail
   refine bodyPost_ret (by simp [results, Tryz.results113, go_sem, hk8]; rfl) rfl ?_
   refine ⟨rfl, ?_⟩
   obtain ⟨b1, b2, b3, b4, b5⟩ := hb5
   refine ⟨b1, b2, b3, ?_, fun j hj => ?_⟩
   ·rw [World.size_row] at b4 ⊢; exact b4
   ·have := b5 j hj
    rw [World.heap_row_other _ _ _ _ _ (by omega)] at this ⊢
    exact this
  | succ i =>
   obtain ⟨c, hc⟩ : ∃ z, z = i / 8 := ⟨_, rfl⟩
   obtain ⟨e, he⟩ : ∃ z, z = i % 8 := ⟨_, rfl⟩
   have hi : i = 8 * c + e := by omega
   have he8 : e < 8 := by omega
   have hcn : c < n := by omega
   obtain ⟨Z, hZ⟩ : ∃ z, z = hi2 r (i + 1) := ⟨_, rfl⟩
   have hbit := HB.out i
   rw [← hZ] at hbit ⊢
   have HU : Hid (upd (d8 Z) c (d8 Z c + 2 ^ e) = d8 (Z + 2 ^ i)) := Lib.hid (by
    rw [hi]
    exact bq_upd Z (r / 2 ^ (i + 1)) c e he8 (by rw [hZ, hi]; rfl))
   have i1 : ((i + 1 : Nat) : Int) - 1 = (i : Int) := by omega
   rw [i1]
   have i2 : (i : Int).tdiv 8 = (c : Int) := by rw [hc]; exact Int.ofNat_tdiv i 8
   have i3 : (i : Int).tmod 8 = (e : Int) := by rw [he]; exact Int.ofNat_tmod i 8
   have l1 : (c : Int) < (n : Int) := by omega
   have hi0 : (0 : Int) ≤ (i : Int) := by omega
   obtain ⟨zc, hzc⟩ : ∃ z, z = d8 Z c := ⟨_, rfl⟩
   obtain ⟨pe, hpe⟩ : ∃ z, z = 2 ^ e := ⟨_, rfl⟩
   have hzc2 : zc < 256 := by rw [hzc]; exact d8_lt _ _
   have hpe2 : pe ≤ 128 := by rw [hpe]; exact Nat.le_trans (Nat.pow_le_pow_right (by omega) (show e ≤ 7 by omega)) (by decide)
   have hgz := arr_get .i64 (d8 Z) n c hcn
   rw [← hzc] at hgz
   have j1 : (2 : Int) ^ e = (pe : Int) := by rw [hpe, Int.natCast_pow]; rfl
   have HZC := Lib.hid hzc
   have HPE := Lib.hid hpe
   have Hbit := Lib.hid hbit
   obtain ⟨Z1, hZ1⟩ : ∃ z, z = Z + 2 ^ i := ⟨_, rfl⟩
   rw [← hZ1] at hbit HU Hbit
   have hZ1l : Hid (Z1 < 256 ^ n) := Lib.hid (by
    have hrl := HRL.out
    rw [pow8] at hrl ⊢
    have e8 : 2 ^ (8 * n) = 2 ^ (i + 1) * 2 ^ (8 * n - (i + 1)) := by rw [← Nat.pow_add]; congr 1; omega
    rw [e8] at hrl ⊢
    have ht := Nat.div_lt_of_lt_mul hrl
    have e9 : 2 ^ (i + 1) = 2 ^ i * 2 := Nat.pow_succ ..
    have hp0 : 0 < 2 ^ i := Nat.pow_pos (by omega)
    have h9 := Nat.mul_le_mul_left (2 ^ (i + 1)) ht
    rw [hZ1, hZ]
    unfold hi2
    rw [Nat.mul_comm (r / 2 ^ (i + 1))]
    rw [Nat.mul_succ] at h9
    omega)
   have ew : (arr .i64 (d8 Z) n).setIfInBounds c (.int .i64 ((zc : Int) + (pe : Int))) = arr .i64 (d8 Z1) n := by
    rw [← Int.natCast_add, arr_set, ← HU.out, HZC.out, HPE.out]
   have hg1 := arr_get .i64 (d8 Z1) n c hcn
   have hd1 : d8 Z1 c = zc + pe := by rw [← HU.out, HZC.out, HPE.out]; unfold upd; rw [if_pos rfl]
   rw [hd1] at hg1
   have ew2 : (arr .i64 (d8 Z1) n).setIfInBounds c (.int .i64 (zc : Int)) = arr .i64 (d8 Z) n := by
    rw [arr_set]
    apply arr_congr
    intro j hj
    rw [← HU.out]
    unfold upd
    by_cases hjc : j = c
    ·rw [if_pos hjc, hjc, HZC.out]
    ·rw [if_neg hjc, if_neg hjc]
   have HEW := Lib.hid ew
   have HEW2 := Lib.hid ew2
   clear hc he hi hzc hpe hZ hZ1 hbit hd1 ew ew2 i1
   go_wp2_with fail
   (refine wp_region_exact_t 13 (by kernel_rfl) (by kernel_rfl) ?_; simp only [List.take_succ_cons, List.take_zero, List.drop_succ_cons, List.drop_zero]; repeat go_big_quiet_step (fail)); (refine wpQuiet_nil ?_; rintro _ rfl)
   go_wp2_with fail
   rw [HEW.out]
   obtain ⟨u4, hu4⟩ := later_plus_drew (w1.alloc (.cells (arr .i64 (d8 Z1) n) 3)) u
   show Calls _ _ _ ({ (w1.alloc (.cells (arr .i64 (d8 Z1) n) 3)).plus u with drawn := ((w1.alloc (.cells (arr .i64 (d8 Z1) n) 3)).plus u).drawn + 1 } : World) _
   rw [hu4]
   have hDZ : DL ((w1.alloc (.cells (arr .i64 (d8 Z1) n) 3)).plus u4) (.slice (some ⟨w1.heap.size, 0, none⟩) n n) n Z1 := by
    refine ⟨n, Nat.le_refl _, Dl.of_arr _ _ _ _ _ (fun j hj => ?_) ?_ hZ1l.out (Nat.le_refl _) (by unfold maxLen; omega)⟩
    ·simp [go_sem, arr_get _ _ _ _ hj]
    ·simp [go_sem]
   refine (product_D _ _ n Z1 Z1 _ hDZ hDZ (by omega)).mono ?_
   rintro e' w' ⟨v2, rfl, hd2, hb⟩
   obtain ⟨u5, rfl⟩ := World.plus_of_below ((World.below_plus (w1.alloc (.cells (arr .i64 (d8 Z1) n) 3)) u4).trans (hb.mono (World.size_plus _ _)))
   clear hb hDZ hu4
   go_wp2_with fail
   refine (order_D v2 (.slice a1 N c1) _ _ _ _ _ hd2 (AX.out _ _) (by omega) (by omega)).mono ?_
   rintro e' w' ⟨rfl, rfl⟩
   rcases Hbit.out with ⟨q1, q2⟩ | ⟨q1, q2⟩
   ·have hc0 : ¬ ((0 : Int) < cmpN (Z1 * Z1) X) := by unfold cmpN; split <;> (try split) <;> omega
    clear q1
    have HQ := Lib.hid q2
    clear q2
    go_wp2_with fail
    exact ⟨⟨i, u5, by omega, rfl, by rw [HQ.out]⟩, by simp [intOf]⟩
   ·have hc0 : (0 : Int) < cmpN (Z1 * Z1) X := by unfold cmpN; split <;> (try split) <;> omega
    clear q1
    have HQ := Lib.hid q2
    clear q2
    go_wp2_with fail
    (refine wp_region_exact_t 13 (by kernel_rfl) (by kernel_rfl) ?_; simp only [List.take_succ_cons, List.take_zero, List.drop_succ_cons, List.drop_zero]; repeat go_big_quiet_step (fail)); (refine wpQuiet_nil ?_; rintro _ rfl)
    go_wp2_with fail
    rw [HEW2.out]
    obtain ⟨u6, hu6⟩ := later_plus_drew (w1.alloc (.cells (arr .i64 (d8 Z) n) 3)) u5
    exact ⟨⟨i, u6, by omega, rfl, by rw [HQ.out]; exact hu6⟩, by simp [intOf]⟩
end Go.Proofs.YthdaimoankaciaaGreatDoor

end
section
/- Equality of structs, field by field; of bounds. -/
set_option linter.unusedSimpArgs false
set_option linter.unusedVariables false
namespace Go.Sy
open Go Go.RowKit
section
variable {P : Program}
inductive FE (P : Program) (d : Nat) (xs ys : Array Value) : List (TypeId × Nat) → Bool → Prop where
 | nil : FE P d xs ys [] true
 | cons {t : TypeId} {off : Nat} {l : List (TypeId × Nat)} {a b : Value} {r q : Bool} (ha : pureRun P (part t xs off) = some a) (hb : pureRun P (part t ys off) = some b)
     (hr : ∀ w, (Op.equalIn d t a b).run P w = .ok r w) (h : FE P d xs ys l q) : FE P d xs ys ((t, off) :: l) (r && q)
theorem FE.run {d : Nat} {xs ys : Array Value} : ∀ {fs : List Field} {l : List (TypeId × Nat)} {q : Bool}, fs.map (fun f => (f.name == "_", f.type, f.offset)) = l.map (fun p => (false, p.1, p.2)) → FE P d xs ys l q →
    ∀ w, (Op.eqFields d xs ys fs).run P w = .ok q w
 | [], [], _, _, h, w => by cases h; rfl
 | f :: fs, [], _, hm, _, _ => by simp at hm
 | [], _ :: _, _, hm, _, _ => by simp at hm
 | f :: fs, _ :: l, _, hm, h, w => by
  cases h with
  | cons ha hb hr h =>
   rename_i t off a b r q
   simp only [List.map_cons, List.cons.injEq, Prod.mk.injEq] at hm
   obtain ⟨⟨h1, h2, h3⟩, hm⟩ := hm
   have hn : f.name ≠ "_" := by simpa using h1
   have ih := FE.run hm h w
   simp only [Op.eqFields, if_pos hn, Sem.run_bind, h2, h3, pureRun_run ha, pureRun_run hb, Result.andThen_ok, hr]
   cases r
   ·simp
   ·simp [ih]
theorem eqStruct {d : Nat} {t : TypeId} {xs ys : Array Value} {l : List (TypeId × Nat)} {q : Bool} (ht : P.underlying t = some (.struct (P.fieldsOf t))) (hp : P.stoodInHeld t = false)
    (hm : (P.fieldsOf t).toList.map (fun f => (f.name == "_", f.type, f.offset)) = l.map (fun p => (false, p.1, p.2))) (h : FE P d xs ys l q) (w : World) : (Op.equalIn (d + 1) t (.agg xs) (.agg ys)).run P w = .ok q w := by
 rw [run_equalIn_agg _ _ _ _ _ ht hp]
 exact h.run hm w
end
end Go.Sy
namespace Go.Proofs.YthdaimoankaciaaGreatDoor
open Go Go.RowKit Go.Sy
open Vi
theorem binS {T : TypeId} {xs ys : Array Value} {q : Bool} (h : ∀ w, (Op.equalIn 10000 T (.agg xs) (.agg ys)).run Tryz.prog w = .ok q w) (hg : Tryz.prog.eqGuardType Tryz.prog.depth T = false) : Bin .eql T (.agg xs) (.agg ys) (.bool q) := fun ox oy w => by
 rw [Sem.run_bind, run_eqGuard_agg _ _ _ _ _ _ _ hg, Result.andThen_ok, run_eql_struct, h]
 rfl
end Go.Proofs.YthdaimoankaciaaGreatDoor
set_option linter.unusedSimpArgs false
set_option linter.unusedVariables false
namespace Go.Proofs.YthdaimoankaciaaGreatDoor
open Go Go.RowKit Go.Sy
open Vi
end Go.Proofs.YthdaimoankaciaaGreatDoor
set_option linter.unusedSimpArgs false
set_option linter.unusedVariables false
namespace Go.Proofs.YthdaimoankaciaaGreatDoor
open Go Go.RowKit Go.Sy
open Vi
def lsQ (x y : Rat) : Rat := if y < x then y else x
def grQ (x y : Rat) : Rat := if x < y then y else x
instance (p q : Rat) (i j : Nat) [h : HasSz p i] [g : HasSz q j] : HasSz (lsQ p q) (i + j) := by
 unfold lsQ; split
 ·exact hs_mono g (by omega)
 ·exact hs_mono h (by omega)
instance (p q : Rat) (i j : Nat) [h : HasSz p i] [g : HasSz q j] : HasSz (grQ p q) (i + j) := by
 unfold grQ; split
 ·exact hs_mono g (by omega)
 ·exact hs_mono h (by omega)
end Go.Proofs.YthdaimoankaciaaGreatDoor
set_option linter.unusedSimpArgs false
set_option linter.unusedVariables false
namespace Go.Proofs.YthdaimoankaciaaGreatDoor
open Go Go.RowKit Go.Sy
open Vi
theorem divInt1 (n : Int) : Rat.divInt n 1 = (n : Rat) := by rw [Rat.divInt_eq_div]; show (n : Rat) / 1 = n; grind
end Go.Proofs.YthdaimoankaciaaGreatDoor
set_option linter.unusedSimpArgs false
set_option linter.unusedVariables false
namespace Go.Proofs.YthdaimoankaciaaGreatDoor
open Go Go.RowKit Go.Sy
open Vi
end Go.Proofs.YthdaimoankaciaaGreatDoor
set_option linter.unusedSimpArgs false
set_option linter.unusedVariables false
namespace Go.Proofs.YthdaimoankaciaaGreatDoor
open Go Go.RowKit Go.Sy
open Vi
end Go.Proofs.YthdaimoankaciaaGreatDoor
set_option linter.unusedSimpArgs false
set_option linter.unusedVariables false
namespace Go.Proofs.YthdaimoankaciaaGreatDoor
open Go Go.RowKit Go.Sy
open Vi
noncomputable def isq (X : Nat) : Nat := Classical.choose (isRt_ex X)
theorem isq_spec (X : Nat) : IsRt X (isq X) := Classical.choose_spec (isRt_ex X)
theorem iSqrt (x : Int) (h0 : 0 ≤ x) (hx : (mg x).size ≤ 1048576) : Sp Tryz.prog 106 [] [iV x] (.tuple #[iV ((isq x.toNat : Nat) : Int), nV 0]) [] := by
 have h := isq_spec x.toNat
 have e : x.natAbs = x.toNat := by omega
 exact Sp.of (fun xs w => Tryz.call106 xs w) (by kernel_rfl) (by kernel_rfl) (fun w => Sqrt_c x (isq x.toNat) h0 (by rw [e]; exact h.1) (by rw [e]; exact h.2) w hx)
theorem jSqrt (x : Int) (h0 : 0 ≤ x) (hx : (mg x).size ≤ 1048576) : Sp Tryz.prog 113 [] [iV x] (iV ((isq x.toNat : Nat) : Int)) [] := by
 have h := isq_spec x.toNat
 have e : x.natAbs = x.toNat := by omega
 exact Sp.of (fun xs w => Tryz.call113 xs w) (by kernel_rfl) (by kernel_rfl) (fun w => rSqrt_c x (isq x.toNat) h0 (by rw [e]; exact h.1) (by rw [e]; exact h.2) w hx)
def p2 (n : Nat) : Int := 2 ^ n
end Go.Proofs.YthdaimoankaciaaGreatDoor
set_option linter.unusedSimpArgs false
set_option linter.unusedVariables false
namespace Go.Proofs.YthdaimoankaciaaGreatDoor
open Go Go.RowKit Go.Sy
open Vi
theorem jFromInt (n : Int) (h1 : -9223372036854775808 ≤ n) (h2 : n ≤ 9223372036854775807) : Sp Tryz.prog 112 [] [nV n] (iV n) [] := Sp.of (fun xs w => Tryz.call112 xs w) (by kernel_rfl) (by kernel_rfl) (fun w => rFromInt_c n w h1 h2)
end Go.Proofs.YthdaimoankaciaaGreatDoor
set_option linter.unusedSimpArgs false
set_option linter.unusedVariables false
namespace Go.Proofs.YthdaimoankaciaaGreatDoor
open Go Go.RowKit Go.Sy
open Vi
end Go.Proofs.YthdaimoankaciaaGreatDoor

end
section
/- The reference's root and Root. -/
set_option linter.unusedSimpArgs false
set_option linter.unusedVariables false
namespace Go.Proofs.YthdaimoankaciaaGreatDoor
open Go Go.RowKit Go.Sy
open Vi
theorem cmpN_lss {x y : Nat} {b : Bool} (h : decide (x < y) = b) : decide (cmpN x y < 0) = b := by
 rw [← h]; unfold cmpN
 by_cases h1 : x < y
 ·rw [if_pos h1, decide_eq_true h1]; rfl
 ·rw [if_neg h1, decide_eq_false h1]; split <;> rfl
theorem cmpN_leq {x y : Nat} {b : Bool} (h : decide (x ≤ y) = b) : decide (cmpN x y ≤ 0) = b := by
 rw [← h]; unfold cmpN
 by_cases h1 : x < y
 ·have e : decide (x ≤ y) = true := decide_eq_true (by omega)
  rw [if_pos h1, e]; rfl
 ·rw [if_neg h1]
  by_cases h2 : x = y
  ·have e : decide (x ≤ y) = true := decide_eq_true (by omega)
   rw [if_pos h2, e]; rfl
  ·have e : decide (x ≤ y) = false := decide_eq_false (by omega)
   rw [if_neg h2, e]; rfl
theorem cmpN_neq {x y : Nat} {b : Bool} (h : decide (x = y) = b) : (!decide (cmpN x y = 0)) = !b := by
 rw [← h]; unfold cmpN
 by_cases h1 : x < y
 ·have e : decide (x = y) = false := decide_eq_false (by omega)
  rw [if_pos h1, e]; rfl
 ·rw [if_neg h1]
  by_cases h2 : x = y
  ·have e : decide (x = y) = true := decide_eq_true h2
   rw [if_pos h2, e]; rfl
  ·have e : decide (x = y) = false := decide_eq_false h2
   rw [if_neg h2, e]; rfl
def stR (X l h : Nat) : St := ⟨34, 1, [(0, row 1 (nd 256 X)), (3, row 2 (nd 256 l)), (4, row 3 (nd 256 h))], junk, [(1, rws (rD X).1 (rD X).2), (2, rws (rD l).1 (rD l).2), (3, rws (rD h).1 (rD h).2)], 4⟩
def stR1 (r : Nat) : St := ⟨34, 1, [(3, row 1 (nd 256 r))], junk, [(1, rws (rD r).1 (rD r).2)], 2⟩
theorem dPlus1 (x : Nat) (hx : nd 256 x ≤ 4294967296) : Sp Tryz.prog 139 [rD x, (1, [nV 1])] [row 0 (nd 256 x), row 1 1] (row 2 (nd 256 (x + 1))) [rD (x + 1)] := by
 have := dPlus x 1 hx (by rw [nd_small 1 (by omega) (by omega)]; omega)
 rw [nd_small 1 (by omega) (by omega), rD_small 1 (by omega) (by omega)] at this
 exact this
theorem dHalf (x : Nat) (hx : nd 256 x ≤ 1048576) : Sp Tryz.prog 143 [rD x, (1, [nV 2])] [row 0 (nd 256 x), row 1 1] (.tuple #[row 2 (nd 256 (x / 2)), row 3 (nd 256 (x % 2))]) [rD (x / 2), rD (x % 2)] := by
 have := dDivide x 2 (by omega) hx (by rw [nd_small 2 (by omega) (by omega)]; omega)
 rw [nd_small 2 (by omega) (by omega), rD_small 2 (by omega) (by omega)] at this
 exact this
theorem nd_bound {x X : Nat} (h : x ≤ X + 1) : nd 256 x ≤ nd 256 X + 2 := by
 have h1 := nd_mono 256 (by omega) x (X + 1) h
 have h2 := nd_add X 1
 rw [nd_small 1 (by omega) (by omega)] at h2
 omega
theorem root_loop (X : Nat) (hX : nd 256 X ≤ 131000) : ∀ (m l h : Nat), h - l ≤ m → l < h → h ≤ X + 1 → l * l ≤ X → X < h * h →
    ∃ r, IsRt X r ∧ RoundsOk Tryz.prog (nthLoop 0 (Tryz.f159.body.getD .skip)) (stR X l h) (.exit 0) (stR1 r)
 | 0, l, h, hm, hl, _, _, _ => by omega
 | m + 1, l, h, hm, hlh, hhX, h1, h2 => by
  have nl := nd_bound (x := l) (X := X) (by omega)
  have nh := nd_bound hhX
  have nl1 := nd_bound (x := l + 1) (X := X) (by omega)
  have P1 := dPlus1 l (by omega)
  have C1 := dCompare (l + 1) h (by omega) (by omega)
  by_cases hd : l + 1 < h
  ·have e1 := cmpN_lss (x := l + 1) (y := h) (b := true) (decide_eq_true hd)
   have P2 := dPlus l h (by omega) (by omega)
   have n2 := nd_add l h
   have D := dHalf (l + h) (by omega)
   have hmid : (l + h) / 2 < h := by omega
   have hmid2 : l < (l + h) / 2 := by omega
   have nm := nd_bound (x := (l + h) / 2) (X := X) (by omega)
   generalize (l + h) / 2 = M at *
   generalize (l + h) % 2 = R at *
   have T := dTimes M M (by omega) (by omega)
   have nt := nd_mul M M
   have C2 := dCompare (M * M) X (by omega) (by omega)
   by_cases hle : M * M ≤ X
   ·have e2 := cmpN_leq (x := M * M) (y := X) (b := true) (decide_eq_true hle)
    obtain ⟨r, hr, ih⟩ := root_loop X hX m M h (by omega) hmid hhX hle h2
    generalize M * M = MM at *
    generalize l + h = S2 at *
    generalize l + 1 = l1 at *
    exact ⟨r, hr, .more (piece [(1, 1), (2, 8), (3, 3)] [cr P1, cr C1, eb e1, cr P2, cr D, cr T, cr C2, eb e2] fol (by kernel_rfl)) ih⟩
   ·have e2 := cmpN_leq (x := M * M) (y := X) (b := false) (decide_eq_false hle)
    obtain ⟨r, hr, ih⟩ := root_loop X hX m l M (by omega) hmid2 (by omega) h1 (by omega)
    generalize M * M = MM at *
    generalize l + h = S2 at *
    generalize l + 1 = l1 at *
    exact ⟨r, hr, .more (piece [(1, 1), (2, 2), (3, 8)] [cr P1, cr C1, eb e1, cr P2, cr D, cr T, cr C2, eb e2] fol (by kernel_rfl)) ih⟩
  ·have e1 := cmpN_lss (x := l + 1) (y := h) (b := false) (decide_eq_false hd)
   have : h = l + 1 := by omega
   subst this
   exact ⟨l, ⟨h1, h2⟩, .out (by simp) (piece [(1, 2)] [cr P1, cr C1, eb e1] fol (by kernel_rfl))⟩
theorem rD_zero : rD 0 = (0, []) := by unfold rD; rw [nd_zero]; rfl
theorem dRoot (X : Nat) (hX : nd 256 X ≤ 131000) : ∃ r, IsRt X r ∧ Sp Tryz.prog 159 [rD X] [row 0 (nd 256 X)] (row 1 (nd 256 r)) [rD r] := by
 have e : (X + 1) * (X + 1) = X * X + 2 * X + 1 := by grind
 obtain ⟨r, hr, hl⟩ := root_loop X hX (X + 1) 0 (X + 1) (by omega) (by omega) (Nat.le_refl _) (by omega) (by omega)
 have hl := hl.loop
 have P := dPlus1 X (by omega)
 unfold stR at hl
 rw [rD_zero, nd_zero] at hl
 generalize X + 1 = X1 at *
 exact ⟨r, hr, walk (code := Tryz.f159.body.getD .skip) [cr P, lp [(1, 0), (2, 1), (3, 3)] hl] fol Tryz.func159 (by kernel_rfl) (fun xs w => Tryz.call159 xs w) (by kernel_rfl)⟩
theorem rRoot (p : Rat) (hp : Fits p) : (∃ q : Rat, 0 ≤ q ∧ q * q = p ∧ Sp Tryz.prog 120 [] [rV p] (.tuple #[rV q, .bool true]) []) ∨ ((∀ q : Rat, q * q ≠ p) ∧ Sp Tryz.prog 120 [] [rV p] (.tuple #[rZ, .bool false]) []) := by
 have p1 := hp.1
 have p2 := hp.2
 have hO := fOf p hp
 obtain ⟨n, hn, R1⟩ := dRoot p.num.natAbs p1
 obtain ⟨d, hd, R2⟩ := dRoot p.den p2
 have hd0 : 0 < p.den := by have := p.den_nz; omega
 have n1 := Nat.le_mul_self n
 have n2 := Nat.le_mul_self d
 have zn := nd_mono 256 (by omega) n p.num.natAbs (by have := hn.1; omega)
 have zd := nd_mono 256 (by omega) d p.den (by have := hd.1; omega)
 have T1 := dTimes n n (by omega) (by omega)
 have T2 := dTimes d d (by omega) (by omega)
 have m1 := nd_mono 256 (by omega) (n * n) p.num.natAbs hn.1
 have m2 := nd_mono 256 (by omega) (d * d) p.den hd.1
 have C1 := dCompare (n * n) p.num.natAbs (by omega) (by omega)
 have C2 := dCompare (d * d) p.den (by omega) (by omega)
 have isq : ∀ X r s : Nat, IsRt X r → s * s = X → r * r = X := by
  intro X r s ⟨h1, h2⟩ h3
  have : r = s := by
   apply Nat.le_antisymm
   ·apply Nat.le_of_not_lt; intro h
    have := Nat.mul_le_mul (show s + 1 ≤ r by omega) (show s + 1 ≤ r by omega)
    have e : (s + 1) * (s + 1) = s * s + 2 * s + 1 := by grind
    omega
   ·apply Nat.le_of_not_lt; intro h
    have := Nat.mul_le_mul (show r + 1 ≤ s by omega) (show r + 1 ≤ s by omega)
    omega
  rw [this, h3]
 have parts : ∀ q : Rat, q * q = p → q.num * q.num = p.num ∧ q.den * q.den = p.den := by
  intro q hq
  obtain ⟨e1, e2⟩ := sq_parts q
  rw [hq] at e1 e2
  exact ⟨e1.symm, e2.symm⟩
 cases hs : sg p.num
 ·have hnn : 0 ≤ p.num := by unfold sg at hs; simpa using hs
  rw [hs] at hO
  by_cases h1 : n * n = p.num.natAbs
  ·have e1 := cmpN_neq (x := n * n) (y := p.num.natAbs) (b := true) (decide_eq_true h1)
   by_cases h2 : d * d = p.den
   ·have e2 := cmpN_neq (x := d * d) (y := p.den) (b := true) (decide_eq_true h2)
    have dp : 0 < d := by
     rcases Nat.eq_zero_or_pos d with h | h
     ·rw [h] at h2; omega
     ·exact h
    have hC := fCan false n d dp (by omega) (by omega)
    left
    refine ⟨Rat.divInt (n : Int) (d : Int), Rat.divInt_nonneg (by omega) (by omega), ?_, ?_⟩
    ·rw [Rat.divInt_mul_divInt, show (n : Int) * n = p.num by rw [← Int.natCast_mul, h1]; omega, show (d : Int) * d = (p.den : Int) by rw [← Int.natCast_mul, h2]]
     exact Rat.num_divInt_den p
    ·have hC : Sp Tryz.prog 131 [rD n, rD d] [fV false n d] (rV (Rat.divInt (n : Int) (d : Int))) [] := hC
     generalize Rat.divInt (n : Int) (d : Int) = q at *
     generalize n * n = nn at *
     generalize d * d = dd at *
     generalize p.num.natAbs = X at *
     generalize p.den = Y at *
     exact walk (code := Tryz.f120.body.getD .skip) [cr hO, cr R1, cr R2, cr T1, cr C1, eb e1, cr T2, cr C2, eb e2, cr hC] fol Tryz.func120 (by kernel_rfl) (fun xs w => Tryz.call120 xs w) (by kernel_rfl)
   ·right
    refine ⟨fun q hq => h2 (isq p.den d q.den hd (parts q hq).2), ?_⟩
    have e2 := cmpN_neq (x := d * d) (y := p.den) (b := false) (decide_eq_false h2)
    generalize n * n = nn at *
    generalize d * d = dd at *
    generalize p.num.natAbs = X at *
    generalize p.den = Y at *
    exact walk (code := Tryz.f120.body.getD .skip) [cr hO, cr R1, cr R2, cr T1, cr C1, eb e1, cr T2, cr C2, eb e2] fol Tryz.func120 (by kernel_rfl) (fun xs w => Tryz.call120 xs w) (by kernel_rfl)
  ·right
   refine ⟨fun q hq => h1 (isq p.num.natAbs n q.num.natAbs hn ?_), ?_⟩
   ·rw [← (parts q hq).1, Int.natAbs_mul]
   ·have e1 := cmpN_neq (x := n * n) (y := p.num.natAbs) (b := false) (decide_eq_false h1)
    generalize n * n = nn at *
    generalize d * d = dd at *
    generalize p.num.natAbs = X at *
    generalize p.den = Y at *
    exact walk (code := Tryz.f120.body.getD .skip) [cr hO, cr R1, cr R2, cr T1, cr C1, eb e1] fol Tryz.func120 (by kernel_rfl) (fun xs w => Tryz.call120 xs w) (by kernel_rfl)
 ·right
  rw [hs] at hO
  refine ⟨fun q hq => ?_, ?_⟩
  ·have h1 := (parts q hq).1
   have h2 : p.num < 0 := by unfold sg at hs; simpa using hs
   have h3 : 0 ≤ q.num * q.num := by
    rcases Int.le_total 0 q.num with h0 | h0
    ·exact Int.mul_nonneg h0 h0
    ·exact Int.mul_nonneg_of_nonpos_of_nonpos h0 h0
   omega
  ·generalize p.num.natAbs = X at *
   generalize p.den = Y at *
   exact walk (code := Tryz.f120.body.getD .skip) [cr hO, cr R1, cr R2] fol Tryz.func120 (by kernel_rfl) (fun xs w => Tryz.call120 xs w) (by kernel_rfl)
end Go.Proofs.YthdaimoankaciaaGreatDoor

end
section
/- No program in sight: bounds of sums, products, squares and quotients. -/
set_option linter.unusedSimpArgs false
set_option linter.unusedVariables false
namespace Vi
end Vi
set_option linter.unusedSimpArgs false
set_option linter.unusedVariables false
namespace Go.Proofs.YthdaimoankaciaaGreatDoor
open Go Go.RowKit Go.Sy
open Vi
end Go.Proofs.YthdaimoankaciaaGreatDoor
set_option linter.unusedSimpArgs false
set_option linter.unusedVariables false
namespace Go.Proofs.YthdaimoankaciaaGreatDoor
open Go Go.RowKit Go.Sy
open Vi
end Go.Proofs.YthdaimoankaciaaGreatDoor
set_option linter.unusedSimpArgs false
set_option linter.unusedVariables false
namespace Go.Proofs.YthdaimoankaciaaGreatDoor
open Go Go.RowKit Go.Sy
open Vi
end Go.Proofs.YthdaimoankaciaaGreatDoor
set_option linter.unusedSimpArgs false
set_option linter.unusedVariables false
namespace Go.Proofs.YthdaimoankaciaaGreatDoor
open Go Go.RowKit Go.Sy
open Vi
end Go.Proofs.YthdaimoankaciaaGreatDoor

end
section
/- The program's numbers with a root: signs, comparison, moves. -/
set_option linter.unusedSimpArgs false
set_option linter.unusedVariables false
namespace Go.Proofs.YthdaimoankaciaaGreatDoor
open Go Go.RowKit Go.Sy
open Vi
def rlV (x : Rl) : Value := .agg #[.bool (sg x.p.num), .string (mg x.p.num), .bool (sg (dn x.p)), .string (mg (dn x.p)), .bool (sg x.r.num), .string (mg x.r.num), .bool (sg (dn x.r)), .string (mg (dn x.r)), .bool x.neg]
theorem sgQ_in (a : Rat) : -1 ≤ sgQ a ∧ sgQ a ≤ 1 := by rcases sgQ_cases a with ⟨h, _⟩ | ⟨h, _⟩ | ⟨h, _⟩ <;> rw [h] <;> omega
theorem sgR_in (a : RR) : -1 ≤ sgR a ∧ sgR a ≤ 1 := by rcases RR.sg_cases a with ⟨h, _⟩ | ⟨h, _⟩ | ⟨h, _⟩ <;> rw [h] <;> omega
theorem mul_in1 {a b : Int} (ha : -1 ≤ a ∧ a ≤ 1) (hb : -1 ≤ b ∧ b ≤ 1) : -1 ≤ a * b ∧ a * b ≤ 1 := by
 rcases (by omega : a = -1 ∨ a = 0 ∨ a = 1) with h | h | h <;> subst h <;> omega
theorem pSgn (p : Rat) : Sp Tryz.prog 86 [] [rV p] (nV (sgQ p)) [] := by
 have := pSign p
 rwa [cmpI_sg] at this
theorem pCmp (p q : Rat) (hp : Fits p) (hq : Fits q) : Sp Tryz.prog 123 [] [rV p, rV q] (nV (sgQ (p - q))) [] := by
 have := pCompare p q hp hq
 rwa [cmpQ_sg] at this
theorem qSign (a b r : Rat) (k : Nat) (hk : k ≤ 20000) [HasSz a k] [HasSz b k] [HasSz r k] : Sp Tryz.prog 94 [] [rV a, rV b, rV r] (nV (signF a b r)) [] := by
 have S1 := pSgn a
 have S2 := pSgn b
 have S3 := pSgn r
 have A := pMul a a fz fz
 have B := pMul b b fz fz
 have C := pMul (b * b) r fz fz
 have D := pCmp (a * a) (b * b * r) fz fz
 have b1 := sgQ_in a
 have b2 := mul_in1 (sgQ_in b) (sgQ_in r)
 have b3 := sgQ_in (a * a - b * b * r)
 have b4 := mul_in1 b1 b3
 obtain ⟨n, hn⟩ : ∃ n, n = sgQ b * sgQ r := ⟨_, rfl⟩
 obtain ⟨v, hv⟩ : ∃ v, v = sgQ a * sgQ (a * a - b * b * r) := ⟨_, rfl⟩
 have w1 : IntKind.i64.wrap (sgQ b * sgQ r) = n := by rw [hn]; exact w64 (by omega) (by omega)
 have w2 : IntKind.i64.wrap (sgQ a * sgQ (a * a - b * b * r)) = v := by rw [hv]; exact w64 (by omega) (by omega)
 unfold signF
 rw [← hn, ← hv]
 clear hn hv b1 b2 b3 b4
 generalize a * a - b * b * r = f at *
 generalize b * b * r = g at *
 generalize b * b = h at *
 generalize a * a = i at *
 generalize sgQ f = j at *
 generalize sgQ a = m at *
 generalize sgQ b = u1 at *
 generalize sgQ r = u2 at *
 by_cases h1 : n = 0
 ·rw [if_pos (.inl h1)]
  have e1 : decide (n = 0) = true := decide_eq_true h1
  clear h1
  exact walk (code := Tryz.f94.body.getD .skip) [c S1, c S2, c S3, Go.Sy.e (congrArg (Value.int IntKind.i64) w1), eb e1] fol Tryz.func94 (by kernel_rfl) (fun xs w => Tryz.call94 xs w) (by kernel_rfl)
 ·have e1 : decide (n = 0) = false := decide_eq_false h1
  by_cases h2 : m = n
  ·rw [if_pos (.inr h2)]
   have e2 : decide (m = n) = true := decide_eq_true h2
   clear h1 h2
   exact walk (code := Tryz.f94.body.getD .skip) [c S1, c S2, c S3, Go.Sy.e (congrArg (Value.int IntKind.i64) w1), eb e1, eb e2] fol Tryz.func94 (by kernel_rfl) (fun xs w => Tryz.call94 xs w) (by kernel_rfl)
  ·rw [if_neg (by rintro (h | h) <;> contradiction)]
   have e2 : decide (m = n) = false := decide_eq_false h2
   by_cases h3 : m = 0
   ·rw [if_pos h3]
    have e3 : decide (m = 0) = true := decide_eq_true h3
    clear h1 h2 h3
    exact walk (code := Tryz.f94.body.getD .skip) [c S1, c S2, c S3, Go.Sy.e (congrArg (Value.int IntKind.i64) w1), eb e1, eb e2, eb e3] fol Tryz.func94 (by kernel_rfl) (fun xs w => Tryz.call94 xs w) (by kernel_rfl)
   ·rw [if_neg h3]
    have e3 : decide (m = 0) = false := decide_eq_false h3
    clear h1 h2 h3
    exact walk (code := Tryz.f94.body.getD .skip) [c S1, c S2, c S3, Go.Sy.e (congrArg (Value.int IntKind.i64) w1), eb e1, eb e2, eb e3, c A, c B, c C, c D, Go.Sy.e (congrArg (Value.int IntKind.i64) w2)] fol Tryz.func94 (by kernel_rfl) (fun xs w => Tryz.call94 xs w) (by kernel_rfl)
theorem qFactor (x : Rl) : Sp Tryz.prog 93 [] [rlV x] (rV x.s) [] := by
 have F1 := pI (-1) (by omega) (by omega)
 have F2 := pI 1 (by omega) (by omega)
 obtain ⟨p, r, neg⟩ := x
 unfold Rl.s
 cases neg
 ·exact walk (code := Tryz.f93.body.getD .skip) [c F2] fol Tryz.func93 (by kernel_rfl) (fun xs w => Tryz.call93 xs w) (by kernel_rfl)
 ·exact walk (code := Tryz.f93.body.getD .skip) [c F1] fol Tryz.func93 (by kernel_rfl) (fun xs w => Tryz.call93 xs w) (by kernel_rfl)
theorem qFromRat (q : Rat) : Sp Tryz.prog 68 [] [rV q] (rlV (Rl.rat q)) [] := by
 have z := rV0
 unfold Rl.rat rlV
 rw [show (0 : Rat).num = 0 from rfl, show dn 0 = 0 from rfl, sg0, mg0]
 exact walk (code := Tryz.f68.body.getD .skip) [] fol Tryz.func68 (by kernel_rfl) (fun xs w => Tryz.call68 xs w) (by kernel_rfl)
theorem qShift (x : Rl) (q : Rat) (hx : Fits x.p) (hq : Fits q) : Sp Tryz.prog 30 [] [rlV x, rV q] (rlV ⟨x.p + q, x.r, x.neg⟩) [] := by
 obtain ⟨p, r, neg⟩ := x
 dsimp only at *
 exact walk (code := Tryz.f30.body.getD .skip) [c (pAdd p q hx hq)] fol Tryz.func30 (by kernel_rfl) (fun xs w => Tryz.call30 xs w) (by kernel_rfl)
instance (x : Rl) : HasSz x.s 1 := by
 unfold Rl.s
 split
 ·exact (inferInstance : HasSz (-(1 : Rat)) 1)
 ·exact (inferInstance : HasSz (1 : Rat) 1)
theorem qCompare (x y : Rl) (k : Nat) (hk : k ≤ 3000) (hk1 : 1 ≤ k) [HasSz x.p k] [HasSz x.r k] [HasSz y.p k] [HasSz y.r k] (hx : 0 ≤ x.r) (hy : 0 ≤ y.r) : Sp Tryz.prog 26 [] [rlV x, rlV y] (nV (Rl.cmp x y)) [] := by
 rw [← Rl.cmpF_eq x y hx hy]
 have D := pSub x.p y.p fz fz
 have F1 := qFactor x
 have F2 := qFactor y
 have N := pNeg y.s
 haveI i1 : HasSz x.r (k + k + 1) := hs_mono ‹HasSz x.r k› (by omega)
 haveI i2 : HasSz x.s (k + k + 1) := hs_mono (inferInstance : HasSz x.s 1) (by omega)
 have S1 := qSign (x.p - y.p) x.s x.r (k + k + 1) (by omega)
 have S2 := pSgn (-y.s)
 have S3 := pSgn y.r
 clear i1 i2
 have A := pMul (x.p - y.p) (x.p - y.p) fz fz
 have B := pAdd ((x.p - y.p) * (x.p - y.p)) x.r fz fz
 have C := pSub ((x.p - y.p) * (x.p - y.p) + x.r) y.r fz fz
 have T := pI 2 (by omega) (by omega)
 have E := pMul (x.p - y.p) x.s fz fz
 have G := pMul 2 ((x.p - y.p) * x.s) fz fz
 haveI i1 : HasSz ((x.p - y.p) * (x.p - y.p) + x.r - y.r) (6 * k + 6) := hs_mono inferInstance (show k + k + 1 + (k + k + 1) + k + 1 + k + 1 ≤ _ by omega)
 haveI i2 : HasSz (2 * ((x.p - y.p) * x.s)) (6 * k + 6) := hs_mono inferInstance (show 1 + (k + k + 1 + 1) ≤ _ by omega)
 haveI i3 : HasSz x.r (6 * k + 6) := hs_mono ‹HasSz x.r k› (by omega)
 have S4 := qSign ((x.p - y.p) * (x.p - y.p) + x.r - y.r) (2 * ((x.p - y.p) * x.s)) x.r (6 * k + 6) (by omega)
 clear i1 i2 i3
 have b1 : -1 ≤ signF (x.p - y.p) x.s x.r ∧ signF (x.p - y.p) x.s x.r ≤ 1 := by rw [signF_eq _ _ _ hx]; exact sgR_in _
 have b2 := mul_in1 (sgQ_in (-y.s)) (sgQ_in y.r)
 have b3 : -1 ≤ signF ((x.p - y.p) * (x.p - y.p) + x.r - y.r) (2 * ((x.p - y.p) * x.s)) x.r ∧ signF ((x.p - y.p) * (x.p - y.p) + x.r - y.r) (2 * ((x.p - y.p) * x.s)) x.r ≤ 1 := by rw [signF_eq _ _ _ hx]; exact sgR_in _
 have b4 := mul_in1 b1 b3
 obtain ⟨n, hn⟩ : ∃ n, n = sgQ (-y.s) * sgQ y.r := ⟨_, rfl⟩
 obtain ⟨v, hv⟩ : ∃ v, v = signF (x.p - y.p) x.s x.r * signF ((x.p - y.p) * (x.p - y.p) + x.r - y.r) (2 * ((x.p - y.p) * x.s)) x.r := ⟨_, rfl⟩
 have w1 : IntKind.i64.wrap (sgQ (-y.s) * sgQ y.r) = n := by rw [hn]; exact w64 (by omega) (by omega)
 have w2 : IntKind.i64.wrap (signF (x.p - y.p) x.s x.r * signF ((x.p - y.p) * (x.p - y.p) + x.r - y.r) (2 * ((x.p - y.p) * x.s)) x.r) = v := by rw [hv]; exact w64 (by omega) (by omega)
 unfold Rl.cmpF
 rw [← hn, ← hv]
 clear hn hv b1 b2 b3 b4
 rw [show ((2 : Int) : Rat) = 2 from rfl] at T
 generalize signF ((x.p - y.p) * (x.p - y.p) + x.r - y.r) (2 * ((x.p - y.p) * x.s)) x.r = s4 at *
 generalize signF (x.p - y.p) x.s x.r = m at *
 generalize sgQ (-y.s) = u1 at *
 generalize sgQ y.r = u2 at *
 generalize 2 * ((x.p - y.p) * x.s) = t1 at *
 generalize (x.p - y.p) * x.s = t2 at *
 generalize (x.p - y.p) * (x.p - y.p) + x.r - y.r = t3 at *
 generalize (x.p - y.p) * (x.p - y.p) + x.r = t4 at *
 generalize (x.p - y.p) * (x.p - y.p) = t5 at *
 generalize x.p - y.p = t6 at *
 generalize -y.s = t7 at *
 generalize x.s = t8 at *
 generalize y.s = t9 at *
 generalize (2 : Rat) = t10 at *
 obtain ⟨xp, xr, xn⟩ := x
 obtain ⟨yp, yr, yn⟩ := y
 dsimp only at *
 by_cases h1 : n = 0
 ·rw [if_pos (.inl h1)]
  have e1 : decide (n = 0) = true := decide_eq_true h1
  clear h1
  exact walk (code := Tryz.f26.body.getD .skip) [c D, c F1, c F2, c N, c S1, c S2, c S3, Go.Sy.e (congrArg (Value.int IntKind.i64) w1), eb e1] fol Tryz.func26 (by kernel_rfl) (fun xs w => Tryz.call26 xs w) (by kernel_rfl)
 ·have e1 : decide (n = 0) = false := decide_eq_false h1
  by_cases h2 : m = n
  ·rw [if_pos (.inr h2)]
   have e2 : decide (m = n) = true := decide_eq_true h2
   clear h1 h2
   exact walk (code := Tryz.f26.body.getD .skip) [c D, c F1, c F2, c N, c S1, c S2, c S3, Go.Sy.e (congrArg (Value.int IntKind.i64) w1), eb e1, eb e2] fol Tryz.func26 (by kernel_rfl) (fun xs w => Tryz.call26 xs w) (by kernel_rfl)
  ·rw [if_neg (by rintro (h | h) <;> contradiction)]
   have e2 : decide (m = n) = false := decide_eq_false h2
   by_cases h3 : m = 0
   ·rw [if_pos h3]
    have e3 : decide (m = 0) = true := decide_eq_true h3
    clear h1 h2 h3
    exact walk (code := Tryz.f26.body.getD .skip) [c D, c F1, c F2, c N, c S1, c S2, c S3, Go.Sy.e (congrArg (Value.int IntKind.i64) w1), eb e1, eb e2, eb e3] fol Tryz.func26 (by kernel_rfl) (fun xs w => Tryz.call26 xs w) (by kernel_rfl)
   ·rw [if_neg h3]
    have e3 : decide (m = 0) = false := decide_eq_false h3
    clear h1 h2 h3
    exact walk (code := Tryz.f26.body.getD .skip) [c D, c F1, c F2, c N, c S1, c S2, c S3, Go.Sy.e (congrArg (Value.int IntKind.i64) w1), eb e1, eb e2, eb e3, c A, c B, c C, c T, c E, c G, c S4, Go.Sy.e (congrArg (Value.int IntKind.i64) w2)] fol Tryz.func26 (by kernel_rfl) (fun xs w => Tryz.call26 xs w) (by kernel_rfl)
end Go.Proofs.YthdaimoankaciaaGreatDoor
set_option linter.unusedSimpArgs false
set_option linter.unusedVariables false
namespace Go.Proofs.YthdaimoankaciaaGreatDoor
open Go Go.RowKit Go.Sy
open Vi
theorem isq_all (X : Nat) : isq X * isq X ≤ X ∧ X < (isq X + 1) * (isq X + 1) := isq_spec X
theorem qNeg (x : Rl) : Sp Tryz.prog 29 [] [rlV x] (rlV x.ngR) [] := by
 have N := pNeg x.p
 obtain ⟨p, r, neg⟩ := x
 unfold Rl.ngR
 by_cases h : r = 0
 ·have B := binR0' r (b := false) (by simp [h])
  rw [decide_eq_true h]
  cases neg <;> exact walk (code := Tryz.f29.body.getD .skip) [c N, x2 B] fol Tryz.func29 (by kernel_rfl) (fun xs w => Tryz.call29 xs w) (by kernel_rfl)
 ·have B := binR0' r (b := true) (by simp [h])
  rw [decide_eq_false h]
  cases neg <;> exact walk (code := Tryz.f29.body.getD .skip) [c N, x2 B] fol Tryz.func29 (by kernel_rfl) (fun xs w => Tryz.call29 xs w) (by kernel_rfl)
theorem qCompareRat (x : Rl) (q : Rat) (k : Nat) (hk : k ≤ 3000) (hk1 : 1 ≤ k) [HasSz x.p k] [HasSz x.r k] [HasSz q k] (hx : 0 ≤ x.r) : Sp Tryz.prog 49 [] [rlV x, rV q] (nV (Rl.cmp x (Rl.rat q))) [] := by
 haveI : HasSz (Rl.rat q).p k := ‹HasSz q k›
 haveI : HasSz (Rl.rat q).r k := hs_mono (inferInstance : HasSz (0 : Rat) 1) hk1
 have C := qCompare x (Rl.rat q) k hk hk1 hx Rat.le_refl
 have F := qFromRat q
 generalize Rl.cmp x (Rl.rat q) = v at *
 exact walk (code := Tryz.f49.body.getD .skip) [c F, c C] fol Tryz.func49 (by kernel_rfl) (fun xs w => Tryz.call49 xs w) (by kernel_rfl)
theorem qScale (x : Rl) (q : Rat) (k : Nat) (hk : k ≤ 3000) [HasSz x.p k] [HasSz x.r k] [HasSz q k] : Sp Tryz.prog 31 [] [rlV x, rV q] (rlV (x.scR q)) [] := by
 have A := pMul q q fz fz
 have B := pMul (q * q) x.r fz fz
 have C := pMul x.p q fz fz
 have D := pSgn q
 have e0 : decide (sgQ q < 0) = decide (q < 0) := by
  rcases sgQ_cases q with ⟨h1, h2⟩ | ⟨h1, h2⟩ | ⟨h1, h2⟩ <;> rw [h1]
  ·rw [decide_eq_true h2]; rfl
  ·rw [show decide (q < 0) = false from decide_eq_false (by grind)]; rfl
  ·rw [show decide (q < 0) = false from decide_eq_false (by grind)]; rfl
 obtain ⟨p, r, neg⟩ := x
 unfold Rl.scR
 dsimp only at *
 by_cases h : q * q * r = 0
 ·have E := binR0' (q * q * r) (b := false) (by simp [h])
  rw [decide_eq_true h]
  clear h
  generalize q * q * r = s at *
  generalize q * q = t at *
  generalize p * q = u at *
  generalize (neg != decide (q < 0)) = v at *
  exact walk (code := Tryz.f31.body.getD .skip) [c A, c B, c C, x2 E] fol Tryz.func31 (by kernel_rfl) (fun xs w => Tryz.call31 xs w) (by kernel_rfl)
 ·have E := binR0' (q * q * r) (b := true) (by simp [h])
  rw [decide_eq_false h]
  clear h
  generalize q * q * r = s at *
  generalize q * q = t at *
  generalize p * q = u at *
  generalize decide (q < 0) = d at *
  generalize sgQ q = z at *
  cases d <;> cases neg <;> exact walk (code := Tryz.f31.body.getD .skip) [c A, c B, c C, x2 E, c D, eb e0] fol Tryz.func31 (by kernel_rfl) (fun xs w => Tryz.call31 xs w) (by kernel_rfl)
end Go.Proofs.YthdaimoankaciaaGreatDoor
set_option linter.unusedSimpArgs false
set_option linter.unusedVariables false
namespace Go.Proofs.YthdaimoankaciaaGreatDoor
open Go Go.RowKit Go.Sy
open Vi
theorem mg_mul (x y : Int) : (mg (x * y)).size ≤ (mg x).size + (mg y).size := by
 rw [mg_nd, mg_nd, mg_nd, Int.natAbs_mul]; exact nd_mul _ _
theorem mg_add (x y : Int) : (mg (x + y)).size ≤ (mg x).size + (mg y).size + 1 := by
 rw [mg_nd, mg_nd, mg_nd]
 exact Nat.le_trans (nd_mono 256 (by omega) _ _ (Int.natAbs_add_le x y)) (nd_add _ _)
theorem mg_neg (x : Int) : (mg (-x)).size = (mg x).size := by rw [mg_nd, mg_nd, Int.natAbs_neg]
theorem mg_sub (x y : Int) : (mg (x - y)).size ≤ (mg x).size + (mg y).size + 1 := by
 rw [Int.sub_eq_add_neg]
 have := mg_add x (-y)
 rw [mg_neg] at this
 exact this
theorem mg_one : (mg 1).size = 1 := by rw [mg1]; rfl
theorem iSub (x y : Int) (hx : (mg x).size ≤ 4294967296) (hy : (mg y).size ≤ 4294967296) : Sp Tryz.prog 108 [] [iV x, iV y] (iV (x - y)) [] := Sp.of (fun xs w => Tryz.call108 xs w) (by kernel_rfl) (by kernel_rfl) (fun w => Sub_c x y w hx hy)
theorem isq_mg (z : Int) : (mg ((isq z.toNat : Nat) : Int)).size ≤ (mg z).size := by
 rw [mg_nd, mg_nd, Int.natAbs_natCast]
 refine nd_mono 256 (by omega) _ _ ?_
 have h1 := (isq_all z.toNat).1
 have h2 := Nat.le_mul_self (isq z.toNat)
 omega
noncomputable abbrev fl (x : Rl) : Int := Rl.flI isq x
theorem fl_ok (x : Rl) (hx : x.Ok) : RR.IsFl x.val (fl x) := Rl.flI_ok isq isq_all x hx
theorem fl_size (x : Rl) (k : Nat) [hp : HasSz x.p k] [hr : HasSz x.r k] : (mg (fl x)).size ≤ 6 * k + 4 := by
 have s1 := hp.sz.num
 have s2 := hp.sz.den
 have s3 := hr.sz.num
 have s4 := hr.sz.den
 have m1 := mg_mul x.p.num x.r.den
 have m2 := mg_mul (x.p.den : Int) (x.p.den : Int)
 have m3 := mg_mul x.r.num x.r.den
 have m4 := mg_mul ((x.p.den : Int) * (x.p.den : Int)) (x.r.num * x.r.den)
 have m5 := isq_mg ((x.p.den : Int) * (x.p.den : Int) * (x.r.num * x.r.den))
 have m6 := mg_add (x.p.num * x.r.den) ((isq ((x.p.den : Int) * (x.p.den : Int) * (x.r.num * x.r.den)).toNat : Nat) : Int)
 have m7 := mg_add ((isq ((x.p.den : Int) * (x.p.den : Int) * (x.r.num * x.r.den)).toNat : Nat) : Int) 1
 have m8 := mg_sub (x.p.num * x.r.den) (((isq ((x.p.den : Int) * (x.p.den : Int) * (x.r.num * x.r.den)).toNat : Nat) : Int) + 1)
 rw [mg_one] at m7
 have ht : (mg (Rl.topI isq x)).size ≤ 6 * k + 4 := by
  unfold Rl.topI
  split <;> omega
 have h4 := Int.natAbs_ediv_le_natAbs (Rl.topI isq x) ((x.p.den : Int) * (x.r.den : Int))
 exact Nat.le_trans (mg_le h4) ht
theorem qFloor (x : Rl) (k : Nat) (hk : k ≤ 20000) (hx : 0 ≤ x.r) [hp : HasSz x.p k] [hr : HasSz x.r k] : Sp Tryz.prog 45 [] [rlV x] (iV (fl x)) [] := by
 have s1 := hp.sz.num
 have s2 := hp.sz.den
 have s3 := hr.sz.num
 have s4 := hr.sz.den
 have m1 := mg_mul x.p.num x.r.den
 have m2 := mg_mul (x.p.den : Int) (x.p.den : Int)
 have m3 := mg_mul x.r.num x.r.den
 have m4 := mg_mul ((x.p.den : Int) * (x.p.den : Int)) (x.r.num * x.r.den)
 have m5 := isq_mg ((x.p.den : Int) * (x.p.den : Int) * (x.r.num * x.r.den))
 have m6 := mg_add (x.p.num * x.r.den) ((isq ((x.p.den : Int) * (x.p.den : Int) * (x.r.num * x.r.den)).toNat : Nat) : Int)
 have m7 := mg_add ((isq ((x.p.den : Int) * (x.p.den : Int) * (x.r.num * x.r.den)).toNat : Nat) : Int) 1
 have m8 := mg_sub (x.p.num * x.r.den) (((isq ((x.p.den : Int) * (x.p.den : Int) * (x.r.num * x.r.den)).toNat : Nat) : Int) + 1)
 have m9 := mg_mul (x.p.den : Int) (x.r.den : Int)
 rw [mg_one] at m7
 have d1 := den_pos' x.p
 have d2 := den_pos' x.r
 have hn : 0 ≤ (x.p.den : Int) * (x.p.den : Int) * (x.r.num * x.r.den) := Int.mul_nonneg (Int.mul_nonneg (Int.le_of_lt d1) (Int.le_of_lt d1)) (Int.mul_nonneg (Rat.num_nonneg.2 hx) (Int.le_of_lt d2))
 have hD : (x.p.den : Int) * (x.r.den : Int) ≠ 0 := Int.ne_of_gt (Int.mul_pos d1 d2)
 have N1 := pNum x.p
 have N2 := pNum x.r
 have D1 := pDen x.p
 have D2 := pDen x.r
 have M1 := iMul (x.p.den : Int) (x.p.den : Int) (by omega) (by omega)
 have M2 := iMul x.r.num (x.r.den : Int) (by omega) (by omega)
 have M3 := iMul ((x.p.den : Int) * (x.p.den : Int)) (x.r.num * x.r.den) (by omega) (by omega)
 have Q := iSqrt _ hn (by omega)
 have M4 := iMul x.p.num (x.r.den : Int) (by omega) (by omega)
 have I := iFromInt 1 (by omega) (by omega)
 have A1 := iAdd ((isq ((x.p.den : Int) * (x.p.den : Int) * (x.r.num * x.r.den)).toNat : Nat) : Int) 1 (by omega) (by rw [mg_one]; omega)
 have A2 := iAdd (x.p.num * x.r.den) ((isq ((x.p.den : Int) * (x.p.den : Int) * (x.r.num * x.r.den)).toNat : Nat) : Int) (by omega) (by omega)
 have B := iSub (x.p.num * x.r.den) (((isq ((x.p.den : Int) * (x.p.den : Int) * (x.r.num * x.r.den)).toNat : Nat) : Int) + 1) (by omega) (by omega)
 have M5 := iMul (x.p.den : Int) (x.r.den : Int) (by omega) (by omega)
 have V1 := iDivMod (x.p.num * x.r.den + ((isq ((x.p.den : Int) * (x.p.den : Int) * (x.r.num * x.r.den)).toNat : Nat) : Int)) ((x.p.den : Int) * (x.r.den : Int)) hD (by omega) (by omega)
 have V2 := iDivMod (x.p.num * x.r.den - (((isq ((x.p.den : Int) * (x.p.den : Int) * (x.r.num * x.r.den)).toNat : Nat) : Int) + 1)) ((x.p.den : Int) * (x.r.den : Int)) hD (by omega) (by omega)
 unfold fl Rl.flI Rl.topI
 clear hx s1 s2 s3 s4 m1 m2 m3 m4 m5 m6 m7 m8 m9 d1 d2 hn hD hp hr
 obtain ⟨p, r, neg⟩ := x
 dsimp only at *
 generalize ((isq ((p.den : Int) * (p.den : Int) * (r.num * r.den)).toNat : Nat) : Int) = rt at *
 generalize (p.den : Int) * (p.den : Int) * (r.num * r.den) = t1 at *
 generalize (p.den : Int) * (p.den : Int) = t2 at *
 generalize r.num * (r.den : Int) = t3 at *
 cases neg
 ·rw [if_neg (by simp)]
  clear V2
  generalize (p.num * (r.den : Int) + rt) / ((p.den : Int) * (r.den : Int)) = q at *
  generalize (p.num * (r.den : Int) + rt) % ((p.den : Int) * (r.den : Int)) = q2 at *
  generalize p.num * (r.den : Int) + rt = t4 at *
  generalize p.num * (r.den : Int) = t5 at *
  generalize (p.den : Int) * (r.den : Int) = t6 at *
  generalize (p.den : Int) = t7 at *
  generalize (r.den : Int) = t8 at *
  exact walk (code := Tryz.f45.body.getD .skip) [c N1, c D1, c N2, c D2, c M1, c M2, c M3, c Q, c M4, c A2, c M5, c V1] fol Tryz.func45 (by kernel_rfl) (fun xs w => Tryz.call45 xs w) (by kernel_rfl)
 ·rw [if_pos rfl]
  clear V1
  generalize (p.num * (r.den : Int) - (rt + 1)) / ((p.den : Int) * (r.den : Int)) = q at *
  generalize (p.num * (r.den : Int) - (rt + 1)) % ((p.den : Int) * (r.den : Int)) = q2 at *
  generalize p.num * (r.den : Int) - (rt + 1) = t4 at *
  generalize p.num * (r.den : Int) = t5 at *
  generalize rt + 1 = t9 at *
  generalize (p.den : Int) * (r.den : Int) = t6 at *
  generalize (p.den : Int) = t7 at *
  generalize (r.den : Int) = t8 at *
  exact walk (code := Tryz.f45.body.getD .skip) [c N1, c D1, c N2, c D2, c M1, c M2, c M3, c Q, c M4, c I, c A1, c B, c M5, c V2] fol Tryz.func45 (by kernel_rfl) (fun xs w => Tryz.call45 xs w) (by kernel_rfl)
theorem qWhole (n : Int) (h : (mg n).size ≤ 100000) : Sp Tryz.prog 117 [] [iV n] (rV (n : Rat)) [] := by
 have M := pMake n 1 (by omega) (by omega) (by rw [mg_one]; omega)
 rw [divInt1] at M
 have I := iFromInt 1 (by omega) (by omega)
 exact walk (code := Tryz.f117.body.getD .skip) [c I, c M] fol Tryz.func117 (by kernel_rfl) (fun xs w => Tryz.call117 xs w) (by kernel_rfl)
end Go.Proofs.YthdaimoankaciaaGreatDoor
set_option linter.unusedSimpArgs false
set_option linter.unusedVariables false
namespace Go.Proofs.YthdaimoankaciaaGreatDoor
open Go Go.RowKit Go.Sy
open Vi
end Go.Proofs.YthdaimoankaciaaGreatDoor
set_option linter.unusedSimpArgs false
set_option linter.unusedVariables false
namespace Go.Proofs.YthdaimoankaciaaGreatDoor
open Go Go.RowKit Go.Sy
open Vi
theorem rSgn (p : Rat) : Sp Tryz.prog 60 [] [rV p] (nV (sgQ p)) [] := by
 have := rSign p
 rwa [cmpI_sg] at this
theorem rCmp (p q : Rat) (hp : Fits p) (hq : Fits q) : Sp Tryz.prog 71 [] [rV p, rV q] (nV (sgQ (p - q))) [] := by
 have := rCompare p q hp hq
 rwa [cmpQ_sg] at this
end Go.Proofs.YthdaimoankaciaaGreatDoor
set_option linter.unusedSimpArgs false
set_option linter.unusedVariables false
namespace Go.Proofs.YthdaimoankaciaaGreatDoor
open Go Go.RowKit Go.Sy
open Vi
def rlC (x : Rl) : List Value := [.bool (sg x.p.num), .string (mg x.p.num), .bool (sg (dn x.p)), .string (mg (dn x.p)), .bool (sg x.r.num), .string (mg x.r.num), .bool (sg (dn x.r)), .string (mg (dn x.r)), .bool x.neg]
end Go.Proofs.YthdaimoankaciaaGreatDoor
set_option linter.unusedSimpArgs false
set_option linter.unusedVariables false
namespace Go.Proofs.YthdaimoankaciaaGreatDoor
open Go Go.RowKit Go.Sy
open Vi
end Go.Proofs.YthdaimoankaciaaGreatDoor

end
section
/- No program in sight: a fraction of bounded size between two numbers; what is kept from one whole part to the next. -/
set_option linter.unusedSimpArgs false
set_option linter.unusedVariables false
namespace Go.Proofs.YthdaimoankaciaaGreatDoor
open Go Go.RowKit Go.Sy
open Vi RR
theorem fl_is (x : Rl) (hx : x.Ok) : IsFl x.val (fl x) := fl_ok x hx
theorem between_ex {x y : Rl} (hx : x.Ok) [h1 : HasSz x.p 8] [h2 : HasSz x.r 8] {G : Rat} {k : Nat} [hG : HasSz G k] (hlt : x.val < y.val) (h : 1 ≤ (y.val - x.val) * ofRat G) :
    ∃ t : Rat, Btw x.val y.val t ∧ HasSz t (k + 40) := by
 obtain ⟨N, hN⟩ : ∃ N : Nat, N = 256 ^ (k + 1) := ⟨_, rfl⟩
 have hN1 : ((256 ^ k : Nat) : Rat) < (N : Rat) := by
  have : 256 ^ k < N := by rw [hN, Nat.pow_succ]; have := Nat.pow_pos (a := 256) (n := k) (by omega); omega
  exact_mod_cast this
 have hGN := lt_of_le_of_lt' (rat_le_pow (q := G) (k := k)) hN1
 have hNp : (0 : Rat) < (N : Rat) := by
  have : 0 < N := by rw [hN]; exact Nat.pow_pos (by omega)
  exact_mod_cast this
 have hδ := sub_pos.2 hlt
 obtain ⟨m, hm⟩ : ∃ m, m = fl (x.scR (N : Rat)) := ⟨_, rfl⟩
 have f := fl_is (x.scR (N : Rat)) (Rl.scR_ok hx _)
 rw [Rl.scR_val hx, ← hm] at f
 obtain ⟨f1, f2⟩ := f
 have hB : Abs x.val (x.p * x.p + 1 + (x.r + 1)) := by
  have := (Abs.rat x.p).add (Abs.root x hx.nonneg)
  exact this
 have zB : HasSz (x.p * x.p + 1 + (x.r + 1)) 30 := hs_mono (inferInstance : HasSz (x.p * x.p + 1 + (x.r + 1)) (8 + 8 + 1 + 1 + (8 + 1 + 1) + 1)) (by omega)
 generalize x.p * x.p + 1 + (x.r + 1) = B at *
 have hB2 := rat_le_pow (q := B) (k := 30)
 obtain ⟨Q, hQ⟩ : ∃ Q : Nat, Q = N * 256 ^ 30 := ⟨_, rfl⟩
 have hNB : (N : Rat) * B ≤ (Q : Rat) := by
  rw [hQ]
  have := Rat.mul_le_mul_of_nonneg_left hB2 (Rat.le_of_lt hNp)
  rw [Rat.natCast_mul]
  exact this
 have u1 : (m : Rat) ≤ (Q : Rat) := by
  refine Rat.le_trans (rat_le.1 (le_trans f1 ?_)) hNB
  rw [rat_mul]
  refine le_of_nonneg (ofRat (N : Rat) * (ofRat B - x.val)) (mul_nonneg (rat_le.2 (Rat.le_of_lt hNp)) (sub_nonneg.2 hB.2)) ?_
  generalize (N : Rat) = M
  exact ring [M, B, x.val] (by decide +kernel)
 have u2 : -(Q : Rat) < ((m + 1 : Int) : Rat) := by
  have h5 : -((N : Rat) * B) < ((m + 1 : Int) : Rat) := by
   refine rat_lt.1 (lt_of_le_of_lt ?_ f2)
   rw [rat_neg, rat_mul]
   refine le_of_nonneg (ofRat (N : Rat) * (x.val - -ofRat B)) (mul_nonneg (rat_le.2 (Rat.le_of_lt hNp)) (sub_nonneg.2 hB.1)) ?_
   generalize (N : Rat) = M
   exact ring [M, B, x.val] (by decide +kernel)
  grind
 have v1 : m ≤ (Q : Int) := by exact_mod_cast u1
 have v2 : -(Q : Int) < m + 1 := by
  have : (((-(Q : Int)) : Int) : Rat) < ((m + 1 : Int) : Rat) := by rw [Rat.intCast_neg]; exact u2
  exact_mod_cast this
 have eT : Rat.divInt (m + 1) (N : Int) * (N : Rat) = ((m + 1 : Int) : Rat) := by
  rw [Rat.divInt_eq_div]
  exact Rat.div_mul_cancel (by have : ((N : Int) : Rat) = (N : Rat) := rfl
                               rw [this]; grind)
 have hn0 : (N : Int) ≠ 0 := by
  intro e
  have : (N : Rat) = 0 := by exact_mod_cast e
  grind
 refine ⟨Rat.divInt (m + 1) (N : Int), ⟨?_, ?_⟩, ⟨Sz.of _ _ (k + 40) hn0 ?_ ?_⟩⟩
 ·have hd : (0 : RR) < ofRat (N : Rat) := rat_lt.2 hNp
  rw [← mul_lt_iff hd, ← rat_mul, Rat.mul_comm, eT]
  exact f2
 ·have hd : (0 : RR) < ofRat (N : Rat) := rat_lt.2 hNp
  rw [← mul_lt_iff hd, ← rat_mul, Rat.mul_comm, eT]
  have h6 : (1 : RR) < (y.val - x.val) * ofRat (N : Rat) := by
   refine lt_of_le_of_lt h ?_
   rw [mul_lt_iff hδ]
   exact rat_lt.2 hGN
  have h7 : ofRat ((m + 1 : Int) : Rat) ≤ ofRat (N : Rat) * x.val + 1 := by
   rw [Rat.intCast_add, rat_add]
   exact le_add f1 (le_refl _)
  refine lt_of_le_of_lt h7 ?_
  refine lt_of_pos ((y.val - x.val) * ofRat (N : Rat) - 1) (sub_pos.2 h6) ?_
  generalize (N : Rat) = M
  exact ring [y.val, x.val, M] (by decide +kernel)
 ·have hQ2 : Q = 256 ^ (k + 31) := by rw [hQ, hN, ← Nat.pow_add]
  have : 2 * 256 ^ (k + 31) ≤ 256 ^ (k + 40) := by
   rw [show k + 40 = k + 31 + 9 by omega, Nat.pow_add 256 (k + 31) 9]
   have : 2 ≤ 256 ^ 9 := by decide
   rw [Nat.mul_comm]
   exact Nat.mul_le_mul_left _ this
  have hp := Nat.pow_pos (a := 256) (n := k + 31) (by omega)
  rw [← hQ2] at this hp
  omega
 ·rw [Int.natAbs_natCast, hN]
  exact Nat.pow_lt_pow_right (by omega) (by omega)
theorem btw_ex {x y : Rl} (hx : x.Ok) (hy : y.Ok) [h1 : HasSz x.p 8] [h2 : HasSz x.r 8] [h3 : HasSz y.p 8] [h4 : HasSz y.r 8] (hlt : x.val < y.val) : ∃ t : Rat, Btw x.val y.val t ∧ HasSz t 640 := by
 obtain ⟨G, hG, h⟩ := sep_num hx hy hlt
 exact between_ex hx hlt h
structure Jn (z1 z2 : Rl) (t0 : Rat) (x y : Rl) (t : Rat) (a b c d : Int) : Prop where
 rel : (Rm z1 x a b c d ∧ Rm z2 y a b c d) ∨ (Rm z2 x a b c d ∧ Rm z1 y a b c d)
 det : a * d - b * c = 1 ∨ a * d - b * c = -1
 a0 : 0 ≤ a
 b0 : 0 ≤ b
 c0 : 0 ≤ c
 d0 : 0 ≤ d
 num : t0.num = a * t.num + b * t.den
 den : (t0.den : Int) = c * t.num + d * t.den
theorem Jn.start (x y : Rl) (t : Rat) : Jn x y t x y t 1 0 0 1 :=
 ⟨.inl ⟨Rm.start x, Rm.start y⟩, .inl (by omega), by omega, by omega, by omega, by omega, by omega, by omega⟩
theorem Jn.next {z1 z2 x y x' y' : Rl} {t0 t : Rat} {a b c d n : Int} (h : Jn z1 z2 t0 x y t a b c d) (hn : 0 ≤ n) (ht : (n : Rat) < t) (hy : y'.val * (y.val - ofRat (n : Rat)) = 1) (hx : x'.val * (x.val - ofRat (n : Rat)) = 1) :
    Jn z1 z2 t0 y' x' (t - (n : Rat))⁻¹ (a * n + b) a (c * n + d) c := by
 have hp : 0 < t - (n : Rat) := (Rat.lt_iff_sub_pos _ _).1 ht
 obtain ⟨j1, j2⟩ := inv_pos_parts _ hp
 obtain ⟨k1, k2⟩ := sub_int n t
 have hn2 := num_pos_of _ hp
 have e1 : ((t - (n : Rat))⁻¹).num = (t.den : Int) := by rw [j1, k2]
 have e2 : (((t - (n : Rat))⁻¹).den : Int) = t.num - n * t.den := by rw [j2]; omega
 refine ⟨?_, ?_, Int.add_nonneg (Int.mul_nonneg h.a0 hn) h.b0, h.a0, Int.add_nonneg (Int.mul_nonneg h.c0 hn) h.d0, h.c0, ?_, ?_⟩
 ·rcases h.rel with ⟨r1, r2⟩ | ⟨r1, r2⟩
  ·exact .inr ⟨r2.next hy, r1.next hx⟩
  ·exact .inl ⟨r2.next hy, r1.next hx⟩
 ·have : (a * n + b) * c - a * (c * n + d) = -(a * d - b * c) := by grind
  rw [this]
  rcases h.det with g | g <;> rw [g] <;> omega
 ·rw [h.num, e1, e2]; grind
 ·rw [h.den, e1, e2]; grind
theorem Jn.small {z1 z2 x y : Rl} {t0 t : Rat} {a b c d : Int} (h : Jn z1 z2 t0 x y t a b c d) (ht : 0 < t) {m : Nat} (hs : Sz m t0) : a.natAbs < 256 ^ m ∧ b.natAbs < 256 ^ m ∧ c.natAbs < 256 ^ m ∧ d.natAbs < 256 ^ m := by
 have h1 := hs.1
 have h2 := hs.2
 have hn := num_pos_of t ht
 have hd : (0 : Int) < t.den := by have := t.den_nz; omega
 have e1 := h.num
 have e2 := h.den
 have a1 : a * 1 ≤ a * t.num := Int.mul_le_mul_of_nonneg_left (by omega) h.a0
 have b1 : b * 1 ≤ b * t.den := Int.mul_le_mul_of_nonneg_left (by omega) h.b0
 have c1 : c * 1 ≤ c * t.num := Int.mul_le_mul_of_nonneg_left (by omega) h.c0
 have d1 : d * 1 ≤ d * t.den := Int.mul_le_mul_of_nonneg_left (by omega) h.d0
 have a0 := h.a0
 have b0 := h.b0
 have c0 := h.c0
 have d0 := h.d0
 generalize 256 ^ m = M at *
 refine ⟨by omega, by omega, by omega, by omega⟩
theorem Jn.sizes {z1 z2 x y : Rl} {t0 t : Rat} {a b c d : Int} (h : Jn z1 z2 t0 x y t a b c d) (ht : 0 < t) {m : Nat} (hs : Sz m t0) (o1 : z1.Ok) (o2 : z2.Ok) (ox : x.Ok) (oy : y.Ok) [HasSz z1.p 8] [HasSz z1.r 8] [HasSz z2.p 8] [HasSz z2.r 8] :
    (HasSz x.p (2 * m + 27) ∧ HasSz x.r (4 * m + 62)) ∧ HasSz y.p (2 * m + 27) ∧ HasSz y.r (4 * m + 62) := by
 obtain ⟨sa, sb, sc, sd⟩ := h.small ht hs
 rcases h.rel with ⟨r1, r2⟩ | ⟨r1, r2⟩
 ·exact ⟨size_of o1 ox sa sb sc sd h.det r1, size_of o2 oy sa sb sc sd h.det r2⟩
 ·exact ⟨size_of o2 ox sa sb sc sd h.det r1, size_of o1 oy sa sb sc sd h.det r2⟩
end Go.Proofs.YthdaimoankaciaaGreatDoor

end
section
/- The program's Check of fractions. -/
set_option linter.unusedSimpArgs false
set_option linter.unusedVariables false
namespace Go.Proofs.YthdaimoankaciaaGreatDoor
open Go Go.RowKit Go.Sy
open Vi
theorem iCheck (b : Bool) (s : ByteArray) (hs : s.size ≤ 4294967296) : Sp Tryz.prog 160 [] [.agg #[.bool b, .string s]] (nV (if okInt b s then 0 else 5)) [] := Sp.of (fun xs w => Tryz.call160 xs w) (by kernel_rfl) (by kernel_rfl) (fun w => Check_c b s w hs)
theorem pCheck (b1 : Bool) (s1 : ByteArray) (b2 : Bool) (s2 : ByteArray) (h1 : s1.size ≤ 131000) (h2 : s2.size ≤ 131000) : Sp Tryz.prog 121 [] [.agg #[.bool b1, .string s1, .bool b2, .string s2]] (nV (if okRat b1 s1 b2 s2 then 0 else 5)) [] := by
 have c1 := iCheck b1 s1 (by omega)
 have c2 := iCheck b2 s2 (by omega)
 unfold okRat
 cases k1 : okInt b1 s1 <;> rw [k1] at c1
 ·exact walk (code := Tryz.f121.body.getD .skip) [c c1] fol Tryz.func121 (by kernel_rfl) (fun xs w => Tryz.call121 xs w) (by kernel_rfl)
 cases k2 : okInt b2 s2 <;> rw [k2] at c2
 ·exact walk (code := Tryz.f121.body.getD .skip) [c c1, c c2] fol Tryz.func121 (by kernel_rfl) (fun xs w => Tryz.call121 xs w) (by kernel_rfl)
 obtain ⟨x, rfl, rfl⟩ := okInt_num b1 s1 k1
 obtain ⟨y, rfl, rfl⟩ := okInt_num b2 s2 k2
 rw [mg_isEmpty, num_mg, num_mg]
 by_cases h0 : y = 0
 ·subst h0
  rw [show (if (true && true && !sg 0 && ((0 : Int) == 0 || ((0 : Int).natAbs != 1 && Nat.gcd x.natAbs (0 : Int).natAbs == 1))) = true then (0 : Int) else 5) = 0 from rfl]
  have hx := binI0 0 (b := true) rfl
  rw [iV0] at hx
  rw [sg0, mg0] at c2 ⊢
  exact walk (code := Tryz.f121.body.getD .skip) [c c1, c c2, L, x2 hx] fol Tryz.func121 (by kernel_rfl) (fun xs w => Tryz.call121 xs w) (by kernel_rfl)
 ·have hx := binI0 y (b := false) (by simpa using h0)
  have hC := iCompare y 1 (by omega) (by rw [mg1]; show 1 ≤ _; omega)
  rw [show ((y == 0) : Bool) = false by simpa using h0, Bool.false_or]
  by_cases hy : y ≤ 1
  ·have e : (true && true && !sg y && (y.natAbs != 1 && Nat.gcd x.natAbs y.natAbs == 1)) = false := by
     unfold sg
     by_cases hn : y < 0
     ·simp [hn]
     ·have : y.natAbs = 1 := by omega
      simp [this]
   rw [e]
   have ec : decide (cmpI y 1 ≤ 0) = true := decide_eq_true (by unfold cmpI; split; omega; split <;> omega)
   exact walk (code := Tryz.f121.body.getD .skip) [c c1, c c2, L, x2 hx, c pOne, c hC, eb ec] fol Tryz.func121 (by kernel_rfl) (fun xs w => Tryz.call121 xs w) (by kernel_rfl)
  ·have ec : decide (cmpI y 1 ≤ 0) = false := decide_eq_false (by unfold cmpI; rw [if_neg (by omega), if_neg (by omega)]; omega)
   have hG := iGcd x y (by omega) (by omega)
   have e : (true && true && !sg y && (y.natAbs != 1 && Nat.gcd x.natAbs y.natAbs == 1)) = decide ((Nat.gcd x.natAbs y.natAbs : Nat) = 1) := by
    have : sg y = false := by unfold sg; simp; omega
    rw [this]
    have : (y.natAbs != 1) = true := by simp; omega
    rw [this, Bool.eq_iff_iff]
    simp
   rw [e]
   by_cases hg : Nat.gcd x.natAbs y.natAbs = 1
   ·rw [decide_eq_true hg]
    have hx2 := binI1' ((Nat.gcd x.natAbs y.natAbs : Nat) : Int) 1 (b := false) (by rw [hg]; rfl)
    generalize ((Nat.gcd x.natAbs y.natAbs : Nat) : Int) = G at *
    exact walk (code := Tryz.f121.body.getD .skip) [c c1, c c2, L, x2 hx, c pOne, c hC, eb ec, c hG, c pOne, x2 hx2] fol Tryz.func121 (by kernel_rfl) (fun xs w => Tryz.call121 xs w) (by kernel_rfl)
   ·rw [decide_eq_false hg]
    have hx2 := binI1' ((Nat.gcd x.natAbs y.natAbs : Nat) : Int) 1 (b := true) (by simp; omega)
    generalize ((Nat.gcd x.natAbs y.natAbs : Nat) : Int) = G at *
    exact walk (code := Tryz.f121.body.getD .skip) [c c1, c c2, L, x2 hx, c pOne, c hC, eb ec, c hG, c pOne, x2 hx2] fol Tryz.func121 (by kernel_rfl) (fun xs w => Tryz.call121 xs w) (by kernel_rfl)
end Go.Proofs.YthdaimoankaciaaGreatDoor
set_option linter.unusedSimpArgs false
set_option linter.unusedVariables false
namespace Go.Proofs.YthdaimoankaciaaGreatDoor
open Go Go.RowKit Go.Sy
open Vi
theorem rlV_rat (q : Rat) : rlV ⟨q, 0, false⟩ = .agg #[.bool (sg q.num), .string (mg q.num), .bool (sg (dn q)), .string (mg (dn q)), .bool false, .string ⟨#[]⟩, .bool false, .string ⟨#[]⟩, .bool false] := by
 unfold rlV
 rw [show (0 : Rat).num = 0 from rfl, show dn 0 = 0 from rfl, sg0, mg0]
theorem int1_hs {z : Int} (h : -255 ≤ z ∧ z ≤ 255) : HasSz (z : Rat) 1 := int_hs z 0 (by
 have : (256 : Nat) ^ (0 + 1) = 256 := by decide
 omega)
theorem gWhole (n : Int) (h1 : -9223372036854775808 ≤ n) (h2 : n ≤ 9223372036854775807) : Sp Tryz.prog 66 [] [nV n] (rV (n : Rat)) [] := by
 have I := rInt n h1 h2
 rw [rV_int]
 exact walk (code := Tryz.f66.body.getD .skip) [c I] fol Tryz.func66 (by kernel_rfl) (fun xs w => Tryz.call66 xs w) (by kernel_rfl)
theorem gZero : Sp Tryz.prog 40 [] [] (rV 0) [] := by
 rw [rV0]
 exact walk (code := Tryz.f40.body.getD .skip) [] fol Tryz.func40 (by kernel_rfl) (fun xs w => Tryz.call40 xs w) (by kernel_rfl)
theorem gOne : Sp Tryz.prog 90 [] [] (rV 1) [] := by
 have W := gWhole 1 (by omega) (by omega)
 rw [show ((1 : Int) : Rat) = 1 from rfl] at W
 exact walk (code := Tryz.f90.body.getD .skip) [c W] fol Tryz.func90 (by kernel_rfl) (fun xs w => Tryz.call90 xs w) (by kernel_rfl)
theorem gOf (q : Rat) : Sp Tryz.prog 50 [] [rV q] (rlV (Rl.rat q)) [] := by
 unfold Rl.rat
 rw [rlV_rat]
 exact walk (code := Tryz.f50.body.getD .skip) [] fol Tryz.func50 (by kernel_rfl) (fun xs w => Tryz.call50 xs w) (by kernel_rfl)
theorem sgQ_lt0 (q : Rat) : decide (sgQ q < 0) = decide (q < 0) := by
 rcases sgQ_cases q with ⟨h1, h2⟩ | ⟨h1, h2⟩ | ⟨h1, h2⟩ <;> rw [h1]
 ·rw [decide_eq_true h2]; rfl
 ·rw [show decide (q < 0) = false from decide_eq_false (by grind)]; rfl
 ·rw [show decide (q < 0) = false from decide_eq_false (by grind)]; rfl
theorem gMake (p q r : Rat) {i j k : Nat} [HasSz p i] [HasSz q j] [HasSz r k] (hs : i + j + j + k ≤ 20000 := by first | omega | decide) : Sp Tryz.prog 61 [] [rV p, rV q, rV r] (rlV (mkR p q r)) [] := by
 rcases rRoot r fz with ⟨w, h0, hw, R⟩ | ⟨h, R⟩
 ·rw [mkR_sq p q r w h0 hw]
  subst hw
  haveI : HasSz w k := sz_root
  have A := rMul q w fz fz
  have B := rAdd p (q * w) fz fz
  rw [rlV_rat]
  clear h0
  generalize p + q * w = s at *
  generalize q * w = t at *
  generalize w * w = u at *
  exact walk (code := Tryz.f61.body.getD .skip) [c R, c A, c B] fol Tryz.func61 (by kernel_rfl) (fun xs w => Tryz.call61 xs w) (by kernel_rfl)
 ·rw [mkR_irr p q r h]
  have Z := gZero
  by_cases hq : q = 0
  ·subst hq
   have B := binR1 0 0 (b := true) (by simp)
   rw [show (0 : Rat) * 0 * r = 0 by grind, show decide ((0 : Rat) < 0) = false by decide +kernel, rlV_rat]
   clear h
   generalize (0 : Rat) = z at *
   exact walk (code := Tryz.f61.body.getD .skip) [c R, c Z, x2 B] fol Tryz.func61 (by kernel_rfl) (fun xs w => Tryz.call61 xs w) (by kernel_rfl)
  ·have B := binR1 q 0 (b := false) (by simp [hq])
   have A := rMul q q fz fz
   have C := rMul (q * q) r fz fz
   have S := rSgn q
   have e := sgQ_lt0 q
   unfold rlV
   dsimp only
   clear h hq
   generalize q * q * r = s at *
   generalize q * q = t at *
   generalize sgQ q = z at *
   generalize decide (q < 0) = d at *
   generalize (0 : Rat) = z0 at *
   exact walk (code := Tryz.f61.body.getD .skip) [c R, c Z, x2 B, c A, c C, c S, eb e] fol Tryz.func61 (by kernel_rfl) (fun xs w => Tryz.call61 xs w) (by kernel_rfl)
theorem gSide (x : Rl) : Sp Tryz.prog 92 [] [rlV x] (nV x.si) [] := by
 obtain ⟨p, r, neg⟩ := x
 unfold Rl.si
 cases neg <;> exact walk (code := Tryz.f92.body.getD .skip) [] fol Tryz.func92 (by kernel_rfl) (fun xs w => Tryz.call92 xs w) (by kernel_rfl)
theorem gSigns (a b r : Rat) {i j k : Nat} [HasSz a i] [HasSz b j] [HasSz r k] (hs : i + i + j + j + k ≤ 20000 := by first | omega | decide) : Sp Tryz.prog 97 [] [rV a, rV b, rV r] (nV (signF a b r)) [] := by
 have S1 := rSgn a
 have S2 := rSgn b
 have S3 := rSgn r
 have A := rMul a a fz fz
 have B := rMul b b fz fz
 have C := rMul (b * b) r fz fz
 have D := rCmp (a * a) (b * b * r) fz fz
 have b1 := sgQ_in a
 have b2 := mul_in1 (sgQ_in b) (sgQ_in r)
 obtain ⟨n, hn⟩ : ∃ n, n = sgQ b * sgQ r := ⟨_, rfl⟩
 have w1 : IntKind.i64.wrap (sgQ b * sgQ r) = n := by rw [hn]; exact w64 (by omega) (by omega)
 unfold signF
 rw [← hn]
 rw [← hn] at b2
 clear hn
 have hf := sgQ_cases (a * a - b * b * r)
 generalize a * a - b * b * r = f at *
 generalize b * b * r = g at *
 generalize b * b = h at *
 generalize a * a = i at *
 generalize sgQ a = m at *
 generalize sgQ b = u1 at *
 generalize sgQ r = u2 at *
 by_cases h2 : m = n
 ·rw [if_pos (.inr h2)]
  have e2 : decide (m = n) = true := decide_eq_true h2
  clear h2 hf b1 b2
  exact walk (code := Tryz.f97.body.getD .skip) [c S1, c S2, c S3, Go.Sy.e (congrArg (Value.int IntKind.i64) w1), eb e2] fol Tryz.func97 (by kernel_rfl) (fun xs w => Tryz.call97 xs w) (by kernel_rfl)
 have e2 : decide (m = n) = false := decide_eq_false h2
 by_cases h1 : n = 0
 ·rw [if_pos (.inl h1)]
  have e1 : decide (n = 0) = true := decide_eq_true h1
  clear h1 h2 hf b1 b2
  exact walk (code := Tryz.f97.body.getD .skip) [c S1, c S2, c S3, Go.Sy.e (congrArg (Value.int IntKind.i64) w1), eb e2, eb e1] fol Tryz.func97 (by kernel_rfl) (fun xs w => Tryz.call97 xs w) (by kernel_rfl)
 have e1 : decide (n = 0) = false := decide_eq_false h1
 rw [if_neg (by rintro (h | h) <;> contradiction)]
 by_cases h3 : m = 0
 ·rw [if_pos h3]
  have e3 : decide (m = 0) = true := decide_eq_true h3
  clear h1 h2 h3 hf b1 b2
  exact walk (code := Tryz.f97.body.getD .skip) [c S1, c S2, c S3, Go.Sy.e (congrArg (Value.int IntKind.i64) w1), eb e2, eb e1, eb e3] fol Tryz.func97 (by kernel_rfl) (fun xs w => Tryz.call97 xs w) (by kernel_rfl)
 rw [if_neg h3]
 have e3 : decide (m = 0) = false := decide_eq_false h3
 rcases hf with ⟨hf, _⟩ | ⟨hf, _⟩ | ⟨hf, _⟩
 ·rw [hf] at D ⊢
  rw [show m * -1 = n by omega]
  clear h1 h2 h3 hf b1 b2
  exact walk (code := Tryz.f97.body.getD .skip) [c S1, c S2, c S3, Go.Sy.e (congrArg (Value.int IntKind.i64) w1), eb e2, eb e1, eb e3, c A, c B, c C, c D] fol Tryz.func97 (by kernel_rfl) (fun xs w => Tryz.call97 xs w) (by kernel_rfl)
 ·rw [hf] at D ⊢
  rw [Int.mul_zero]
  clear h1 h2 h3 hf b1 b2
  exact walk (code := Tryz.f97.body.getD .skip) [c S1, c S2, c S3, Go.Sy.e (congrArg (Value.int IntKind.i64) w1), eb e2, eb e1, eb e3, c A, c B, c C, c D] fol Tryz.func97 (by kernel_rfl) (fun xs w => Tryz.call97 xs w) (by kernel_rfl)
 ·rw [hf] at D ⊢
  rw [Int.mul_one]
  clear h1 h2 h3 hf b1 b2
  exact walk (code := Tryz.f97.body.getD .skip) [c S1, c S2, c S3, Go.Sy.e (congrArg (Value.int IntKind.i64) w1), eb e2, eb e1, eb e3, c A, c B, c C, c D] fol Tryz.func97 (by kernel_rfl) (fun xs w => Tryz.call97 xs w) (by kernel_rfl)
theorem si_in (x : Rl) : -1 ≤ x.si ∧ x.si ≤ 1 := by unfold Rl.si; split <;> omega
theorem gSign (x : Rl) {i j : Nat} [HasSz x.p i] [HasSz x.r j] (hr : 0 ≤ x.r) (hs : i + j ≤ 5000 := by first | omega | decide) : Sp Tryz.prog 52 [] [rlV x] (nV (sgR x.val)) [] := by
 have e := signF_eq x.p x.s x.r hr
 have e2 : sgR x.val = signF x.p x.s x.r := by rw [e]; rfl
 rw [e2]
 have b := si_in x
 have A := gSide x
 have W := gWhole x.si (by omega) (by omega)
 rw [Rl.si_rat] at W
 have S := gSigns x.p x.s x.r
 clear e e2 b
 generalize signF x.p x.s x.r = v at *
 generalize x.si = z at *
 generalize x.s = s at *
 obtain ⟨p, r, neg⟩ := x
 dsimp only at *
 exact walk (code := Tryz.f52.body.getD .skip) [c A, c W, c S] fol Tryz.func52 (by kernel_rfl) (fun xs w => Tryz.call52 xs w) (by kernel_rfl)
theorem gRoots (s : Int) (a : Rat) (t : Int) (b : Rat) (h1 : -1 ≤ s ∧ s ≤ 1) (h2 : -1 ≤ t ∧ t ≤ 1) {i j : Nat} [HasSz a i] [HasSz b j] (hs : i + j ≤ 5000 := by first | omega | decide) : Sp Tryz.prog 96 [] [nV s, rV a, nV t, rV b] (nV (Rl.rootsF s a t b)) [] := by
 have S1 := rSgn a
 have S2 := rSgn b
 have D := rCmp a b fz fz
 have b1 := mul_in1 h1 (sgQ_in a)
 have b2 := mul_in1 h2 (sgQ_in b)
 have b3 := mul_in1 b1 (sgQ_in (a - b))
 unfold Rl.rootsF
 obtain ⟨x, hx⟩ : ∃ x, x = s * sgQ a := ⟨_, rfl⟩
 obtain ⟨y, hy⟩ : ∃ y, y = t * sgQ b := ⟨_, rfl⟩
 have w1 : IntKind.i64.wrap (s * sgQ a) = x := by rw [hx]; exact w64 (by omega) (by omega)
 have w2 : IntKind.i64.wrap (t * sgQ b) = y := by rw [hy]; exact w64 (by omega) (by omega)
 obtain ⟨z, hz⟩ : ∃ z, z = x * sgQ (a - b) := ⟨_, rfl⟩
 have w3 : IntKind.i64.wrap (x * sgQ (a - b)) = z := by rw [hz, hx]; exact w64 (by omega) (by omega)
 rw [← hx, ← hy, ← hz]
 clear hx hy hz b1 b2 b3 h1 h2
 generalize sgQ (a - b) = d at *
 generalize sgQ a = u1 at *
 generalize sgQ b = u2 at *
 by_cases h1 : x = y
 ·rw [if_neg (by simp [h1])]
  have e : (x != y) = false := by simp [h1]
  clear h1
  exact walk (code := Tryz.f96.body.getD .skip) [c S1, Go.Sy.e (congrArg (Value.int IntKind.i64) w1), c S2, Go.Sy.e (congrArg (Value.int IntKind.i64) w2), eb e, c D, Go.Sy.e (congrArg (Value.int IntKind.i64) w3)] fol Tryz.func96 (by kernel_rfl) (fun xs w => Tryz.call96 xs w) (by kernel_rfl)
 ·rw [if_pos h1]
  have e : (x != y) = true := by simp [h1]
  by_cases h2 : x > y
  ·rw [if_pos h2]
   have e2 : decide (x > y) = true := decide_eq_true h2
   clear h1 h2
   exact walk (code := Tryz.f96.body.getD .skip) [c S1, Go.Sy.e (congrArg (Value.int IntKind.i64) w1), c S2, Go.Sy.e (congrArg (Value.int IntKind.i64) w2), eb e, eb e2] fol Tryz.func96 (by kernel_rfl) (fun xs w => Tryz.call96 xs w) (by kernel_rfl)
  ·rw [if_neg h2]
   have e2 : decide (x > y) = false := decide_eq_false h2
   clear h1 h2
   exact walk (code := Tryz.f96.body.getD .skip) [c S1, Go.Sy.e (congrArg (Value.int IntKind.i64) w1), c S2, Go.Sy.e (congrArg (Value.int IntKind.i64) w2), eb e, eb e2] fol Tryz.func96 (by kernel_rfl) (fun xs w => Tryz.call96 xs w) (by kernel_rfl)
theorem gCompare (x y : Rl) {i j k l : Nat} [HasSz x.p i] [HasSz x.r j] [HasSz y.p k] [HasSz y.r l] (hx : 0 ≤ x.r) (hy : 0 ≤ y.r) (hs : i + j + k + l ≤ 1000 := by first | omega | decide) : Sp Tryz.prog 38 [] [rlV x, rlV y] (nV (Rl.cmp x y)) [] := by
 rw [← Rl.cmpF3_eq x y hx hy]
 have sx := si_in x
 have sy := si_in y
 have D := rSub x.p y.p fz fz
 have S := rSgn (x.p - y.p)
 have A1 := gSide x
 have A2 := gSide y
 have R := gRoots x.si x.r y.si y.r sx sy
 have M := rMul (x.p - y.p) (x.p - y.p) fz fz
 have A := rAdd x.r y.r fz fz
 have U := rSub ((x.p - y.p) * (x.p - y.p)) (x.r + y.r) fz fz
 have N := rMul x.r y.r fz fz
 have b := mul_in1 sx sy
 have c2 : 2 * x.si * y.si = 2 * (x.si * y.si) := Int.mul_assoc _ _ _
 have W := gWhole (2 * x.si * y.si) (by omega) (by omega)
 haveI z1 : HasSz ((2 * x.si * y.si : Int) : Rat) 1 := int1_hs (by omega)
 have G := gSigns ((x.p - y.p) * (x.p - y.p) - (x.r + y.r)) ((2 * x.si * y.si : Int) : Rat) (x.r * y.r)
 obtain ⟨u, hu⟩ : ∃ u, u = 2 * x.si := ⟨_, rfl⟩
 obtain ⟨v, hv⟩ : ∃ v, v = 2 * x.si * y.si := ⟨_, rfl⟩
 have w1 : IntKind.i64.wrap (2 * x.si) = u := by rw [hu]; exact w64 (by omega) (by omega)
 have w2 : IntKind.i64.wrap (u * y.si) = v := by rw [hu, hv]; exact w64 (by omega) (by omega)
 unfold Rl.cmpF3
 rw [← hv]
 rw [← hv] at W G
 clear z1 hu hv b sx sy c2 hx hy
 generalize signF ((x.p - y.p) * (x.p - y.p) - (x.r + y.r)) ((v : Int) : Rat) (x.r * y.r) = f at *
 generalize Rl.rootsF x.si x.r y.si y.r = b at *
 generalize sgQ (x.p - y.p) = a at *
 generalize (x.p - y.p) * (x.p - y.p) - (x.r + y.r) = t1 at *
 generalize (x.p - y.p) * (x.p - y.p) = t2 at *
 generalize x.p - y.p = t3 at *
 generalize x.r + y.r = t4 at *
 generalize x.r * y.r = t5 at *
 generalize ((v : Int) : Rat) = t6 at *
 generalize x.si = x1 at *
 generalize y.si = y1 at *
 obtain ⟨xp, xr, xn⟩ := x
 obtain ⟨yp, yr, yn⟩ := y
 dsimp only at *
 by_cases h1 : a = b
 ·rw [if_pos (.inl h1)]
  have e1 : decide (a = b) = true := decide_eq_true h1
  clear h1
  exact walk (code := Tryz.f38.body.getD .skip) [c D, c S, c A1, c A2, c R, eb e1] fol Tryz.func38 (by kernel_rfl) (fun xs w => Tryz.call38 xs w) (by kernel_rfl)
 have e1 : decide (a = b) = false := decide_eq_false h1
 by_cases h2 : b = 0
 ·rw [if_pos (.inr h2)]
  have e2 : decide (b = 0) = true := decide_eq_true h2
  clear h1 h2
  exact walk (code := Tryz.f38.body.getD .skip) [c D, c S, c A1, c A2, c R, eb e1, eb e2] fol Tryz.func38 (by kernel_rfl) (fun xs w => Tryz.call38 xs w) (by kernel_rfl)
 have e2 : decide (b = 0) = false := decide_eq_false h2
 rw [if_neg (by rintro (h | h) <;> contradiction)]
 by_cases h3 : a = 0
 ·rw [if_pos h3]
  have e3 : decide (a = 0) = true := decide_eq_true h3
  clear h1 h2 h3
  exact walk (code := Tryz.f38.body.getD .skip) [c D, c S, c A1, c A2, c R, eb e1, eb e2, eb e3] fol Tryz.func38 (by kernel_rfl) (fun xs w => Tryz.call38 xs w) (by kernel_rfl)
 have e3 : decide (a = 0) = false := decide_eq_false h3
 rw [if_neg h3]
 by_cases h4 : f > 0
 ·rw [if_pos h4]
  have e4 : decide (f > 0) = true := decide_eq_true h4
  clear h1 h2 h3 h4
  exact walk (code := Tryz.f38.body.getD .skip) [c D, c S, c A1, c A2, c R, eb e1, eb e2, eb e3, c M, c A, c U, c A1, Go.Sy.e (congrArg (Value.int IntKind.i64) w1), c A2, Go.Sy.e (congrArg (Value.int IntKind.i64) w2), c W, c N, c G, eb e4] fol Tryz.func38 (by kernel_rfl) (fun xs w => Tryz.call38 xs w) (by kernel_rfl)
 have e4 : decide (f > 0) = false := decide_eq_false h4
 rw [if_neg h4]
 by_cases h5 : f < 0
 ·rw [if_pos h5]
  have e5 : decide (f < 0) = true := decide_eq_true h5
  clear h1 h2 h3 h4 h5
  exact walk (code := Tryz.f38.body.getD .skip) [c D, c S, c A1, c A2, c R, eb e1, eb e2, eb e3, c M, c A, c U, c A1, Go.Sy.e (congrArg (Value.int IntKind.i64) w1), c A2, Go.Sy.e (congrArg (Value.int IntKind.i64) w2), c W, c N, c G, eb e4, eb e5] fol Tryz.func38 (by kernel_rfl) (fun xs w => Tryz.call38 xs w) (by kernel_rfl)
 have e5 : decide (f < 0) = false := decide_eq_false h5
 rw [if_neg h5]
 clear h1 h2 h3 h4 h5
 exact walk (code := Tryz.f38.body.getD .skip) [c D, c S, c A1, c A2, c R, eb e1, eb e2, eb e3, c M, c A, c U, c A1, Go.Sy.e (congrArg (Value.int IntKind.i64) w1), c A2, Go.Sy.e (congrArg (Value.int IntKind.i64) w2), c W, c N, c G, eb e4, eb e5] fol Tryz.func38 (by kernel_rfl) (fun xs w => Tryz.call38 xs w) (by kernel_rfl)
theorem gScale (x : Rl) (q : Rat) {i j k : Nat} [HasSz x.p i] [HasSz x.r j] [HasSz q k] (hx : x.Ok) (hs : i + j + k ≤ 1000 := by first | omega | decide) : Sp Tryz.prog 34 [] [rlV x, rV q] (rlV (x.scR q)) [] := by
 rw [← scale_mk hx q]
 have b := si_in x
 have A := gSide x
 have W := gWhole x.si (by omega) (by omega)
 rw [Rl.si_rat] at W
 have M := rMul x.p q fz fz
 have N := rMul q x.s fz fz
 have K := gMake (x.p * q) (q * x.s) x.r
 clear b hx
 generalize mkR (x.p * q) (q * x.s) x.r = y at *
 generalize x.p * q = t1 at *
 generalize q * x.s = t2 at *
 generalize x.si = z at *
 generalize x.s = s at *
 obtain ⟨p, r, neg⟩ := x
 dsimp only at *
 exact walk (code := Tryz.f34.body.getD .skip) [c M, c A, c W, c N, c K] fol Tryz.func34 (by kernel_rfl) (fun xs w => Tryz.call34 xs w) (by kernel_rfl)
theorem gNeg (x : Rl) {i j : Nat} [HasSz x.p i] [HasSz x.r j] (hx : x.Ok) (hs : i + j ≤ 900 := by first | omega | decide) : Sp Tryz.prog 32 [] [rlV x] (rlV x.ngR) [] := by
 have e : x.scR (-1) = x.ngR := by rw [← scale_mk hx, neg_mk hx]
 have W := gWhole (-1) (by omega) (by omega)
 rw [show ((-1 : Int) : Rat) = -1 from rfl] at W
 have K := gScale x (-1) hx
 rw [e] at K
 clear e hx
 generalize x.ngR = y at *
 generalize (-1 : Rat) = z at *
 exact walk (code := Tryz.f32.body.getD .skip) [c W, c K] fol Tryz.func32 (by kernel_rfl) (fun xs w => Tryz.call32 xs w) (by kernel_rfl)
theorem gShift (x : Rl) (q : Rat) {i j k : Nat} [HasSz x.p i] [HasSz x.r j] [HasSz q k] (hx : x.Ok) (hs : i + j + k ≤ 1000 := by first | omega | decide) : Sp Tryz.prog 33 [] [rlV x, rV q] (rlV ⟨x.p + q, x.r, x.neg⟩) [] := by
 rw [← shift_mk hx q]
 have b := si_in x
 have A := gSide x
 have W := gWhole x.si (by omega) (by omega)
 rw [Rl.si_rat] at W
 have M := rAdd x.p q fz fz
 have K := gMake (x.p + q) x.s x.r
 clear b hx
 generalize mkR (x.p + q) x.s x.r = y at *
 generalize x.p + q = t1 at *
 generalize x.si = z at *
 generalize x.s = s at *
 obtain ⟨p, r, neg⟩ := x
 dsimp only at *
 exact walk (code := Tryz.f33.body.getD .skip) [c M, c A, c W, c K] fol Tryz.func33 (by kernel_rfl) (fun xs w => Tryz.call33 xs w) (by kernel_rfl)
end Go.Proofs.YthdaimoankaciaaGreatDoor
set_option linter.unusedSimpArgs false
set_option linter.unusedVariables false
namespace Go.Proofs.YthdaimoankaciaaGreatDoor
open Go Go.RowKit Go.Sy
open Vi
theorem rlAnd (x y : Rl) : (decide (x.p = y.p) && (decide (x.r = y.r) && ((x.neg == y.neg) && true))) = (open Classical in decide (x = y)) := by
 obtain ⟨a, b, c⟩ := x
 obtain ⟨d, e, f⟩ := y
 rw [Bool.eq_iff_iff]
 simp
theorem eqL_run (d : Nat) (x y : Rl) (w : World) : (Op.equalIn (d + 4) 27 (rlV x) (rlV y)).run Tryz.prog w = .ok (open Classical in decide (x = y)) w := by
 rw [← rlAnd]
 exact eqStruct (l := [(25, 0), (25, 4), (4, 8)]) (by kernel_rfl) (by kernel_rfl) (by kernel_rfl)
  (.cons (a := rV x.p) (b := rV y.p) (by kernel_rfl) (by kernel_rfl) (eqR_run d x.p y.p) (.cons (a := rV x.r) (b := rV y.r) (by kernel_rfl) (by kernel_rfl) (eqR_run d x.r y.r)
   (.cons (a := .bool x.neg) (b := .bool y.neg) (by kernel_rfl) (by kernel_rfl) (fun w => run_equalIn_bool w (d + 2) 4 x.neg y.neg (by kernel_rfl)) .nil))) w
theorem binL (x y : Rl) {q : Bool} (e : (open Classical in decide (x = y)) = q) : Bin .eql 27 (rlV x) (rlV y) (.bool q) := by
 have h := binS (T := 27) (fun w => eqL_run 9996 x y w) (by kernel_rfl)
 rw [e] at h
 exact h
theorem sameL (x : Rl) : Bin .eql 27 (rlV x) (rlV x) (.bool true) := binL x x (by simp)
def qV (a b c : Rat) : Value := .agg #[.bool (sg a.num), .string (mg a.num), .bool (sg (dn a)), .string (mg (dn a)), .bool (sg b.num), .string (mg b.num), .bool (sg (dn b)), .string (mg (dn b)), .bool (sg c.num), .string (mg c.num), .bool (sg (dn c)), .string (mg (dn c))]
theorem qSgnR (x : Rl) {i j : Nat} [hi : HasSz x.p i] [hj : HasSz x.r j] (hr : 0 ≤ x.r) (hs : i + j ≤ 5000 := by first | omega | decide) : Sp Tryz.prog 51 [] [rlV x] (nV (sgR x.val)) [] := by
 have e := signF_eq x.p x.s x.r hr
 have e2 : sgR x.val = signF x.p x.s x.r := by rw [e]; rfl
 rw [e2]
 have F := qFactor x
 haveI i1 : HasSz x.p (i + j + 1) := hs_mono hi (by omega)
 haveI i2 : HasSz x.r (i + j + 1) := hs_mono hj (by omega)
 haveI i3 : HasSz x.s (i + j + 1) := hs_mono (inferInstance : HasSz x.s 1) (by omega)
 have S := qSign x.p x.s x.r (i + j + 1) (by omega)
 clear e e2 i1 i2 i3
 generalize signF x.p x.s x.r = v at *
 generalize x.s = s at *
 obtain ⟨p, r, neg⟩ := x
 dsimp only at *
 exact walk (code := Tryz.f51.body.getD .skip) [c F, c S] fol Tryz.func51 (by kernel_rfl) (fun xs w => Tryz.call51 xs w) (by kernel_rfl)
theorem sgQ_neg {q : Rat} (h : q < 0) : sgQ q = -1 := by unfold sgQ; rw [if_pos h]
theorem sgQ_ge (q : Rat) (h : 0 ≤ q) : decide (sgQ q < 0) = false := by
 rw [sgQ_lt0]; exact decide_eq_false (by grind)
theorem qMake (p q r : Rat) {i j k : Nat} [HasSz p i] [HasSz q j] [HasSz r k] (hr : 0 ≤ r) (hs : i + j + j + k ≤ 20000 := by first | omega | decide) : Sp Tryz.prog 59 [] [rV p, rV q, rV r] (.tuple #[rlV (mkR p q r), nV 0]) [] := by
 have S0 := pSgn r
 have e0 := sgQ_ge r hr
 rcases pRoot r fz with ⟨w, h0, hw, R⟩ | ⟨h, R⟩
 ·rw [mkR_sq p q r w h0 hw]
  subst hw
  haveI : HasSz w k := sz_root
  have A := pMul q w fz fz
  have B := pAdd p (q * w) fz fz
  rw [rlV_rat]
  clear h0 hr
  generalize p + q * w = s at *
  generalize q * w = t at *
  generalize w * w = u at *
  generalize sgQ u = z at *
  exact walk (code := Tryz.f59.body.getD .skip) [c S0, eb e0, c R, c A, c B] fol Tryz.func59 (by kernel_rfl) (fun xs w => Tryz.call59 xs w) (by kernel_rfl)
 ·rw [mkR_irr p q r h]
  have A := pMul q q fz fz
  have C := pMul (q * q) r fz fz
  have S := pSgn q
  have e := sgQ_lt0 q
  unfold rlV
  dsimp only
  clear h hr
  generalize q * q * r = s at *
  generalize q * q = t at *
  generalize sgQ q = z at *
  generalize sgQ r = z0 at *
  generalize decide (q < 0) = d at *
  exact walk (code := Tryz.f59.body.getD .skip) [c S0, eb e0, c R, c A, c C, c S, eb e] fol Tryz.func59 (by kernel_rfl) (fun xs w => Tryz.call59 xs w) (by kernel_rfl)
theorem qQuot (a b : Rat) (h0 : b ≠ 0) (ha : Fits a) (hb : Fits b) : Sp Tryz.prog 82 [] [rV a, rV b] (rV (a / b)) [] := by
 have D := pDiv a b h0 ha hb
 generalize a / b = c at *
 exact walk (code := Tryz.f82.body.getD .skip) [Sy.c D] fol Tryz.func82 (by kernel_rfl) (fun xs w => Tryz.call82 xs w) (by kernel_rfl)
theorem sgR_ne {v : RR} (h : v ≠ 0) : decide (sgR v = 0) = false := decide_eq_false fun e => h (RR.sg_iff0.1 e)
theorem qInverse (x : Rl) {i j : Nat} [HasSz x.p i] [HasSz x.r j] (hx : x.Ok) (h0 : x ≠ Rl.rat 0) (hs : i + j ≤ 300 := by first | omega | decide) : Sp Tryz.prog 36 [] [rlV x] (.tuple #[rlV x.inv, nV 0]) [] := by
 have S := qSgnR x hx.nonneg
 have e0 := sgR_ne (val_ne0 hx h0)
 have I := pI 1 (by omega) (by omega)
 rw [show ((1 : Int) : Rat) = 1 from rfl] at I
 unfold Rl.inv
 by_cases h : x.r = 0
 ·rw [if_pos h]
  have hp : x.p ≠ 0 := fun e => val_ne0 hx h0 (by rw [val_rat0 h, e]; rfl)
  have Q := qQuot 1 x.p hp fz fz
  have F := qFromRat (1 / x.p)
  have B := binR0 x.r (b := true) (by simp [h])
  clear h h0 hp hx
  generalize Rl.rat (1 / x.p) = y at *
  generalize 1 / x.p = t at *
  generalize (1 : Rat) = one at *
  generalize sgR x.val = z at *
  obtain ⟨p, r, neg⟩ := x
  dsimp only at *
  exact walk (code := Tryz.f36.body.getD .skip) [c S, eb e0, x2 B, c I, c Q, c F] fol Tryz.func36 (by kernel_rfl) (fun xs w => Tryz.call36 xs w) (by kernel_rfl)
 ·rw [if_neg h]
  have hn := nm_ne hx h
  have B := binR0 x.r (b := false) (by simp [h])
  have M := pMul x.p x.p fz fz
  have U := pSub (x.p * x.p) x.r fz fz
  haveI z0 : HasSz x.nm (i + i + j + 1) := (inferInstance : HasSz (x.p * x.p - x.r) _)
  have Q := qQuot 1 x.nm hn fz fz
  haveI z1 : HasSz (1 / x.nm) (3 * (i + j) + 3) := hs_mono (hs_div 1 x.nm _ _ hn) (by omega)
  haveI z2 : HasSz x.cj.p (3 * (i + j) + 3) := hs_mono ‹HasSz x.p i› (by omega)
  haveI z3 : HasSz x.cj.r (3 * (i + j) + 3) := hs_mono ‹HasSz x.r j› (by omega)
  have C := qScale x.cj (1 / x.nm) (3 * (i + j) + 3) (by omega)
  rw [show x.p * x.p - x.r = x.nm from rfl] at U
  unfold Rl.cj at *
  clear h h0 hn hx z0 z1 z2 z3
  generalize 1 / x.nm = t at *
  generalize Rl.scR _ t = y at *
  generalize x.nm = n at *
  generalize x.p * x.p = t2 at *
  generalize (1 : Rat) = one at *
  generalize sgR x.val = z at *
  obtain ⟨p, r, neg⟩ := x
  dsimp only at *
  exact walk (code := Tryz.f36.body.getD .skip) [c S, eb e0, x2 B, c M, c U, c I, c Q, c C] fol Tryz.func36 (by kernel_rfl) (fun xs w => Tryz.call36 xs w) (by kernel_rfl)
end Go.Proofs.YthdaimoankaciaaGreatDoor
set_option linter.unusedSimpArgs false
set_option linter.unusedVariables false
namespace Go.Proofs.YthdaimoankaciaaGreatDoor
open Go Go.RowKit Go.Sy
open Vi
theorem m2_ne {c : Rat} (hc : c ≠ 0) : (-2 : Rat) * c ≠ 0 := by
 intro e; rcases Rat.mul_eq_zero.1 e with h | h; exact absurd h (by decide +kernel); exact hc h
theorem qRootsQ (a b c h d : Rat) (hc : c ≠ 0) (eh : h = b / (-2 * c)) (ed : d = h * h - a / c) {i j k : Nat} [HasSz a i] [HasSz b j] [HasSz c k] (hs : i + j + k ≤ 300 := by first | omega | decide) :
    (d < 0 → Sp Tryz.prog 23 [] [qV a b c] (.tuple #[.slice none 0 0, nV 0]) []) ∧
    (d = 0 → Sp Tryz.prog 23 [] [qV a b c] (.tuple #[row 0 1, nV 0]) [(1, rlC (Rl.rat h))]) ∧
    (0 < d → Sp Tryz.prog 23 [] [qV a b c] (.tuple #[row 0 2, nV 0]) [(2, rlC (mkR h (-1) d) ++ rlC (mkR h 1 d))]) := by
 have C := binR0 c (b := false) (by simp [hc])
 have I := pI (-2) (by omega) (by omega)
 rw [show ((-2 : Int) : Rat) = -2 from rfl] at I
 have J := pI 1 (by omega) (by omega)
 rw [show ((1 : Int) : Rat) = 1 from rfl] at J
 have M := pMul (-2) c fz fz
 have N := pNeg 1
 haveI z1 := hs_div b (-2 * c) _ _ (m2_ne hc)
 have Q := qQuot b (-2 * c) (m2_ne hc) fz fz
 rw [← eh] at z1 Q
 have S := pMul h h fz fz
 haveI z2 := hs_div a c _ _ hc
 have Q2 := qQuot a c hc fz fz
 have U := pSub (h * h) (a / c) fz fz
 haveI z3 : HasSz d _ := ed ▸ (inferInstance : HasSz (h * h - a / c) _)
 rw [← ed] at U
 have G := pSgn d
 refine ⟨fun h0 => ?_, fun h0 => ?_, fun h0 => ?_⟩
 ·rw [sgQ_neg h0] at G
  clear z1 z2 z3 hc eh ed h0
  generalize -2 * c = t1 at *
  generalize h * h = t2 at *
  generalize a / c = t3 at *
  generalize (-2 : Rat) = t4 at *
  generalize (1 : Rat) = t5 at *
  exact walk (code := Tryz.f23.body.getD .skip) [x2 C, x2 C, x2 C, Sy.c I, Sy.c M, Sy.c Q, Sy.c S, Sy.c Q2, Sy.c U, Sy.c J, Sy.c G] fol Tryz.func23 (by kernel_rfl) (fun xs w => Tryz.call23 xs w) (by kernel_rfl)
 ·subst h0
  rw [show sgQ 0 = 0 from rfl] at G
  have F := qFromRat h
  unfold rlC
  clear z1 z2 z3 hc eh ed
  generalize Rl.rat h = y at *
  generalize -2 * c = t1 at *
  generalize h * h = t2 at *
  generalize a / c = t3 at *
  generalize (-2 : Rat) = t4 at *
  generalize (1 : Rat) = t5 at *
  generalize (0 : Rat) = t6 at *
  exact walk (code := Tryz.f23.body.getD .skip) [x2 C, x2 C, x2 C, Sy.c I, Sy.c M, Sy.c Q, Sy.c S, Sy.c Q2, Sy.c U, Sy.c J, Sy.c G, Sy.c F] fol Tryz.func23 (by kernel_rfl) (fun xs w => Tryz.call23 xs w) (by kernel_rfl)
 ·rw [show sgQ d = 1 by unfold sgQ; rw [if_neg (by grind), if_neg (by grind)]] at G
  have K1 := qMake h (-1) d (Rat.le_of_lt h0)
  have K2 := qMake h 1 d (Rat.le_of_lt h0)
  unfold rlC
  clear z1 z2 z3 hc eh ed h0
  generalize mkR h (-1) d = y1 at *
  generalize mkR h 1 d = y2 at *
  generalize -2 * c = t1 at *
  generalize h * h = t2 at *
  generalize a / c = t3 at *
  generalize (-2 : Rat) = t4 at *
  generalize (-1 : Rat) = t6 at *
  generalize (1 : Rat) = t5 at *
  exact walk (code := Tryz.f23.body.getD .skip) [x2 C, x2 C, x2 C, Sy.c I, Sy.c M, Sy.c Q, Sy.c S, Sy.c Q2, Sy.c U, Sy.c J, Sy.c G, Sy.c N, Sy.c K1, Sy.c K2] fol Tryz.func23 (by kernel_rfl) (fun xs w => Tryz.call23 xs w) (by kernel_rfl)
end Go.Proofs.YthdaimoankaciaaGreatDoor
set_option linter.unusedSimpArgs false
set_option linter.unusedVariables false
namespace Go.Proofs.YthdaimoankaciaaGreatDoor
open Go Go.RowKit Go.Sy
open Vi
noncomputable def okL (x : Rl) : Bool := open Classical in decide x.Ok
theorem okL_yes {x : Rl} (h : x.Ok) : okL x = true := by unfold okL; simp [h]
theorem okL_no {x : Rl} (h : ¬ x.Ok) : okL x = false := by unfold okL; simp [h]
theorem notOk_neg {p r : Rat} {b : Bool} (h : r < 0) : ¬ (⟨p, r, b⟩ : Rl).Ok := by
 rintro (⟨h1, _⟩ | ⟨h1, _⟩)
 ·have h1 : r = 0 := h1
  subst h1; exact Rat.lt_irrefl h
 ·have h1 : 0 < r := h1
  grind
theorem notOk_z {p : Rat} : ¬ (⟨p, 0, true⟩ : Rl).Ok := by
 rintro (⟨_, h⟩ | ⟨h, _⟩)
 ·cases h
 ·exact Rat.lt_irrefl h
theorem notOk_sq {p r w : Rat} {b : Bool} (h : 0 < r) (hw : w * w = r) : ¬ (⟨p, r, b⟩ : Rl).Ok := by
 rintro (⟨h1, _⟩ | ⟨_, h1⟩)
 ·have h1 : r = 0 := h1
  subst h1; exact Rat.lt_irrefl h
 ·exact h1 w hw
theorem gCheckQ (x : Rl) (h1 : Fits x.p) (h2 : Fits x.r) : Sp Tryz.prog 64 [] [rlV x] (.bool (okL x)) [] := by
 obtain ⟨p, r, neg⟩ := x
 dsimp only at h1 h2
 have A := rCheckQ p h1
 have B := rCheckQ r h2
 have S := rSgn r
 have Z := gZero
 rcases sgQ_cases r with ⟨hs, hr⟩ | ⟨hs, hr⟩ | ⟨hs, hr⟩ <;> rw [hs] at S
 ·rw [okL_no (notOk_neg hr)]
  have E := binR1 r 0 (b := false) (by simp; grind)
  clear hr h1 h2
  generalize (0 : Rat) = z at *
  exact walk (code := Tryz.f64.body.getD .skip) [c A, c B, c S, c Z, x2 E] fol Tryz.func64 (by kernel_rfl) (fun xs w => Tryz.call64 xs w) (by kernel_rfl)
 ·subst hr
  have E := binR1 0 0 (b := true) (by simp)
  cases neg
  ·rw [okL_yes (.inl ⟨rfl, rfl⟩)]
   clear h1 h2
   generalize (0 : Rat) = z at *
   exact walk (code := Tryz.f64.body.getD .skip) [c A, c B, c S, c Z, x2 E] fol Tryz.func64 (by kernel_rfl) (fun xs w => Tryz.call64 xs w) (by kernel_rfl)
  ·rw [okL_no notOk_z]
   clear h1 h2
   generalize (0 : Rat) = z at *
   exact walk (code := Tryz.f64.body.getD .skip) [c A, c B, c S, c Z, x2 E] fol Tryz.func64 (by kernel_rfl) (fun xs w => Tryz.call64 xs w) (by kernel_rfl)
 ·rcases rRoot r h2 with ⟨w, _, hw, R⟩ | ⟨hw, R⟩
  ·rw [okL_no (notOk_sq hr hw)]
   clear hr hw h1 h2
   exact walk (code := Tryz.f64.body.getD .skip) [c A, c B, c S, c R] fol Tryz.func64 (by kernel_rfl) (fun xs w => Tryz.call64 xs w) (by kernel_rfl)
  ·rw [okL_yes (.inr ⟨hr, hw⟩)]
   clear hr hw h1 h2
   exact walk (code := Tryz.f64.body.getD .skip) [c A, c B, c S, c R] fol Tryz.func64 (by kernel_rfl) (fun xs w => Tryz.call64 xs w) (by kernel_rfl)
theorem qCheckQ (x : Rl) (h1 : Fits x.p) (h2 : Fits x.r) : Sp Tryz.prog 62 [] [rlV x] (nV (if okL x then 0 else 5)) [] := by
 obtain ⟨p, r, neg⟩ := x
 dsimp only at h1 h2
 have A := pCheck (sg p.num) (mg p.num) (sg (dn p)) (mg (dn p)) h1.mn h1.md
 have B := pCheck (sg r.num) (mg r.num) (sg (dn r)) (mg (dn r)) h2.mn h2.md
 rw [okRat_of, if_pos rfl] at A B
 have S := pSgn r
 rcases sgQ_cases r with ⟨hs, hr⟩ | ⟨hs, hr⟩ | ⟨hs, hr⟩ <;> rw [hs] at S
 ·rw [okL_no (notOk_neg hr), if_neg (by simp)]
  clear hr h1 h2
  exact walk (code := Tryz.f62.body.getD .skip) [c A, c B, c S] fol Tryz.func62 (by kernel_rfl) (fun xs w => Tryz.call62 xs w) (by kernel_rfl)
 ·subst hr
  cases neg
  ·rw [okL_yes (.inl ⟨rfl, rfl⟩), if_pos rfl]
   clear h1 h2
   generalize (0 : Rat) = z at *
   exact walk (code := Tryz.f62.body.getD .skip) [c A, c B, c S] fol Tryz.func62 (by kernel_rfl) (fun xs w => Tryz.call62 xs w) (by kernel_rfl)
  ·rw [okL_no notOk_z, if_neg (by simp)]
   clear h1 h2
   generalize (0 : Rat) = z at *
   exact walk (code := Tryz.f62.body.getD .skip) [c A, c B, c S] fol Tryz.func62 (by kernel_rfl) (fun xs w => Tryz.call62 xs w) (by kernel_rfl)
 ·rcases pRoot r h2 with ⟨w, _, hw, R⟩ | ⟨hw, R⟩
  ·rw [okL_no (notOk_sq hr hw), if_neg (by simp)]
   clear hr hw h1 h2
   exact walk (code := Tryz.f62.body.getD .skip) [c A, c B, c S, c R] fol Tryz.func62 (by kernel_rfl) (fun xs w => Tryz.call62 xs w) (by kernel_rfl)
  ·rw [okL_yes (.inr ⟨hr, hw⟩), if_pos rfl]
   clear hr hw h1 h2
   exact walk (code := Tryz.f62.body.getD .skip) [c A, c B, c S, c R] fol Tryz.func62 (by kernel_rfl) (fun xs w => Tryz.call62 xs w) (by kernel_rfl)
abbrev flV (b1 : Bool) (s1 : ByteArray) (b2 : Bool) (s2 : ByteArray) (b3 : Bool) (s3 : ByteArray) (b4 : Bool) (s4 : ByteArray) (n : Bool) : Value := .agg #[.bool b1, .string s1, .bool b2, .string s2, .bool b3, .string s3, .bool b4, .string s4, .bool n]
theorem checkNoP (b1 : Bool) (s1 : ByteArray) (b2 : Bool) (s2 : ByteArray) (b3 : Bool) (s3 : ByteArray) (b4 : Bool) (s4 : ByteArray) (n : Bool) (h1 : s1.size ≤ 131000) (h2 : s2.size ≤ 131000) (k : okRat b1 s1 b2 s2 = false) :
    Sp Tryz.prog 64 [] [flV b1 s1 b2 s2 b3 s3 b4 s4 n] (.bool false) [] ∧ Sp Tryz.prog 62 [] [flV b1 s1 b2 s2 b3 s3 b4 s4 n] (nV 5) [] := by
 have R := rCheck b1 s1 b2 s2 h1 h2
 have Q := pCheck b1 s1 b2 s2 h1 h2
 rw [k] at R Q
 rw [if_neg (by simp)] at Q
 clear k
 constructor
 ·exact walk (code := Tryz.f64.body.getD .skip) [c R] fol Tryz.func64 (by kernel_rfl) (fun xs w => Tryz.call64 xs w) (by kernel_rfl)
 ·exact walk (code := Tryz.f62.body.getD .skip) [c Q] fol Tryz.func62 (by kernel_rfl) (fun xs w => Tryz.call62 xs w) (by kernel_rfl)
theorem checkNoR (p : Rat) (hp : Fits p) (b3 : Bool) (s3 : ByteArray) (b4 : Bool) (s4 : ByteArray) (n : Bool) (h1 : s3.size ≤ 131000) (h2 : s4.size ≤ 131000) (k : okRat b3 s3 b4 s4 = false) :
    Sp Tryz.prog 64 [] [flV (sg p.num) (mg p.num) (sg (dn p)) (mg (dn p)) b3 s3 b4 s4 n] (.bool false) [] ∧ Sp Tryz.prog 62 [] [flV (sg p.num) (mg p.num) (sg (dn p)) (mg (dn p)) b3 s3 b4 s4 n] (nV 5) [] := by
 have R := rCheck b3 s3 b4 s4 h1 h2
 have Q := pCheck b3 s3 b4 s4 h1 h2
 rw [k] at R Q
 rw [if_neg (by simp)] at Q
 have A := rCheckQ p hp
 have B := pCheck (sg p.num) (mg p.num) (sg (dn p)) (mg (dn p)) hp.mn hp.md
 rw [okRat_of, if_pos rfl] at B
 clear k
 constructor
 ·exact walk (code := Tryz.f64.body.getD .skip) [c A, c R] fol Tryz.func64 (by kernel_rfl) (fun xs w => Tryz.call64 xs w) (by kernel_rfl)
 ·exact walk (code := Tryz.f62.body.getD .skip) [c B, c Q] fol Tryz.func62 (by kernel_rfl) (fun xs w => Tryz.call62 xs w) (by kernel_rfl)
theorem sz_of_mg {q : Rat} {k : Nat} (h1 : (mg q.num).size ≤ k) (h2 : (mg (dn q)).size ≤ k) (hk : 1 ≤ k) : HasSz q k := by
 rw [mg_nd] at h1 h2
 refine ⟨nd_of_x h1, ?_⟩
 unfold dn at h2
 split at h2
 ·next e => rw [e]; exact nd_of_x (Nat.le_trans (by decide) hk)
 ·exact nd_of_x (by simpa using h2)
theorem checkAll (b1 : Bool) (s1 : ByteArray) (b2 : Bool) (s2 : ByteArray) (b3 : Bool) (s3 : ByteArray) (b4 : Bool) (s4 : ByteArray) (n : Bool) (k : Nat) (hk1 : 1 ≤ k) (hk : k ≤ 131000) (h1 : s1.size ≤ k) (h2 : s2.size ≤ k) (h3 : s3.size ≤ k) (h4 : s4.size ≤ k) :
    (Sp Tryz.prog 64 [] [flV b1 s1 b2 s2 b3 s3 b4 s4 n] (.bool false) [] ∧ Sp Tryz.prog 62 [] [flV b1 s1 b2 s2 b3 s3 b4 s4 n] (nV 5) []) ∨
    ∃ x : Rl, x.Ok ∧ HasSz x.p k ∧ HasSz x.r k ∧ flV b1 s1 b2 s2 b3 s3 b4 s4 n = rlV x ∧ Sp Tryz.prog 64 [] [rlV x] (.bool true) [] ∧ Sp Tryz.prog 62 [] [rlV x] (nV 0) [] := by
 cases k1 : okRat b1 s1 b2 s2
 ·exact .inl (checkNoP b1 s1 b2 s2 b3 s3 b4 s4 n (by omega) (by omega) k1)
 obtain ⟨p, rfl, rfl, rfl, rfl⟩ := okRat_rat _ _ _ _ k1
 have hp := sz_of_mg h1 h2 hk1
 have fp : Fits p := fz
 cases k2 : okRat b3 s3 b4 s4
 ·exact .inl (checkNoR p fp b3 s3 b4 s4 n (by omega) (by omega) k2)
 obtain ⟨r, rfl, rfl, rfl, rfl⟩ := okRat_rat _ _ _ _ k2
 have hr := sz_of_mg h3 h4 hk1
 have fr : Fits r := fz
 have G := gCheckQ ⟨p, r, n⟩ fp fr
 have Q := qCheckQ ⟨p, r, n⟩ fp fr
 by_cases ho : (⟨p, r, n⟩ : Rl).Ok
 ·rw [okL_yes ho] at G Q
  exact .inr ⟨⟨p, r, n⟩, ho, hp, hr, rfl, G, Q⟩
 ·rw [okL_no ho] at G Q
  exact .inl ⟨G, Q⟩
theorem vBytes (b1 : Bool) (s1 : ByteArray) (b2 : Bool) (s2 : ByteArray) (h1 : s1.size ≤ 4611686018427387903) (h2 : s2.size ≤ 4611686018427387903) : Sp Tryz.prog 63 [] [.agg #[.bool b1, .string s1, .bool b2, .string s2]] (nV ((s1.size + s2.size : Nat) : Int)) [] := by
 have w1 : IntKind.i64.wrap ((s1.size : Int) + (s2.size : Int)) = ((s1.size + s2.size : Nat) : Int) := by rw [w64 (by omega) (by omega)]; omega
 exact walk (code := Tryz.f63.body.getD .skip) [L, L, Go.Sy.e (congrArg (Value.int IntKind.i64) w1)] fol Tryz.func63 (by kernel_rfl) (fun xs w => Tryz.call63 xs w) (by kernel_rfl)
theorem vSmall (b1 : Bool) (s1 : ByteArray) (b2 : Bool) (s2 : ByteArray) (b3 : Bool) (s3 : ByteArray) (b4 : Bool) (s4 : ByteArray) (n : Bool) (h1 : s1.size ≤ 4611686018427387903) (h2 : s2.size ≤ 4611686018427387903) (h3 : s3.size ≤ 4611686018427387903) (h4 : s4.size ≤ 4611686018427387903) :
    Sp Tryz.prog 18 [] [flV b1 s1 b2 s2 b3 s3 b4 s4 n] (.bool false) [] ∨ ∃ x : Rl, x.Ok ∧ HasSz x.p 8 ∧ HasSz x.r 8 ∧ flV b1 s1 b2 s2 b3 s3 b4 s4 n = rlV x ∧ Sp Tryz.prog 18 [] [rlV x] (.bool true) [] := by
 have A := vBytes b1 s1 b2 s2 h1 h2
 have B := vBytes b3 s3 b4 s4 h3 h4
 by_cases c1 : s1.size + s2.size ≤ 8
 ·have e1 : decide (((s1.size + s2.size : Nat) : Int) ≤ 8) = true := decide_eq_true (by omega)
  by_cases c2 : s3.size + s4.size ≤ 8
  ·have e2 : decide (((s3.size + s4.size : Nat) : Int) ≤ 8) = true := decide_eq_true (by omega)
   rcases checkAll b1 s1 b2 s2 b3 s3 b4 s4 n 8 (by omega) (by omega) (by omega) (by omega) (by omega) (by omega) with ⟨C, _⟩ | ⟨x, ok, z1, z2, e, C, _⟩
   ·left
    clear c1 c2 h1 h2 h3 h4
    generalize ((s1.size + s2.size : Nat) : Int) = n1 at *
    generalize ((s3.size + s4.size : Nat) : Int) = n2 at *
    exact walk (code := Tryz.f18.body.getD .skip) [c A, eb e1, c B, eb e2, c C] fol Tryz.func18 (by kernel_rfl) (fun xs w => Tryz.call18 xs w) (by kernel_rfl)
   ·right
    refine ⟨x, ok, z1, z2, e, ?_⟩
    rw [← e] at C ⊢
    clear c1 c2 h1 h2 h3 h4 e z1 z2 ok
    generalize ((s1.size + s2.size : Nat) : Int) = n1 at *
    generalize ((s3.size + s4.size : Nat) : Int) = n2 at *
    exact walk (code := Tryz.f18.body.getD .skip) [c A, eb e1, c B, eb e2, c C] fol Tryz.func18 (by kernel_rfl) (fun xs w => Tryz.call18 xs w) (by kernel_rfl)
  ·have e2 : decide (((s3.size + s4.size : Nat) : Int) ≤ 8) = false := decide_eq_false (by omega)
   left
   clear c1 c2 h1 h2 h3 h4
   generalize ((s1.size + s2.size : Nat) : Int) = n1 at *
   generalize ((s3.size + s4.size : Nat) : Int) = n2 at *
   exact walk (code := Tryz.f18.body.getD .skip) [c A, eb e1, c B, eb e2] fol Tryz.func18 (by kernel_rfl) (fun xs w => Tryz.call18 xs w) (by kernel_rfl)
 ·have e1 : decide (((s1.size + s2.size : Nat) : Int) ≤ 8) = false := decide_eq_false (by omega)
  left
  clear c1 h1 h2 h3 h4
  generalize ((s1.size + s2.size : Nat) : Int) = n1 at *
  exact walk (code := Tryz.f18.body.getD .skip) [c A, eb e1] fol Tryz.func18 (by kernel_rfl) (fun xs w => Tryz.call18 xs w) (by kernel_rfl)
end Go.Proofs.YthdaimoankaciaaGreatDoor
set_option linter.unusedSimpArgs false
set_option linter.unusedVariables false
namespace Go.Proofs.YthdaimoankaciaaGreatDoor
open Go Go.RowKit Go.Sy
open Vi
theorem qCmp (x y : Rl) {i j k l : Nat} [h1 : HasSz x.p i] [h2 : HasSz x.r j] [h3 : HasSz y.p k] [h4 : HasSz y.r l] (hx : 0 ≤ x.r) (hy : 0 ≤ y.r) (hs : i + j + k + l ≤ 2000 := by first | omega | decide) : Sp Tryz.prog 26 [] [rlV x, rlV y] (nV (Rl.cmp x y)) [] := by
 haveI := hs_mono h1 (show i ≤ i + j + k + l + 1 by omega)
 haveI := hs_mono h2 (show j ≤ i + j + k + l + 1 by omega)
 haveI := hs_mono h3 (show k ≤ i + j + k + l + 1 by omega)
 haveI := hs_mono h4 (show l ≤ i + j + k + l + 1 by omega)
 exact qCompare x y (i + j + k + l + 1) (by omega) (by omega) hx hy
theorem qCmpR (x : Rl) (q : Rat) {i j k : Nat} [h1 : HasSz x.p i] [h2 : HasSz x.r j] [h3 : HasSz q k] (hx : 0 ≤ x.r) (hs : i + j + k ≤ 2000 := by first | omega | decide) : Sp Tryz.prog 49 [] [rlV x, rV q] (nV (Rl.cmp x (Rl.rat q))) [] := by
 haveI := hs_mono h1 (show i ≤ i + j + k + 1 by omega)
 haveI := hs_mono h2 (show j ≤ i + j + k + 1 by omega)
 haveI := hs_mono h3 (show k ≤ i + j + k + 1 by omega)
 exact qCompareRat x q (i + j + k + 1) (by omega) (by omega) hx
theorem qFlr (x : Rl) {i j : Nat} [h1 : HasSz x.p i] [h2 : HasSz x.r j] (hx : 0 ≤ x.r) (hs : i + j ≤ 5000 := by first | omega | decide) : Sp Tryz.prog 45 [] [rlV x] (iV (fl x)) [] := by
 haveI := hs_mono h1 (show i ≤ i + j by omega)
 haveI := hs_mono h2 (show j ≤ i + j by omega)
 exact qFloor x (i + j) (by omega) hx
theorem simpLast (x y x' y' u : Rl) (q2 q3 q4 l t v one : Rat) (n m n2 m2 s1 s2 c : Int) (e1 : decide (s1 < 0) = false) (e2 : decide (s2 ≤ 0) = false) (ec : decide (c > 0) = false)
    (S1 : Sp Tryz.prog 51 [] [rlV x] (nV s1) []) (S2 : Sp Tryz.prog 51 [] [rlV y] (nV s2) []) (F : Sp Tryz.prog 45 [] [rlV x] (iV n) []) (J : Sp Tryz.prog 110 [] [nV 1] (iV 1) []) (A : Sp Tryz.prog 109 [] [iV n, iV 1] (iV m) [])
    (W : Sp Tryz.prog 117 [] [iV m] (rV q3) []) (C : Sp Tryz.prog 49 [] [rlV y, rV q3] (nV c) []) (W2 : Sp Tryz.prog 117 [] [iV n] (rV q2) []) (N : Sp Tryz.prog 81 [] [rV q2] (rV l) [])
    (H1 : Sp Tryz.prog 30 [] [rlV x, rV l] (rlV x') []) (H2 : Sp Tryz.prog 30 [] [rlV y, rV l] (rlV y') []) (V : Sp Tryz.prog 36 [] [rlV y'] (.tuple #[rlV u, nV 0]) []) (I : Sp Tryz.prog 84 [] [nV 1] (rV one) [])
    (F2 : Sp Tryz.prog 45 [] [rlV u] (iV n2) []) (A2 : Sp Tryz.prog 109 [] [iV n2, iV 1] (iV m2) []) (W3 : Sp Tryz.prog 117 [] [iV m2] (rV q4) []) (S3 : Sp Tryz.prog 51 [] [rlV x'] (nV 0) [])
    (Q : Sp Tryz.prog 82 [] [rV one, rV q4] (rV t) []) (U : Sp Tryz.prog 85 [] [rV t, rV l] (rV v) []) : Sp Tryz.prog 98 [] [rlV x, rlV y] (rV v) [] := by
 obtain ⟨xp, xr, xn⟩ := x
 obtain ⟨yp, yr, yn⟩ := y
 obtain ⟨xp', xr', xn'⟩ := x'
 obtain ⟨yp', yr', yn'⟩ := y'
 exact walk (code := Tryz.f98.body.getD .skip) [Sy.c S1, eb e1, Sy.c S2, eb e2, Sy.c F, Sy.c J, Sy.c A, Sy.c W, Sy.c C, eb ec, Sy.c W2, Sy.c N, Sy.c H1, Sy.c H2, Sy.c V, Sy.c I, Sy.c F2, Sy.c J, Sy.c A2, Sy.c W3, Sy.c S3, Sy.c Q, Sy.c U] fol Tryz.func98 (by kernel_rfl) (fun xs w => Tryz.call98 xs w) (by kernel_rfl)
theorem simpStep (x y x' y' u a : Rl) (q2 q3 q4 q5 l t v one : Rat) (n m n2 m2 s1 s2 s3 c : Int) (e1 : decide (s1 < 0) = false) (e2 : decide (s2 ≤ 0) = false) (ec : decide (c > 0) = false) (e3 : decide (s3 > 0) = true)
    (S1 : Sp Tryz.prog 51 [] [rlV x] (nV s1) []) (S2 : Sp Tryz.prog 51 [] [rlV y] (nV s2) []) (F : Sp Tryz.prog 45 [] [rlV x] (iV n) []) (J : Sp Tryz.prog 110 [] [nV 1] (iV 1) []) (A : Sp Tryz.prog 109 [] [iV n, iV 1] (iV m) [])
    (W : Sp Tryz.prog 117 [] [iV m] (rV q3) []) (C : Sp Tryz.prog 49 [] [rlV y, rV q3] (nV c) []) (W2 : Sp Tryz.prog 117 [] [iV n] (rV q2) []) (N : Sp Tryz.prog 81 [] [rV q2] (rV l) [])
    (H1 : Sp Tryz.prog 30 [] [rlV x, rV l] (rlV x') []) (H2 : Sp Tryz.prog 30 [] [rlV y, rV l] (rlV y') []) (V : Sp Tryz.prog 36 [] [rlV y'] (.tuple #[rlV u, nV 0]) []) (I : Sp Tryz.prog 84 [] [nV 1] (rV one) [])
    (F2 : Sp Tryz.prog 45 [] [rlV u] (iV n2) []) (A2 : Sp Tryz.prog 109 [] [iV n2, iV 1] (iV m2) []) (W3 : Sp Tryz.prog 117 [] [iV m2] (rV q4) []) (S3 : Sp Tryz.prog 51 [] [rlV x'] (nV s3) [])
    (V2 : Sp Tryz.prog 36 [] [rlV x'] (.tuple #[rlV a, nV 0]) []) (R : Sp Tryz.prog 98 [] [rlV u, rlV a] (rV q5) [])
    (Q : Sp Tryz.prog 82 [] [rV one, rV q5] (rV t) []) (U : Sp Tryz.prog 85 [] [rV t, rV l] (rV v) []) : Sp Tryz.prog 98 [] [rlV x, rlV y] (rV v) [] := by
 obtain ⟨xp, xr, xn⟩ := x
 obtain ⟨yp, yr, yn⟩ := y
 obtain ⟨xp', xr', xn'⟩ := x'
 obtain ⟨yp', yr', yn'⟩ := y'
 exact walk (code := Tryz.f98.body.getD .skip) [Sy.c S1, eb e1, Sy.c S2, eb e2, Sy.c F, Sy.c J, Sy.c A, Sy.c W, Sy.c C, eb ec, Sy.c W2, Sy.c N, Sy.c H1, Sy.c H2, Sy.c V, Sy.c I, Sy.c F2, Sy.c J, Sy.c A2, Sy.c W3, Sy.c S3, eb e3, Sy.c V2, Sy.c R, Sy.c Q, Sy.c U] fol Tryz.func98 (by kernel_rfl) (fun xs w => Tryz.call98 xs w) (by kernel_rfl)
theorem simpWhole (x y : Rl) (q3 : Rat) (n m s1 s2 c : Int) (e1 : decide (s1 < 0) = false) (e2 : decide (s2 ≤ 0) = false) (ec : decide (c > 0) = true)
    (S1 : Sp Tryz.prog 51 [] [rlV x] (nV s1) []) (S2 : Sp Tryz.prog 51 [] [rlV y] (nV s2) []) (F : Sp Tryz.prog 45 [] [rlV x] (iV n) []) (J : Sp Tryz.prog 110 [] [nV 1] (iV 1) []) (A : Sp Tryz.prog 109 [] [iV n, iV 1] (iV m) [])
    (W : Sp Tryz.prog 117 [] [iV m] (rV q3) []) (C : Sp Tryz.prog 49 [] [rlV y, rV q3] (nV c) []) : Sp Tryz.prog 98 [] [rlV x, rlV y] (rV q3) [] := by
 obtain ⟨xp, xr, xn⟩ := x
 obtain ⟨yp, yr, yn⟩ := y
 exact walk (code := Tryz.f98.body.getD .skip) [Sy.c S1, eb e1, Sy.c S2, eb e2, Sy.c F, Sy.c J, Sy.c A, Sy.c W, Sy.c C, eb ec] fol Tryz.func98 (by kernel_rfl) (fun xs w => Tryz.call98 xs w) (by kernel_rfl)
theorem sgn_dec {x : Rl} {v : Int} (hr : 0 ≤ x.r) (h : signF x.p x.s x.r = v) : sgR x.val = v := by rw [← h, signF_eq _ _ _ hr]; rfl
theorem cmp_dec {x y : Rl} {v : Int} (hx : 0 ≤ x.r) (hy : 0 ≤ y.r) (h : Rl.cmpF x y = v) : Rl.cmp x y = v := by rw [← h, Rl.cmpF_eq x y hx hy]
theorem isq_eq2 {n k : Nat} (h1 : k * k ≤ n) (h2 : n < (k + 1) * (k + 1)) : isq n = k := by
 obtain ⟨h3, h4⟩ := isq_spec n
 rcases Nat.lt_trichotomy (isq n) k with h | h | h
 ·have := Nat.mul_le_mul (show isq n + 1 ≤ k by omega) (show isq n + 1 ≤ k by omega); omega
 ·exact h
 ·have := Nat.mul_le_mul (show k + 1 ≤ isq n by omega) (show k + 1 ≤ isq n by omega); omega
theorem fl_eq {x : Rl} {n : Int} (hx : x.Ok) (h : RR.IsFl x.val n) : fl x = n := (fl_ok x hx).unique h
theorem isFl_rat (n : Int) : RR.IsFl (RR.ofRat (n : Rat)) n := ⟨RR.le_refl _, RR.rat_lt.2 (by rw [Rat.intCast_add]; have : ((1 : Int) : Rat) = 1 := rfl
                                                                                              grind)⟩
theorem fl_rat (n : Int) : fl (Rl.rat (n : Rat)) = n := fl_eq (Rl.rat_ok _) (by rw [Rl.rat_val]; exact isFl_rat n)
theorem ok2 (p : Rat) : (⟨p, 2, false⟩ : Rl).Ok := ok_nat p 2 1 false (by omega) (by omega) (by omega)
theorem fl_r2 : fl ⟨0, 2, false⟩ = 1 := by
 show (0 * 1 + ((isq 2 : Nat) : Int)) / (1 * 1) = 1
 rw [isq_eq2 (k := 1) (by omega) (by omega)]; rfl
theorem fl_r12 : fl ⟨1, 2, false⟩ = 2 := by
 show (1 * 1 + ((isq 2 : Nat) : Int)) / (1 * 1) = 2
 rw [isq_eq2 (k := 1) (by omega) (by omega)]; rfl
theorem two0 : (0 : Rat) ≤ 2 := by decide +kernel
instance (p q : Rat) (b : Bool) (k : Nat) [h : HasSz p k] : HasSz (⟨p, q, b⟩ : Rl).p k := h
instance (p q : Rat) (b : Bool) (k : Nat) [h : HasSz q k] : HasSz (⟨p, q, b⟩ : Rl).r k := h
instance (p : Rat) (k : Nat) [h : HasSz p k] : HasSz (Rl.rat p).p k := h
instance (p : Rat) : HasSz (Rl.rat p).r 1 := (inferInstance : HasSz (0 : Rat) 1)
instance : HasSz (3 : Rat) 1 := ⟨by unfold Sz; decide⟩
theorem hsc {q : Rat} (h : q.num.natAbs < 256 ∧ q.den < 256) : HasSz q 1 := ⟨by rw [Nat.pow_one]; exact h.1, by rw [Nat.pow_one]; exact h.2⟩
theorem size_small {x : Int} (h : x.natAbs < 256) : (mg x).size ≤ 1 := by rw [mg_nd]; exact nd_le 256 (by omega) _ 1 (by omega)
theorem simp2 : Sp Tryz.prog 98 [] [rlV (Rl.rat 2), rlV ⟨1, 2, false⟩] (rV (7 / 3)) [] := by
 haveI z1 : HasSz ((1 : Rat) / 3) 1 := hsc (by decide +kernel)
 have S1 := qSgnR (Rl.rat 2) Rat.le_refl
 rw [sgn_dec (v := 1) Rat.le_refl (by decide +kernel)] at S1
 have S2 := qSgnR ⟨1, 2, false⟩ two0
 rw [sgn_dec (v := 1) two0 (by decide +kernel)] at S2
 have F := qFlr (Rl.rat 2) Rat.le_refl
 rw [show fl (Rl.rat 2) = 2 from fl_rat 2] at F
 have A := iAdd 2 1 (Nat.le_trans (size_small (by decide)) (by omega)) (Nat.le_trans (size_small (by decide)) (by omega))
 have W := qWhole 3 (Nat.le_trans (size_small (by decide)) (by omega))
 have C := qCmpR ⟨1, 2, false⟩ 3 two0
 rw [cmp_dec (v := -1) two0 Rat.le_refl (by decide +kernel)] at C
 have W2 := qWhole 2 (Nat.le_trans (size_small (by decide)) (by omega))
 have N := pNeg 2
 have H1 := qShift (Rl.rat 2) (-2) fz fz
 rw [show (⟨(Rl.rat 2).p + -2, (Rl.rat 2).r, (Rl.rat 2).neg⟩ : Rl) = Rl.rat 0 by unfold Rl.rat; simp; decide +kernel] at H1
 have H2 := qShift ⟨1, 2, false⟩ (-2) fz fz
 rw [show (1 : Rat) + -2 = -1 by decide +kernel] at H2
 have V := qInverse ⟨-1, 2, false⟩ (ok2 _) (by intro e; have := congrArg Rl.r e; exact absurd this (by decide +kernel))
 rw [show Rl.inv ⟨-1, 2, false⟩ = ⟨1, 2, false⟩ by
  unfold Rl.inv Rl.cj Rl.scR Rl.nm
  rw [if_neg (by decide +kernel)]
  simp only [Rl.mk.injEq]
  refine ⟨by decide +kernel, by decide +kernel, by decide +kernel⟩] at V
 have F2 := qFlr ⟨1, 2, false⟩ two0
 rw [fl_r12] at F2
 have S3 := qSgnR (Rl.rat 0) Rat.le_refl
 rw [sgn_dec (v := 0) Rat.le_refl (by decide +kernel)] at S3
 have I := pI 1 (by omega) (by omega)
 have Q := qQuot 1 3 (by decide +kernel) fz fz
 have U := pSub (1 / 3) (-2) fz fz
 rw [show (1 : Rat) / 3 - -2 = 7 / 3 by decide +kernel] at U
 exact simpLast _ _ _ _ _ _ _ _ _ _ _ _ _ _ _ _ _ _ _ rfl rfl rfl S1 S2 F (iFromInt 1 (by omega) (by omega)) A W C W2 N H1 H2 V I F2 A W S3 Q U
theorem simp1 : Sp Tryz.prog 98 [] [rlV ⟨0, 2, false⟩, rlV (Rl.rat (3 / 2))] (rV (10 / 7)) [] := by
 haveI z0 : HasSz ((3 : Rat) / 2) 1 := hsc (by decide +kernel)
 haveI z1 : HasSz ((1 : Rat) / 2) 1 := hsc (by decide +kernel)
 haveI z2 : HasSz ((7 : Rat) / 3) 1 := hsc (by decide +kernel)
 haveI z3 : HasSz ((3 : Rat) / 7) 1 := hsc (by decide +kernel)
 have S1 := qSgnR ⟨0, 2, false⟩ two0
 rw [sgn_dec (v := 1) two0 (by decide +kernel)] at S1
 have S2 := qSgnR (Rl.rat (3 / 2)) Rat.le_refl
 rw [sgn_dec (v := 1) Rat.le_refl (by decide +kernel)] at S2
 have F := qFlr ⟨0, 2, false⟩ two0
 rw [fl_r2] at F
 have A := iAdd 1 1 (Nat.le_trans (size_small (by decide)) (by omega)) (Nat.le_trans (size_small (by decide)) (by omega))
 have W := qWhole 2 (Nat.le_trans (size_small (by decide)) (by omega))
 have C := qCmpR (Rl.rat (3 / 2)) 2 Rat.le_refl
 rw [cmp_dec (v := -1) Rat.le_refl Rat.le_refl (by decide +kernel)] at C
 have W2 := qWhole 1 (Nat.le_trans (size_small (by decide)) (by omega))
 have N := pNeg 1
 have H1 := qShift ⟨0, 2, false⟩ (-1) fz fz
 rw [show (0 : Rat) + -1 = -1 by decide +kernel] at H1
 have H2 := qShift (Rl.rat (3 / 2)) (-1) fz fz
 rw [show (⟨(Rl.rat (3 / 2)).p + -1, (Rl.rat (3 / 2)).r, (Rl.rat (3 / 2)).neg⟩ : Rl) = Rl.rat (1 / 2) by unfold Rl.rat; simp; decide +kernel] at H2
 have V := qInverse (Rl.rat (1 / 2)) (Rl.rat_ok _) (by intro e; have := congrArg Rl.p e; exact absurd this (by decide +kernel))
 rw [show Rl.inv (Rl.rat (1 / 2)) = Rl.rat 2 by unfold Rl.inv; rw [if_pos (show (Rl.rat (1 / 2)).r = 0 from rfl)]; unfold Rl.rat; simp only [Rl.mk.injEq]; exact ⟨by decide +kernel, trivial, trivial⟩] at V
 have F2 := qFlr (Rl.rat 2) Rat.le_refl
 rw [show fl (Rl.rat 2) = 2 from fl_rat 2] at F2
 have A2 := iAdd 2 1 (Nat.le_trans (size_small (by decide)) (by omega)) (Nat.le_trans (size_small (by decide)) (by omega))
 have W3 := qWhole 3 (Nat.le_trans (size_small (by decide)) (by omega))
 have S3 := qSgnR ⟨-1, 2, false⟩ two0
 rw [sgn_dec (v := 1) two0 (by decide +kernel)] at S3
 have V2 := qInverse ⟨-1, 2, false⟩ (ok2 _) (by intro e; have := congrArg Rl.r e; exact absurd this (by decide +kernel))
 rw [show Rl.inv ⟨-1, 2, false⟩ = ⟨1, 2, false⟩ by
  unfold Rl.inv Rl.cj Rl.scR Rl.nm
  rw [if_neg (by decide +kernel)]
  simp only [Rl.mk.injEq]
  refine ⟨by decide +kernel, by decide +kernel, by decide +kernel⟩] at V2
 have I := pI 1 (by omega) (by omega)
 have Q := qQuot 1 (7 / 3) (by decide +kernel) fz fz
 rw [show (1 : Rat) / (7 / 3) = 3 / 7 by decide +kernel] at Q
 have U := pSub (3 / 7) (-1) fz fz
 rw [show (3 : Rat) / 7 - -1 = 10 / 7 by decide +kernel] at U
 exact simpStep _ _ _ _ _ _ _ _ _ _ _ _ _ _ _ _ _ _ _ _ _ _ rfl rfl rfl rfl S1 S2 F (iFromInt 1 (by omega) (by omega)) A W C W2 N H1 H2 V I F2 A2 W3 S3 V2 simp2 Q U
theorem vRoot3 (p q r : Int) (hp : -255 ≤ p ∧ p ≤ 255) (hq : -255 ≤ q ∧ q ≤ 255) (hr : -255 ≤ r ∧ r ≤ 255) : Sp Tryz.prog 79 [] [nV p, nV q, nV r] (rlV (mkR (p : Rat) (q : Rat) (r : Rat))) [] := by
 have A := gWhole p (by omega) (by omega)
 have B := gWhole q (by omega) (by omega)
 have C := gWhole r (by omega) (by omega)
 haveI z1 : HasSz (p : Rat) 1 := int1_hs hp
 haveI z2 : HasSz (q : Rat) 1 := int1_hs hq
 haveI z3 : HasSz (r : Rat) 1 := int1_hs hr
 have K := gMake (p : Rat) (q : Rat) (r : Rat)
 clear z1 z2 z3 hp hq hr
 generalize mkR (p : Rat) (q : Rat) (r : Rat) = y at *
 generalize (p : Rat) = t1 at *
 generalize (q : Rat) = t2 at *
 generalize (r : Rat) = t3 at *
 exact walk (code := Tryz.f79.body.getD .skip) [c A, c B, c C, c K] fol Tryz.func79 (by kernel_rfl) (fun xs w => Tryz.call79 xs w) (by kernel_rfl)
theorem qBetween (x y : Rl) (v : Rat) (c : Int) (ec : decide (c ≥ 0) = false) (C : Sp Tryz.prog 26 [] [rlV x, rlV y] (nV c) []) (R : Sp Tryz.prog 98 [] [rlV x, rlV y] (rV v) []) : Sp Tryz.prog 39 [] [rlV x, rlV y] (.tuple #[rV v, nV 0]) [] := by
 exact walk (code := Tryz.f39.body.getD .skip) [Sy.c C, eb ec, Sy.c R] fol Tryz.func39 (by kernel_rfl) (fun xs w => Tryz.call39 xs w) (by kernel_rfl)
theorem vKnown3 : Sp Tryz.prog 17 [] [] (.bool true) [] := by
 have i2 : ∀ w : Rat, w * w ≠ 2 := irr_nat 2 1 (by omega) (by omega)
 have i8 : ∀ w : Rat, w * w ≠ 8 := irr_nat 8 2 (by omega) (by omega)
 have mA : mkR 1 (-1) 2 = ⟨1, 2, true⟩ := by rw [mkR_irr _ _ _ i2]; simp only [Rl.mk.injEq]; exact ⟨trivial, by decide +kernel, by decide +kernel⟩
 have mB : mkR 1 1 2 = ⟨1, 2, false⟩ := by rw [mkR_irr _ _ _ i2]; simp only [Rl.mk.injEq]; exact ⟨trivial, by decide +kernel, by decide +kernel⟩
 have mC : mkR 0 1 2 = ⟨0, 2, false⟩ := by rw [mkR_irr _ _ _ i2]; simp only [Rl.mk.injEq]; exact ⟨trivial, by decide +kernel, by decide +kernel⟩
 have mD : mkR 0 3 8 = ⟨0, 72, false⟩ := by rw [mkR_irr _ _ _ i8]; simp only [Rl.mk.injEq]; exact ⟨trivial, by decide +kernel, by decide +kernel⟩
 haveI z8 : HasSz (8 : Rat) 1 := hsc (by decide +kernel)
 haveI z0 : HasSz ((3 : Rat) / 2) 1 := hsc (by decide +kernel)
 have W1 := gWhole (-1) (by omega) (by omega)
 have W2 := gWhole (-2) (by omega) (by omega)
 have W3 := gWhole 1 (by omega) (by omega)
 have W4 := gWhole 72 (by omega) (by omega)
 have R := (qRootsQ (-1) (-2) 1 1 2 (by decide +kernel) (by decide +kernel) (by decide +kernel)).2.2 (by decide +kernel)
 have P0 := pI 0 (by omega) (by omega)
 have V0 := gWhole 0 (by omega) (by omega)
 have V3 := gWhole 3 (by omega) (by omega)
 have V8 := gWhole 8 (by omega) (by omega)
 have M := qMake 0 3 8 (by decide +kernel)
 have D := rOf 3 2 (by omega) (by omega) (by omega) (by omega) (by omega)
 have e32 : Rat.divInt 3 2 = 3 / 2 := by decide +kernel
 rw [e32] at D
 have D2 := rOf 10 7 (by omega) (by omega) (by omega) (by omega) (by omega)
 have e107 : Rat.divInt 10 7 = 10 / 7 := by decide +kernel
 rw [e107] at D2
 have G := gOf (3 / 2)
 have Q1 := vRoot3 0 1 2 (by omega) (by omega) (by omega)
 have Q2 := vRoot3 1 (-1) 2 (by omega) (by omega) (by omega)
 have Q3 := vRoot3 1 1 2 (by omega) (by omega) (by omega)
 rw [show mkR ((0 : Int) : Rat) ((1 : Int) : Rat) ((2 : Int) : Rat) = ⟨0, 2, false⟩ from mC] at Q1
 rw [show mkR ((1 : Int) : Rat) ((-1 : Int) : Rat) ((2 : Int) : Rat) = ⟨1, 2, true⟩ from mA] at Q2
 rw [show mkR ((1 : Int) : Rat) ((1 : Int) : Rat) ((2 : Int) : Rat) = ⟨1, 2, false⟩ from mB] at Q3
 rw [mA, mB] at R
 rw [mD] at M
 have C := qCmp ⟨0, 2, false⟩ (Rl.rat (3 / 2)) two0 Rat.le_refl
 rw [cmp_dec (v := -1) two0 Rat.le_refl (by decide +kernel)] at C
 have B := qBetween _ _ _ _ rfl C simp1
 have C2 := qCmp ⟨1, 2, true⟩ ⟨1, 2, false⟩ two0 two0
 rw [cmp_dec (v := -1) two0 two0 (by decide +kernel)] at C2
 have x1 := sameL ⟨1, 2, true⟩
 have x2 := sameL ⟨1, 2, false⟩
 have x3 := same (10 / 7)
 have e72 : rlV ⟨0, 72, false⟩ = .agg #[.bool false, .string ⟨#[]⟩, .bool false, .string ⟨#[]⟩, .bool (sg (72 : Rat).num), .string (mg (72 : Rat).num), .bool (sg (dn 72)), .string (mg (dn 72)), .bool false] := by
  unfold rlV
  rw [show (0 : Rat).num = 0 from rfl, show dn 0 = 0 from rfl, sg0, mg0]
 have x4 := sameL ⟨0, 72, false⟩
 rw [e72] at x4 M
 rw [show ((-1 : Int) : Rat) = -1 from rfl] at W1
 rw [show ((-2 : Int) : Rat) = -2 from rfl] at W2
 rw [show ((1 : Int) : Rat) = 1 from rfl] at W3
 rw [show ((72 : Int) : Rat) = 72 from rfl] at W4
 rw [show ((0 : Int) : Rat) = 0 from rfl] at V0
 rw [show ((3 : Int) : Rat) = 3 from rfl] at V3
 rw [show ((8 : Int) : Rat) = 8 from rfl] at V8
 clear C mA mB mC mD i2 i8 z8 z0 e32 e107 e72 P0
 generalize Rl.rat (3 / 2) = y1 at *
 generalize (⟨1, 2, true⟩ : Rl) = y2 at *
 generalize (⟨1, 2, false⟩ : Rl) = y3 at *
 generalize (⟨0, 2, false⟩ : Rl) = y4 at *
 generalize (10 / 7 : Rat) = t1 at *
 generalize (3 / 2 : Rat) = t2 at *
 generalize (-1 : Rat) = t3 at *
 generalize (-2 : Rat) = t4 at *
 generalize (72 : Rat) = t5 at *
 generalize (8 : Rat) = t6 at *
 generalize (3 : Rat) = t7 at *
 generalize (1 : Rat) = t8 at *
 generalize (0 : Rat) = t9 at *
 exact walk (code := Tryz.f17.body.getD .skip) [c W1, c W2, c W3, cr R, c V0, c V3, c V8, c M, c Q1, c D, c G, c B, c Q2, Sy.x2 x1, c Q3, Sy.x2 x2, c W4, Sy.x2 x4, c D2, Sy.x2 x3, c C2] fol Tryz.func17 (by kernel_rfl) (fun xs w => Tryz.call17 xs w) (by kernel_rfl)
end Go.Proofs.YthdaimoankaciaaGreatDoor
set_option linter.unusedSimpArgs false
set_option linter.unusedVariables false
namespace Go.Proofs.YthdaimoankaciaaGreatDoor
open Go Go.RowKit Go.Sy
open Vi
theorem jMul (x y : Int) (hx : (mg x).size ≤ 4294967290) (hy : (mg y).size ≤ 4294967290) : Sp Tryz.prog 114 [] [iV x, iV y] (iV (x * y)) [] := Sp.of (fun xs w => Tryz.call114 xs w) (by kernel_rfl) (by kernel_rfl) (fun w => rMul_c x y _ rfl w hx hy)
theorem gCmpN (n : Int) (x : Rl) {i j k : Nat} [HasSz (n : Rat) i] [HasSz x.p j] [HasSz x.r k] (hx : 0 ≤ x.r) (hs : i + j + k ≤ 900 := by first | omega | decide) : Sp Tryz.prog 38 [] [rlV (Rl.rat (n : Rat)), rlV x] (nV (Rl.cmp (Rl.rat (n : Rat)) x)) [] := by
 haveI : HasSz (Rl.rat (n : Rat)).p i := ‹HasSz (n : Rat) i›
 haveI : HasSz (Rl.rat (n : Rat)).r 1 := (inferInstance : HasSz (0 : Rat) 1)
 exact gCompare (Rl.rat (n : Rat)) x Rat.le_refl hx
theorem int_hs' (z : Int) (k : Nat) (h : (mg z).size ≤ k) (hk : 1 ≤ k) : HasSz (z : Rat) k := by
 refine sz_of_mg (by rw [Rat.num_intCast]; exact h) ?_ hk
 rw [dn_int, mg0]; exact Nat.zero_le _
theorem gFloor (x : Rl) (k : Nat) (hk : k ≤ 60) (hk1 : 1 ≤ k) (hx : x.Ok) [hp : HasSz x.p k] [hr : HasSz x.r k] : Sp Tryz.prog 46 [] [rlV x] (rV ((fl x : Int) : Rat)) [] := by
 have s3 := hr.sz.num
 have s4 := hr.sz.den
 have m3 := mg_mul x.r.num x.r.den
 have m5 := isq_mg (x.r.num * (x.r.den : Int))
 have d2 := den_pos' x.r
 have hn : 0 ≤ x.r.num * (x.r.den : Int) := Int.mul_nonneg (Rat.num_nonneg.2 hx.nonneg) (Int.le_of_lt d2)
 obtain ⟨h1, h2⟩ := root_near isq isq_all x.r hx.nonneg
 have fn := floor_near h1 h2 (fl_ok x hx)
 have M := jMul x.r.num (x.r.den : Int) (by omega) (by omega)
 have S := jSqrt _ hn (by omega)
 have F := jFromInt 1 (by omega) (by omega)
 have K := rMake ((isq (x.r.num * (x.r.den : Int)).toNat : Nat) : Int) (x.r.den : Int) (by omega) (by rw [← mg_nd]; omega) (by rw [← mg_nd]; omega)
 have sb := si_in x
 have Sd := gSide x
 have W := gWhole x.si (by omega) (by omega)
 rw [Rl.si_rat] at W
 obtain ⟨t, ht⟩ : ∃ t, t = Rat.divInt ((isq (x.r.num * (x.r.den : Int)).toNat : Nat) : Int) (x.r.den : Int) := ⟨_, rfl⟩
 haveI zt : HasSz t (2 * k) := by
  rw [ht]
  exact ⟨Sz.of _ _ (2 * k) (by omega) (nd_of_x (by rw [← mg_nd]; omega)) (nd_of_x (by rw [← mg_nd]; omega))⟩
 rw [← ht] at K fn
 have U := rMul x.s t fz fz
 have A := rAdd x.p (x.s * t) fz fz
 have L := rFloor (x.p + x.s * t) fz
 have z0 := fl_size x k
 obtain ⟨m, hm⟩ : ∃ m, m = fl x := ⟨_, rfl⟩
 have hf := fl_ok x hx
 have b1 := mg_add (fl x) 1
 have b2 := mg_sub (fl x) 1
 rw [mg_one] at b1 b2
 rw [← hm] at z0 hf fn b1 b2 ⊢
 haveI y0 : HasSz (m : Rat) (6 * k + 6) := int_hs' m _ (by omega) (by omega)
 haveI y1 : HasSz ((m + 1 : Int) : Rat) (6 * k + 6) := int_hs' _ _ (by omega) (by omega)
 haveI y2 : HasSz ((m - 1 : Int) : Rat) (6 * k + 6) := int_hs' _ _ (by omega) (by omega)
 have C0 := gCmpN m x hx.nonneg
 have C1 := gCmpN (m + 1) x hx.nonneg
 have C2 := gCmpN (m - 1) x hx.nonneg
 obtain ⟨q0, q1⟩ := cmp_fl hf
 have q2 := cmp_fl_low hf
 rw [q1] at C1
 rw [q2] at C2
 have O0 := gOf (m : Rat)
 have O1 := gOf ((m + 1 : Int) : Rat)
 have O2 := gOf ((m - 1 : Int) : Rat)
 have N := gOne
 have e1 : ((m + 1 : Int) : Rat) = (m : Rat) + 1 := by rw [Rat.intCast_add]; rfl
 have e2 : ((m - 1 : Int) : Rat) = (m : Rat) - 1 := by rw [Rat.intCast_sub]; rfl
 have P1 := rAdd (m : Rat) 1 fz fz
 have P2 := rSub ((m + 1 : Int) : Rat) 1 fz fz
 have P3 := rAdd ((m - 1 : Int) : Rat) 1 fz fz
 rw [← e1] at P1
 rw [show ((m + 1 : Int) : Rat) - 1 = (m : Rat) by rw [e1]; grind] at P2
 rw [show ((m - 1 : Int) : Rat) + 1 = (m : Rat) by rw [e2]; grind] at P3
 have g0 : decide (Rl.cmp (Rl.rat (m : Rat)) x > 0) = false := decide_eq_false (by omega)
 have g1 : decide (Rl.cmp (Rl.rat (m : Rat)) x ≤ 0) = true := decide_eq_true q0
 have bI : (x.r.num * (x.r.den : Int)) = (x.r.num * (x.r.den : Int)) := rfl
 have hden : ((x.r.den : Int) = 1 ∧ dn x.r = 0) ∨ dn x.r = (x.r.den : Int) := by
  unfold dn
  split
  ·next e => exact .inl ⟨by rw [e]; rfl, rfl⟩
  ·exact .inr rfl
 have Bz : dn x.r = 0 → Bin .eql 23 (iV (dn x.r)) iZ (.bool true) := fun e => binI0 _ (by rw [e]; rfl)
 have Bn : dn x.r = (x.r.den : Int) → Bin .eql 23 (iV (dn x.r)) iZ (.bool false) := fun e => binI0 _ (by rw [e]; simp; omega)
 clear zt y0 y1 y2 hf b1 b2 z0 q0 q1 q2 h1 h2 hm s3 s4 m3 m5 hn hk hk1 sb e1 e2 ht bI
 generalize Rl.cmp (Rl.rat (m : Rat)) x = c0 at *
 generalize ((isq (x.r.num * (x.r.den : Int)).toNat : Nat) : Int) = s1 at *
 generalize x.r.num * (x.r.den : Int) = s2 at *
 generalize (x.r.den : Int) = D at *
 generalize Rl.rat (m : Rat) = r0 at *
 generalize Rl.rat ((m + 1 : Int) : Rat) = r1 at *
 generalize Rl.rat ((m - 1 : Int) : Rat) = r2 at *
 rcases fn with fn | fn | fn
 ·rw [← fn] at L
  clear fn
  generalize ((m + 1 : Int) : Rat) = u1 at *
  generalize ((m - 1 : Int) : Rat) = u2 at *
  generalize (m : Rat) = u0 at *
  generalize x.p + x.s * t = v1 at *
  generalize x.s * t = v2 at *
  generalize x.s = v3 at *
  generalize x.si = v4 at *
  generalize (1 : Rat) = one at *
  rcases hden with ⟨d1, d0⟩ | d0
  ·have B := Bz d0
   subst d1
   clear Bz Bn d0 d2 hx hp hr
   obtain ⟨p, r, neg⟩ := x
   dsimp only at *
   exact walk (code := Tryz.f46.body.getD .skip) [x2 B, c F, c M, c S, c K, c Sd, c W, c U, c A, c L, c O0, c C0, eb g0, c N, c P1, c O1, c C1] fol Tryz.func46 (by kernel_rfl) (fun xs w => Tryz.call46 xs w) (by kernel_rfl)
  ·have B := Bn d0
   subst d0
   clear Bz Bn d2 hx hp hr
   obtain ⟨p, r, neg⟩ := x
   dsimp only at *
   exact walk (code := Tryz.f46.body.getD .skip) [x2 B, c M, c S, c K, c Sd, c W, c U, c A, c L, c O0, c C0, eb g0, c N, c P1, c O1, c C1] fol Tryz.func46 (by kernel_rfl) (fun xs w => Tryz.call46 xs w) (by kernel_rfl)
 ·rw [show (x.p + x.s * t).floor = m - 1 by omega] at L
  clear fn
  generalize ((m + 1 : Int) : Rat) = u1 at *
  generalize ((m - 1 : Int) : Rat) = u2 at *
  generalize (m : Rat) = u0 at *
  generalize x.p + x.s * t = v1 at *
  generalize x.s * t = v2 at *
  generalize x.s = v3 at *
  generalize x.si = v4 at *
  generalize (1 : Rat) = one at *
  rcases hden with ⟨d1, d0⟩ | d0
  ·have B := Bz d0
   subst d1
   clear Bz Bn d0 d2 hx hp hr
   obtain ⟨p, r, neg⟩ := x
   dsimp only at *
   exact walk (code := Tryz.f46.body.getD .skip) [x2 B, c F, c M, c S, c K, c Sd, c W, c U, c A, c L, c O2, c C2, c N, c P3, c O0, c C0, eb g1, c N, c P3, c N, c P1, c O1, c C1] fol Tryz.func46 (by kernel_rfl) (fun xs w => Tryz.call46 xs w) (by kernel_rfl)
  ·have B := Bn d0
   subst d0
   clear Bz Bn d2 hx hp hr
   obtain ⟨p, r, neg⟩ := x
   dsimp only at *
   exact walk (code := Tryz.f46.body.getD .skip) [x2 B, c M, c S, c K, c Sd, c W, c U, c A, c L, c O2, c C2, c N, c P3, c O0, c C0, eb g1, c N, c P3, c N, c P1, c O1, c C1] fol Tryz.func46 (by kernel_rfl) (fun xs w => Tryz.call46 xs w) (by kernel_rfl)
 ·rw [show (x.p + x.s * t).floor = m + 1 by omega] at L
  clear fn
  generalize ((m + 1 : Int) : Rat) = u1 at *
  generalize ((m - 1 : Int) : Rat) = u2 at *
  generalize (m : Rat) = u0 at *
  generalize x.p + x.s * t = v1 at *
  generalize x.s * t = v2 at *
  generalize x.s = v3 at *
  generalize x.si = v4 at *
  generalize (1 : Rat) = one at *
  rcases hden with ⟨d1, d0⟩ | d0
  ·have B := Bz d0
   subst d1
   clear Bz Bn d0 d2 hx hp hr
   obtain ⟨p, r, neg⟩ := x
   dsimp only at *
   exact walk (code := Tryz.f46.body.getD .skip) [x2 B, c F, c M, c S, c K, c Sd, c W, c U, c A, c L, c O1, c C1, c N, c P2, c O0, c C0, eb g0, c N, c P1, c O1, c C1] fol Tryz.func46 (by kernel_rfl) (fun xs w => Tryz.call46 xs w) (by kernel_rfl)
  ·have B := Bn d0
   subst d0
   clear Bz Bn d2 hx hp hr
   obtain ⟨p, r, neg⟩ := x
   dsimp only at *
   exact walk (code := Tryz.f46.body.getD .skip) [x2 B, c M, c S, c K, c Sd, c W, c U, c A, c L, c O1, c C1, c N, c P2, c O0, c C0, eb g0, c N, c P1, c O1, c C1] fol Tryz.func46 (by kernel_rfl) (fun xs w => Tryz.call46 xs w) (by kernel_rfl)
theorem gCeil (x : Rl) (k : Nat) (hk : k ≤ 60) (hk1 : 1 ≤ k) (hx : x.Ok) [hp : HasSz x.p k] [hr : HasSz x.r k] : Sp Tryz.prog 48 [] [rlV x] (rV ((-fl x.ngR : Int) : Rat)) [] := by
 haveI z1 : HasSz x.ngR.p k := ⟨hp.sz.neg⟩
 haveI z2 : HasSz x.ngR.r k := hr
 have N := gNeg x hx
 have F := gFloor x.ngR k hk hk1 (Rl.ngR_ok hx)
 have M := rNeg ((fl x.ngR : Int) : Rat)
 rw [show -((fl x.ngR : Int) : Rat) = ((-fl x.ngR : Int) : Rat) by rw [Rat.intCast_neg]] at M
 clear z1 z2
 generalize ((-fl x.ngR : Int) : Rat) = t1 at *
 generalize ((fl x.ngR : Int) : Rat) = t2 at *
 generalize x.ngR = y at *
 exact walk (code := Tryz.f48.body.getD .skip) [c N, c F, c M] fol Tryz.func48 (by kernel_rfl) (fun xs w => Tryz.call48 xs w) (by kernel_rfl)
end Go.Proofs.YthdaimoankaciaaGreatDoor

end
section
/- The program's simplest fraction between two numbers with a root. -/
set_option linter.unusedSimpArgs false
set_option linter.unusedVariables false
namespace Go.Proofs.YthdaimoankaciaaGreatDoor
open Go Go.RowKit Go.Sy
open Vi
theorem qScaleB (x : Rl) (q : Rat) (k : Nat) (hk : k ≤ 40000) [HasSz x.p k] [HasSz x.r k] [HasSz q k] : Sp Tryz.prog 31 [] [rlV x, rV q] (rlV (x.scR q)) [] := by
 have A := pMul q q fz fz
 have B := pMul (q * q) x.r fz fz
 have C := pMul x.p q fz fz
 have D := pSgn q
 have e0 : decide (sgQ q < 0) = decide (q < 0) := by
  rcases sgQ_cases q with ⟨h1, h2⟩ | ⟨h1, h2⟩ | ⟨h1, h2⟩ <;> rw [h1]
  ·rw [decide_eq_true h2]; rfl
  ·rw [show decide (q < 0) = false from decide_eq_false (by grind)]; rfl
  ·rw [show decide (q < 0) = false from decide_eq_false (by grind)]; rfl
 obtain ⟨p, r, neg⟩ := x
 unfold Rl.scR
 dsimp only at *
 by_cases h : q * q * r = 0
 ·have E := binR0' (q * q * r) (b := false) (by simp [h])
  rw [decide_eq_true h]
  clear h
  generalize q * q * r = s at *
  generalize q * q = t at *
  generalize p * q = u at *
  generalize (neg != decide (q < 0)) = v at *
  exact walk (code := Tryz.f31.body.getD .skip) [c A, c B, c C, x2 E] fol Tryz.func31 (by kernel_rfl) (fun xs w => Tryz.call31 xs w) (by kernel_rfl)
 ·have E := binR0' (q * q * r) (b := true) (by simp [h])
  rw [decide_eq_false h]
  clear h
  generalize q * q * r = s at *
  generalize q * q = t at *
  generalize p * q = u at *
  generalize decide (q < 0) = d at *
  generalize sgQ q = z at *
  cases d <;> cases neg <;> exact walk (code := Tryz.f31.body.getD .skip) [c A, c B, c C, x2 E, c D, eb e0] fol Tryz.func31 (by kernel_rfl) (fun xs w => Tryz.call31 xs w) (by kernel_rfl)
theorem qInverseB (x : Rl) {i j : Nat} [HasSz x.p i] [HasSz x.r j] (hx : x.Ok) (h0 : x ≠ Rl.rat 0) (hs : i + j ≤ 4900 := by first | omega | decide) : Sp Tryz.prog 36 [] [rlV x] (.tuple #[rlV x.inv, nV 0]) [] := by
 have S := qSgnR x hx.nonneg
 have e0 := sgR_ne (val_ne0 hx h0)
 have I := pI 1 (by omega) (by omega)
 rw [show ((1 : Int) : Rat) = 1 from rfl] at I
 unfold Rl.inv
 by_cases h : x.r = 0
 ·rw [if_pos h]
  have hp : x.p ≠ 0 := fun e => val_ne0 hx h0 (by rw [val_rat0 h, e]; rfl)
  have Q := qQuot 1 x.p hp fz fz
  have F := qFromRat (1 / x.p)
  have B := binR0 x.r (b := true) (by simp [h])
  clear h h0 hp hx
  generalize Rl.rat (1 / x.p) = y at *
  generalize 1 / x.p = t at *
  generalize (1 : Rat) = one at *
  generalize sgR x.val = z at *
  obtain ⟨p, r, neg⟩ := x
  dsimp only at *
  exact walk (code := Tryz.f36.body.getD .skip) [c S, eb e0, x2 B, c I, c Q, c F] fol Tryz.func36 (by kernel_rfl) (fun xs w => Tryz.call36 xs w) (by kernel_rfl)
 ·rw [if_neg h]
  have hn := nm_ne hx h
  have B := binR0 x.r (b := false) (by simp [h])
  have M := pMul x.p x.p fz fz
  have U := pSub (x.p * x.p) x.r fz fz
  haveI z0 : HasSz x.nm (i + i + j + 1) := (inferInstance : HasSz (x.p * x.p - x.r) _)
  have Q := qQuot 1 x.nm hn fz fz
  haveI z1 : HasSz (1 / x.nm) (3 * (i + j) + 3) := hs_mono (hs_div 1 x.nm _ _ hn) (by omega)
  haveI z2 : HasSz x.cj.p (3 * (i + j) + 3) := hs_mono ‹HasSz x.p i› (by omega)
  haveI z3 : HasSz x.cj.r (3 * (i + j) + 3) := hs_mono ‹HasSz x.r j› (by omega)
  have C := qScaleB x.cj (1 / x.nm) (3 * (i + j) + 3) (by omega)
  rw [show x.p * x.p - x.r = x.nm from rfl] at U
  unfold Rl.cj at *
  clear h h0 hn hx z0 z1 z2 z3
  generalize 1 / x.nm = t at *
  generalize Rl.scR _ t = y at *
  generalize x.nm = n at *
  generalize x.p * x.p = t2 at *
  generalize (1 : Rat) = one at *
  generalize sgR x.val = z at *
  obtain ⟨p, r, neg⟩ := x
  dsimp only at *
  exact walk (code := Tryz.f36.body.getD .skip) [c S, eb e0, x2 B, c M, c U, c I, c Q, c C] fol Tryz.func36 (by kernel_rfl) (fun xs w => Tryz.call36 xs w) (by kernel_rfl)
theorem inv_eq {y : Rl} (hy : y.Ok) (h0 : y ≠ Rl.rat 0) : y.inv.val * y.val = 1 := inv_val hy h0
theorem ne_rat0 {y : Rl} (h : 0 < y.val) : y ≠ Rl.rat 0 := fun e => by
 rw [e, Rl.rat_val] at h
 exact RR.lt_irrefl _ h
theorem sgR_pos {v : RR} (h : 0 < v) : sgR v = 1 := RR.sg_pos h
theorem sg_nn {v : RR} (h : 0 ≤ v) : decide (sgR v < 0) = false := by
 rcases RR.sg_cases v with ⟨e, g⟩ | ⟨e, _⟩ | ⟨e, _⟩
 ·exact absurd g h
 ·rw [e]; rfl
 ·rw [e]; rfl
theorem int_szB {n : Int} {k : Nat} (h : n.natAbs < 256 ^ k) (hk : 1 ≤ k) : HasSz (n : Rat) k := ⟨by rw [Rat.num_intCast]; exact h, by rw [Rat.den_intCast]; exact Nat.one_lt_pow (by omega) (by decide)⟩
theorem mg_powB {n : Int} {k : Nat} (h : n.natAbs < 256 ^ k) : (mg n).size ≤ k := size_mag_le _ k h
theorem Jn.tsz {z1 z2 x y : Rl} {t0 t : Rat} {a b c d : Int} (h : Jn z1 z2 t0 x y t a b c d) (ht : 0 < t) {m : Nat} (hs : Sz m t0) : t.num.natAbs < 256 ^ m ∧ t.den < 256 ^ m := by
 have h1 := hs.1
 have h2 := hs.2
 have hn := num_pos_of t ht
 have hd : (0 : Int) < t.den := by have := t.den_nz; omega
 have e1 := h.num
 have e2 := h.den
 have a0 := h.a0
 have b0 := h.b0
 have c0 := h.c0
 have d0 := h.d0
 have m1 : 0 ≤ a * t.num := Int.mul_nonneg a0 (by omega)
 have m2 : 0 ≤ b * t.den := Int.mul_nonneg b0 (by omega)
 have m3 : 0 ≤ c * t.num := Int.mul_nonneg c0 (by omega)
 have m4 : 0 ≤ d * t.den := Int.mul_nonneg d0 (by omega)
 have det := h.det
 generalize 256 ^ m = M at *
 constructor
 ·rcases (by omega : a = 0 ∨ 1 ≤ a) with g | g
  ·rcases (by omega : c = 0 ∨ 1 ≤ c) with g2 | g2
   ·rw [g, g2] at det; simp at det
   ·have := Int.mul_le_mul_of_nonneg_right g2 (show 0 ≤ t.num by omega); omega
  ·have := Int.mul_le_mul_of_nonneg_right g (show 0 ≤ t.num by omega); omega
 ·rcases (by omega : b = 0 ∨ 1 ≤ b) with g | g
  ·rcases (by omega : d = 0 ∨ 1 ≤ d) with g2 | g2
   ·rw [g, g2] at det; simp at det
   ·have := Int.mul_le_mul_of_nonneg_right g2 (show 0 ≤ (t.den : Int) by omega); omega
  ·have := Int.mul_le_mul_of_nonneg_right g (show 0 ≤ (t.den : Int) by omega); omega
theorem Jn.sizeU {z1 z2 x y u : Rl} {t0 t : Rat} {a b c d n : Int} (h : Jn z1 z2 t0 x y t a b c d) (hn : 0 ≤ n) (ht : (n : Rat) < t) (hu : u.val * (y.val - RR.ofRat (n : Rat)) = 1) (ou : u.Ok) {e : Nat} (he : e ≤ 640) (hs : Sz e t0) (o1 : z1.Ok) (o2 : z2.Ok) [HasSz z1.p 8] [HasSz z1.r 8] [HasSz z2.p 8] [HasSz z2.r 8] :
    HasSz u.p 1307 ∧ HasSz u.r 2622 := by
 have hp : 0 < (t - (n : Rat))⁻¹ := (rinv (by grind)).1
 have main : ∀ z : Rl, z.Ok → HasSz z.p 8 → HasSz z.r 8 → Rm z y a b c d → HasSz u.p 1307 ∧ HasSz u.r 2622 := fun z oz s1 s2 r => by
  have J : Jn z z t0 y y t a b c d := ⟨.inl ⟨r, r⟩, h.det, h.a0, h.b0, h.c0, h.d0, h.num, h.den⟩
  have h := ((J.next hn ht hu hu).sizes hp hs oz oz ou ou).1
  exact ⟨hs_mono h.1 (by omega), hs_mono h.2 (by omega)⟩
 rcases h.rel with ⟨_, r⟩ | ⟨_, r⟩
 ·exact main z2 o2 inferInstance inferInstance r
 ·exact main z1 o1 inferInstance inferInstance r
theorem simp_main {z1 z2 : Rl} (o1 : z1.Ok) (o2 : z2.Ok) [HasSz z1.p 8] [HasSz z1.r 8] [HasSz z2.p 8] [HasSz z2.r 8] {t0 : Rat} {e : Nat} (he : e ≤ 640) (he1 : 1 ≤ e) (hs : Sz e t0) :
    ∀ (M : Nat) (x y : Rl) (t : Rat) (a b c d : Int), t.den ≤ M → x.Ok → y.Ok → Jn z1 z2 t0 x y t a b c d → 0 ≤ x.val → Btw x.val y.val t →
     ∃ r, 0 < r ∧ BestP (Btw x.val y.val) r ∧ HasSz r e ∧ Sp Tryz.prog 98 [] [rlV x, rlV y] (rV r) [] := by
 intro M
 induction M with
 | zero => intro x y t a b c d hM; have := t.den_nz; omega
 | succ M ih =>
  intro x y t a b c d hM ox oy hJ hx0 ht
  have hxy : x.val < y.val := RR.lt_trans ht.1 ht.2
  have hy0 : 0 < y.val := RR.lt_of_le_of_lt hx0 hxy
  have ht0 : 0 < t := RR.rat_lt.1 (RR.lt_of_le_of_lt hx0 ht.1)
  obtain ⟨⟨sx1, sx2⟩, sy1, sy2⟩ := hJ.sizes ht0 hs o1 o2 ox oy
  have sx1 : HasSz x.p 1307 := hs_mono sx1 (by omega)
  have sx2 : HasSz x.r 2622 := hs_mono sx2 (by omega)
  have sy1 : HasSz y.p 1307 := hs_mono sy1 (by omega)
  have sy2 : HasSz y.r 2622 := hs_mono sy2 (by omega)
  obtain ⟨tn, td⟩ := hJ.tsz ht0 hs
  have szr : ∀ r, BestP (Btw x.val y.val) r → HasSz r e := fun r hr => by
   have h := hr.2 t ht
   exact ⟨by omega, by omega⟩
  obtain ⟨n, hn⟩ : ∃ n, n = fl x := ⟨_, rfl⟩
  have fx := fl_is x ox
  rw [← hn] at fx
  have hn0 : 0 ≤ n := by
   have := RR.rat_lt.1 (RR.lt_of_le_of_lt hx0 fx.2)
   have h2 : (0 : Int) < n + 1 := by exact_mod_cast this
   omega
  have hnt : (n : Rat) < t := gt_floor fx.1 ht
  have hnz : n.natAbs < 256 ^ e := by
   have h1 := int_lt_num hnt
   have hd : 0 < t.den := Nat.pos_of_ne_zero t.den_nz
   have h2 : n * 1 ≤ n * t.den := Int.mul_le_mul_of_nonneg_left (by omega) hn0
   omega
  have zn : HasSz (n : Rat) 640 := hs_mono (int_szB hnz he1) he
  have mn : (mg n).size ≤ 640 := Nat.le_trans (mg_powB hnz) he
  have mn1 := mg_add n 1
  rw [mg_one] at mn1
  have zn1 : HasSz ((n + 1 : Int) : Rat) 2622 := by
   have e : ((n + 1 : Int) : Rat) = (n : Rat) + 1 := by rw [Rat.intCast_add]; rfl
   rw [e]
   exact hs_mono (⟨zn.sz.add (inferInstance : HasSz (1 : Rat) 1).sz⟩ : HasSz ((n : Rat) + 1) (640 + 1 + 1)) (by omega)
  have S1 := qSgnR x ox.nonneg
  have S2 := qSgnR y oy.nonneg
  rw [sgR_pos hy0] at S2
  have F := qFlr x ox.nonneg
  rw [← hn] at F
  have J := iFromInt 1 (by omega) (by omega)
  have A := iAdd n 1 (by omega) (by rw [mg_one]; omega)
  have W := qWhole (n + 1) (by omega)
  have C : Sp Tryz.prog 49 [] [rlV y, rV ((n + 1 : Int) : Rat)] (nV (Rl.cmp y (Rl.rat ((n + 1 : Int) : Rat)))) [] := by
   haveI : HasSz y.p 2622 := hs_mono sy1 (by omega)
   clear sy1
   exact qCompareRat y _ 2622 (by omega) (by omega) oy.nonneg
  have e1 := sg_nn hx0
  by_cases hc : RR.ofRat ((n + 1 : Int) : Rat) < y.val
  ·have hb := best_whole hn0 fx hc
   refine ⟨_, ?_, hb, szr _ hb, simpWhole x y _ n (n + 1) _ _ _ e1 (by decide) ?_ S1 S2 F J A W C⟩
   ·have : (0 : Int) < n + 1 := by omega
    exact_mod_cast this
   ·unfold Rl.cmp
    rw [Rl.rat_val, RR.sg_pos (RR.sub_pos.2 hc)]; rfl
  have hc2 : y.val ≤ RR.ofRat ((n + 1 : Int) : Rat) := RR.not_lt.1 hc
  have ec : decide (Rl.cmp y (Rl.rat ((n + 1 : Int) : Rat)) > 0) = false := by
   unfold Rl.cmp
   rw [Rl.rat_val]
   rcases RR.sg_cases (y.val - RR.ofRat ((n + 1 : Int) : Rat)) with ⟨e, _⟩ | ⟨e, _⟩ | ⟨_, g⟩
   ·rw [e]; rfl
   ·rw [e]; rfl
   ·exact absurd (RR.sub_pos.1 g) hc
  have W2 := qWhole n (by omega)
  have Ng := pNeg (n : Rat)
  haveI zl : HasSz (-(n : Rat)) 640 := ⟨zn.sz.neg⟩
  obtain ⟨x', hx'⟩ : ∃ x' : Rl, x' = ⟨x.p + -(n : Rat), x.r, x.neg⟩ := ⟨_, rfl⟩
  obtain ⟨y', hy'⟩ : ∃ y' : Rl, y' = ⟨y.p + -(n : Rat), y.r, y.neg⟩ := ⟨_, rfl⟩
  have H1 := qShift x (-(n : Rat)) fz fz
  have H2 := qShift y (-(n : Rat)) fz fz
  rw [← hx'] at H1
  rw [← hy'] at H2
  have vx : x'.val = x.val - RR.ofRat (n : Rat) := by
   rw [hx', Rl.shift_val]
   exact RR.ring [x.val, (n : Rat)] (by decide +kernel)
  have vy : y'.val = y.val - RR.ofRat (n : Rat) := by
   rw [hy', Rl.shift_val]
   exact RR.ring [y.val, (n : Rat)] (by decide +kernel)
  have ox' : x'.Ok := by rw [hx']; exact Rl.shift_ok ox _
  have oy' : y'.Ok := by rw [hy']; exact Rl.shift_ok oy _
  haveI s1 : HasSz x'.p 1948 := by rw [hx']; exact ⟨(sx1.sz.add zl.sz).mono (by omega)⟩
  haveI s2 : HasSz x'.r 2622 := by rw [hx']; exact sx2
  haveI s3 : HasSz y'.p 1948 := by rw [hy']; exact ⟨(sy1.sz.add zl.sz).mono (by omega)⟩
  haveI s4 : HasSz y'.r 2622 := by rw [hy']; exact sy2
  have py' : 0 < y'.val := by rw [vy]; exact RR.sub_pos.2 (RR.lt_of_le_of_lt fx.1 hxy)
  have V := qInverseB y' oy' (ne_rat0 py')
  have iy := inv_eq oy' (ne_rat0 py')
  rw [vy] at iy
  have ou := inv_ok oy'
  obtain ⟨u1, u2⟩ := hJ.sizeU hn0 hnt iy ou he hs o1 o2
  generalize y'.inv = u at *
  obtain ⟨m, hm⟩ : ∃ m, m = fl u := ⟨_, rfl⟩
  have fu := fl_is u ou
  rw [← hm] at fu
  have F2 := qFlr u ou.nonneg
  rw [← hm] at F2
  have mz : (mg m).size ≤ 20000 := by
   haveI : HasSz u.p 2622 := hs_mono u1 (by omega)
   clear u1
   have := fl_size u 2622
   rw [← hm] at this
   omega
  have pu : 0 < u.val := pos_of_mul (by rw [← vy]; exact py') iy
  have hm0 : 0 ≤ m := by
   have := RR.rat_lt.1 (RR.lt_trans pu fu.2)
   have h2 : (0 : Int) < m + 1 := by exact_mod_cast this
   omega
  have A2 := iAdd m 1 (by omega) (by rw [mg_one]; omega)
  have mm1 := mg_add m 1
  rw [mg_one] at mm1
  have W3 := qWhole (m + 1) (by omega)
  have I := pI 1 (by omega) (by omega)
  rw [show ((1 : Int) : Rat) = 1 from rfl] at I
  have S3 := qSgnR x' ox'.nonneg
  by_cases hz : x.val = RR.ofRat (n : Rat)
  ·have z0 : x'.val = 0 := by rw [vx, hz]; exact RR.ring [(n : Rat)] (by decide +kernel)
   rw [RR.sg_zero z0] at S3
   have hb := best_last hn0 hz hxy iy fu hm0
   have hp : (0 : Rat) < ((m + 1 : Int) : Rat) := by
    have : (0 : Int) < m + 1 := by omega
    exact_mod_cast this
   haveI zm : HasSz ((m + 1 : Int) : Rat) 20002 := int_hs' _ _ (by omega) (by omega)
   have Q := qQuot 1 ((m + 1 : Int) : Rat) (by grind) fz fz
   haveI := hs_div 1 ((m + 1 : Int) : Rat) _ _ (by grind)
   have U := pSub (1 / ((m + 1 : Int) : Rat)) (-(n : Rat)) fz fz
   have eq : 1 / ((m + 1 : Int) : Rat) - -(n : Rat) = (n : Rat) + ((m + 1 : Int) : Rat)⁻¹ := by rw [Rat.div_def]; grind
   refine ⟨_, ?_, hb, szr _ hb, eq1 (simpLast x y x' y' u _ _ _ _ _ _ _ n (n + 1) m (m + 1) _ _ _ e1 (by decide) ec S1 S2 F J A W C W2 Ng H1 H2 V I F2 A2 W3 S3 Q U) eq⟩
   have := (rinv hp).1
   have h2 : (0 : Rat) ≤ (n : Rat) := by exact_mod_cast hn0
   grind
  ·have hlt : RR.ofRat (n : Rat) < x.val := by
     rcases RR.lt_or_eq fx.1 with h | h
     ·exact h
     ·exact absurd h.symm hz
   have px' : 0 < x'.val := by rw [vx]; exact RR.sub_pos.2 hlt
   rw [sgR_pos px'] at S3
   have V2 := qInverseB x' ox' (ne_rat0 px')
   have ix := inv_eq ox' (ne_rat0 px')
   rw [vx] at ix
   have oa := inv_ok ox'
   generalize x'.inv = w at *
   have hp : 0 < t - (n : Rat) := (Rat.lt_iff_sub_pos _ _).1 hnt
   have hq : 0 < (t - (n : Rat))⁻¹ := (rinv hp).1
   have hb' : Btw u.val w.val (t - (n : Rat))⁻¹ := by
    rw [← btw_inv hlt hxy iy ix hq, back]; exact ht
   have hden : ((t - (n : Rat))⁻¹).den ≤ M := by
    have e2 := (inv_pos_parts _ hp).2
    have e3 := (sub_int n t).1
    rw [e2, e3]
    have h5 : t < ((n + 1 : Int) : Rat) := RR.rat_lt.1 (RR.lt_of_lt_of_le ht.2 hc2)
    have h6 := (Rat.lt_iff _ _).1 h5
    rw [Rat.num_intCast, Rat.den_intCast] at h6
    have h7 : (n + 1) * (t.den : Int) = n * t.den + t.den := by grind
    have h8 := int_lt_num hnt
    omega
   obtain ⟨s, s0, sb, ss, R⟩ := ih u w (t - (n : Rat))⁻¹ _ _ _ _ hden ou oa (hJ.next hn0 hnt iy ix) (RR.le_of_lt pu) hb'
   have hb := best_rec hn0 hlt hxy iy ix s0 sb
   have Q := qQuot 1 s (by grind) fz fz
   haveI := hs_div 1 s _ _ (by grind)
   have U := pSub (1 / s) (-(n : Rat)) fz fz
   have eq : 1 / s - -(n : Rat) = (n : Rat) + s⁻¹ := by rw [Rat.div_def]; grind
   refine ⟨_, ?_, hb, szr _ hb, eq1 (simpStep x y x' y' u w _ _ _ _ _ _ _ _ n (n + 1) m (m + 1) _ _ _ _ e1 (by decide) ec (by decide) S1 S2 F J A W C W2 Ng H1 H2 V I F2 A2 W3 S3 V2 R Q U) eq⟩
   have := (rinv s0).1
   have h2 : (0 : Rat) ≤ (n : Rat) := by exact_mod_cast hn0
   grind
end Go.Proofs.YthdaimoankaciaaGreatDoor

end
section
/- Chapter 3's laws about Floor, Compare, moves and Make. -/
set_option linter.unusedSimpArgs false
set_option linter.unusedVariables false
namespace Go.Proofs.YthdaimoankaciaaGreatDoor
open Go Go.RowKit Go.Sy
open Vi
abbrev Lim (s : ByteArray) : Prop := s.size ≤ 4611686018427387903
end Go.Proofs.YthdaimoankaciaaGreatDoor
set_option linter.unusedSimpArgs false
set_option linter.unusedVariables false
namespace Go.Proofs.YthdaimoankaciaaGreatDoor
open Go Go.RowKit Go.Sy
open Vi
theorem cmp_cases (x y : Rl) : (Rl.cmp x y = -1 ∧ x.val < y.val) ∨ (Rl.cmp x y = 0 ∧ x.val = y.val) ∨ (Rl.cmp x y = 1 ∧ y.val < x.val) := by
 unfold Rl.cmp
 rcases RR.sg_cases (x.val - y.val) with ⟨h, g⟩ | ⟨h, g⟩ | ⟨h, g⟩
 ·refine .inl ⟨h, RR.sub_pos.1 ?_⟩
  rw [RR.lt_zero, show -(x.val - y.val) = y.val - x.val from RR.ring [x.val, y.val] (by decide +kernel)] at g
  exact g
 ·exact .inr (.inl ⟨h, RR.ring1 [x.val, y.val] g 1 (by decide +kernel)⟩)
 ·exact .inr (.inr ⟨h, RR.sub_pos.1 g⟩)
end Go.Proofs.YthdaimoankaciaaGreatDoor
set_option linter.unusedSimpArgs false
set_option linter.unusedVariables false
namespace Go.Proofs.YthdaimoankaciaaGreatDoor
open Go Go.RowKit Go.Sy
open Vi
instance (q : Rat) (k : Nat) [h : HasSz q k] : HasSz (Rl.rat q).p k := h
end Go.Proofs.YthdaimoankaciaaGreatDoor
set_option linter.unusedSimpArgs false
set_option linter.unusedVariables false
namespace Go.Proofs.YthdaimoankaciaaGreatDoor
open Go Go.RowKit Go.Sy
open Vi
end Go.Proofs.YthdaimoankaciaaGreatDoor

end
section
/- The simplest fraction between any two numbers of bounded size; whether a fraction lies between two numbers. -/
set_option linter.unusedSimpArgs false
set_option linter.unusedVariables false
namespace Go.Proofs.YthdaimoankaciaaGreatDoor
open Go Go.RowKit Go.Sy
open Vi
theorem simpZero (x y : Rl) (s1 s2 : Int) (e1 : decide (s1 < 0) = true) (e2 : decide (s2 > 0) = true) (S1 : Sp Tryz.prog 51 [] [rlV x] (nV s1) []) (S2 : Sp Tryz.prog 51 [] [rlV y] (nV s2) []) : Sp Tryz.prog 98 [] [rlV x, rlV y] rZ [] := by
 obtain ⟨xp, xr, xn⟩ := x
 obtain ⟨yp, yr, yn⟩ := y
 exact walk (code := Tryz.f98.body.getD .skip) [c S1, eb e1, c S2, eb e2] fol Tryz.func98 (by kernel_rfl) (fun xs w => Tryz.call98 xs w) (by kernel_rfl)
theorem simpNeg (x y x' y' : Rl) (v q : Rat) (s1 s2 : Int) (b : Bool) (e0 : decide (s1 < 0) = b) (e1 : decide (s2 > 0) = false) (e2 : decide (s2 ≤ 0) = true) (S1 : Sp Tryz.prog 51 [] [rlV x] (nV s1) []) (S2 : Sp Tryz.prog 51 [] [rlV y] (nV s2) [])
    (N1 : Sp Tryz.prog 29 [] [rlV y] (rlV y') []) (N2 : Sp Tryz.prog 29 [] [rlV x] (rlV x') []) (R : Sp Tryz.prog 98 [] [rlV y', rlV x'] (rV q) []) (N3 : Sp Tryz.prog 81 [] [rV q] (rV v) []) : Sp Tryz.prog 98 [] [rlV x, rlV y] (rV v) [] := by
 obtain ⟨xp, xr, xn⟩ := x
 obtain ⟨yp, yr, yn⟩ := y
 obtain ⟨xp', xr', xn'⟩ := x'
 obtain ⟨yp', yr', yn'⟩ := y'
 cases b
 ·exact walk (code := Tryz.f98.body.getD .skip) [c S1, eb e0, c S2, eb e2, c N1, c N2, c R, c N3] fol Tryz.func98 (by kernel_rfl) (fun xs w => Tryz.call98 xs w) (by kernel_rfl)
 ·exact walk (code := Tryz.f98.body.getD .skip) [c S1, eb e0, c S2, eb e1, c S2, eb e2, c N1, c N2, c R, c N3] fol Tryz.func98 (by kernel_rfl) (fun xs w => Tryz.call98 xs w) (by kernel_rfl)
theorem qSimpAll (x y : Rl) (hx : x.Ok) (hy : y.Ok) [h1 : HasSz x.p 8] [h2 : HasSz x.r 8] [h3 : HasSz y.p 8] [h4 : HasSz y.r 8] (hlt : x.val < y.val) :
    ∃ r, BestP (Btw x.val y.val) r ∧ HasSz r 640 ∧ Sp Tryz.prog 98 [] [rlV x, rlV y] (rV r) [] := by
 have S1 := qSgnR x hx.nonneg
 have S2 := qSgnR y hy.nonneg
 have main : ∀ x y : Rl, x.Ok → y.Ok → HasSz x.p 8 → HasSz x.r 8 → HasSz y.p 8 → HasSz y.r 8 → x.val < y.val → 0 ≤ x.val → ∃ r, BestP (Btw x.val y.val) r ∧ HasSz r 640 ∧ Sp Tryz.prog 98 [] [rlV x, rlV y] (rV r) [] := by
  intro x y hx hy h1 h2 h3 h4 hlt h0
  obtain ⟨t, ht, hs⟩ := btw_ex hx hy hlt
  obtain ⟨e, he⟩ : ∃ e, e = 640 := ⟨_, rfl⟩
  rw [← he] at hs
  obtain ⟨r, _, hb, hz, R⟩ := simp_main hx hy (Nat.le_of_eq he) (by omega) hs.sz t.den x y t 1 0 0 1 (Nat.le_refl _) hx hy (Jn.start x y t) h0 ht
  rw [he] at hz
  exact ⟨r, hb, hz, R⟩
 rcases RR.sg_cases y.val with ⟨e2, g2⟩ | ⟨e2, g2⟩ | ⟨e2, g2⟩
 ·have hle : y.val ≤ 0 := RR.le_of_lt g2
  have n1 := Rl.ngR_val hy
  have n2 := Rl.ngR_val hx
  obtain ⟨q, hb, hz, R⟩ := main y.ngR x.ngR (Rl.ngR_ok hy) (Rl.ngR_ok hx) ⟨h3.sz.neg⟩ h4 ⟨h1.sz.neg⟩ h2 (by rw [n1, n2]; exact neg_lt_neg.2 hlt) (by rw [n1]; have := neg_le hle; rwa [show -(0 : RR) = 0 from RR.ring [] (by decide +kernel)] at this)
  rw [n1, n2] at hb
  rw [e2] at S2
  exact ⟨_, best_negR hb, ⟨hz.sz.neg⟩, simpNeg x y _ _ _ q _ _ _ rfl (by decide) (by decide) S1 S2 (qNeg y) (qNeg x) R (pNeg q)⟩
 ·have n1 := Rl.ngR_val hy
  have n2 := Rl.ngR_val hx
  obtain ⟨q, hb, hz, R⟩ := main y.ngR x.ngR (Rl.ngR_ok hy) (Rl.ngR_ok hx) ⟨h3.sz.neg⟩ h4 ⟨h1.sz.neg⟩ h2 (by rw [n1, n2]; exact neg_lt_neg.2 hlt) (by rw [n1, g2, show -(0 : RR) = 0 from RR.ring [] (by decide +kernel)]; exact RR.le_refl 0)
  rw [n1, n2] at hb
  rw [e2] at S2
  exact ⟨_, best_negR hb, ⟨hz.sz.neg⟩, simpNeg x y _ _ _ q _ _ _ rfl (by decide) (by decide) S1 S2 (qNeg y) (qNeg x) R (pNeg q)⟩
 ·rcases RR.sg_cases x.val with ⟨e1, g1⟩ | ⟨e1, g1⟩ | ⟨e1, g1⟩
  ·rw [e1] at S1
   rw [e2] at S2
   refine ⟨0, best_zeroR g1 g2, hs_mono (inferInstance : HasSz (0 : Rat) 1) (by omega), ?_⟩
   rw [rV0]
   exact simpZero x y _ _ (by decide) (by decide) S1 S2
  ·exact main x y hx hy h1 h2 h3 h4 hlt (by rw [g1]; exact RR.le_refl 0)
  ·exact main x y hx hy h1 h2 h3 h4 hlt (RR.le_of_lt g1)
theorem qBetweenNo (x y : Rl) (c : Int) (ec : decide (c ≥ 0) = true) (C : Sp Tryz.prog 26 [] [rlV x, rlV y] (nV c) []) : Sp Tryz.prog 39 [] [rlV x, rlV y] (.tuple #[rZ, nV 7]) [] := by
 obtain ⟨xp, xr, xn⟩ := x
 obtain ⟨yp, yr, yn⟩ := y
 exact walk (code := Tryz.f39.body.getD .skip) [Sy.c C, eb ec] fol Tryz.func39 (by kernel_rfl) (fun xs w => Tryz.call39 xs w) (by kernel_rfl)
noncomputable def inL (x y : Rl) (r : Rat) : Bool := decide (Rl.cmp x (Rl.rat r) < 0) && decide (Rl.cmp (Rl.rat r) y < 0)
theorem cmp_lss (x y : Rl) : decide (Rl.cmp x y < 0) = true ↔ x.val < y.val := by
 rcases cmp_cases x y with ⟨e, h⟩ | ⟨e, h⟩ | ⟨e, h⟩ <;> rw [e]
 ·exact ⟨fun _ => h, fun _ => by decide⟩
 ·exact ⟨fun k => absurd k (by decide), fun k => absurd (h ▸ k) (RR.lt_irrefl _)⟩
 ·exact ⟨fun k => absurd k (by decide), fun k => absurd (RR.lt_trans h k) (RR.lt_irrefl _)⟩
theorem inL_iff {x y : Rl} {r : Rat} : inL x y r = true ↔ Btw x.val y.val r := by
 unfold inL Btw
 rw [Bool.and_eq_true, cmp_lss, cmp_lss, Rl.rat_val]
theorem gInside (x y : Rl) (r : Rat) {i j k l m : Nat} [HasSz x.p i] [HasSz x.r j] [HasSz y.p k] [HasSz y.r l] [HasSz r m] (hx : 0 ≤ x.r) (hy : 0 ≤ y.r) (hs : i + j + k + l + m ≤ 990 := by first | omega | decide) : Sp Tryz.prog 42 [] [rV r, rlV x, rlV y] (.bool (inL x y r)) [] := by
 haveI : HasSz (Rl.rat r).p m := ‹HasSz r m›
 haveI : HasSz (Rl.rat r).r 1 := (inferInstance : HasSz (0 : Rat) 1)
 have h0 : 0 ≤ (Rl.rat r).r := Rat.le_refl
 have C1 := gCompare x (Rl.rat r) hx h0
 have C2 := gCompare (Rl.rat r) y h0 hy
 have O := gOf r
 unfold inL
 generalize hb : decide (Rl.cmp x (Rl.rat r) < 0) = b
 generalize hc : decide (Rl.cmp (Rl.rat r) y < 0) = c
 clear h0 hs
 generalize Rl.cmp x (Rl.rat r) = c1 at *
 generalize Rl.cmp (Rl.rat r) y = c2 at *
 generalize Rl.rat r = z at *
 obtain ⟨xp, xr, xn⟩ := x
 obtain ⟨yp, yr, yn⟩ := y
 cases b
 ·rw [Bool.false_and]
  clear hc
  exact walk (code := Tryz.f42.body.getD .skip) [Sy.c O, Sy.c C1, eb hb] fol Tryz.func42 (by kernel_rfl) (fun xs w => Tryz.call42 xs w) (by kernel_rfl)
 ·rw [Bool.true_and]
  cases c
  ·exact walk (code := Tryz.f42.body.getD .skip) [c O, c C1, eb hb, c O, c C2, eb hc] fol Tryz.func42 (by kernel_rfl) (fun xs w => Tryz.call42 xs w) (by kernel_rfl)
  ·exact walk (code := Tryz.f42.body.getD .skip) [c O, c C1, eb hb, c O, c C2, eb hc] fol Tryz.func42 (by kernel_rfl) (fun xs w => Tryz.call42 xs w) (by kernel_rfl)
end Go.Proofs.YthdaimoankaciaaGreatDoor

end
section
/- No program in sight: the search of the simplest fraction, denominator by denominator. -/
set_option linter.unusedSimpArgs false
set_option linter.unusedVariables false
namespace Go.Proofs.YthdaimoankaciaaGreatDoor
open Go Go.RowKit Go.Sy
open Vi
theorem div_nat (n : Int) (d : Nat) : (n : Rat) / ((d : Int) : Rat) = Rat.divInt n d := (Rat.divInt_eq_div ..).symm
def fs (w : Bool) (x : Rat) (s : Rat × Bool) : Rat × Bool := if w then (if s.2 = false ∨ x * x < s.1 * s.1 then (x, true) else s) else s
def Fnd (P : Rat → Prop) (l : List Rat) (s : Rat × Bool) : Prop := (s.2 = false ∧ ∀ x ∈ l, ¬ P x) ∨ (s.2 = true ∧ P s.1 ∧ s.1 ∈ l ∧ ∀ x ∈ l, P x → s.1 * s.1 ≤ x * x)
theorem Fnd.step {P : Rat → Prop} {l : List Rat} {s : Rat × Bool} (h : Fnd P l s) {w : Bool} {x : Rat} (hw : w = true ↔ P x) : Fnd P (l ++ [x]) (fs w x s) := by
 unfold fs
 cases w
 ·have hx : ¬ P x := fun h => by simpa using hw.2 h
  rw [if_neg (by simp)]
  rcases h with ⟨h1, h2⟩ | ⟨h1, h2, h3, h4⟩
  ·exact .inl ⟨h1, fun y hy => by rcases List.mem_append.1 hy with hy | hy; exact h2 y hy; rw [List.mem_singleton.1 hy]; exact hx⟩
  ·exact .inr ⟨h1, h2, List.mem_append_left _ h3, fun y hy hp => by
     rcases List.mem_append.1 hy with hy | hy
     ·exact h4 y hy hp
     ·rw [List.mem_singleton.1 hy] at hp; exact absurd hp hx⟩
 ·have hx : P x := hw.1 rfl
  rw [if_pos rfl]
  rcases h with ⟨h1, h2⟩ | ⟨h1, h2, h3, h4⟩
  ·rw [if_pos (.inl h1)]
   exact .inr ⟨rfl, hx, by simp, fun y hy hp => by
    rcases List.mem_append.1 hy with hy | hy
    ·exact absurd hp (h2 y hy)
    ·rw [List.mem_singleton.1 hy]; exact Rat.le_refl⟩
  ·by_cases hlt : x * x < s.1 * s.1
   ·rw [if_pos (.inr hlt)]
    exact .inr ⟨rfl, hx, by simp, fun y hy hp => by
     rcases List.mem_append.1 hy with hy | hy
     ·exact Rat.le_trans (Rat.le_of_lt hlt) (h4 y hy hp)
     ·rw [List.mem_singleton.1 hy]; exact Rat.le_refl⟩
   ·rw [if_neg (by rintro (h | h); rw [h1] at h; cases h; exact hlt h)]
    exact .inr ⟨h1, h2, List.mem_append_left _ h3, fun y hy hp => by
     rcases List.mem_append.1 hy with hy | hy
     ·exact h4 y hy hp
     ·rw [List.mem_singleton.1 hy]; exact Rat.not_lt.1 hlt⟩
end Go.Proofs.YthdaimoankaciaaGreatDoor

end
section
/- No program in sight: the search of the simplest fraction between two numbers, one denominator after the other. -/
set_option linter.unusedSimpArgs false
set_option linter.unusedVariables false
namespace Go.Proofs.YthdaimoankaciaaGreatDoor
open Go Go.RowKit Go.Sy
open Vi RR
theorem dpos {d : Nat} (hd : 0 < d) : (0 : Rat) < ((d : Int) : Rat) := by exact_mod_cast hd
theorem dv_mul (n : Int) {d : Nat} (hd : 0 < d) : ((d : Int) : Rat) * Rat.divInt n d = (n : Rat) := by
 rw [← div_nat, Rat.mul_comm]
 exact Rat.div_mul_cancel (by have := dpos hd; grind)
theorem lt_dv {X : RR} {n : Int} {d : Nat} (hd : 0 < d) : X < ofRat (Rat.divInt n d) ↔ ofRat ((d : Int) : Rat) * X < ofRat (n : Rat) := by
 rw [← mul_lt_iff (show (0 : RR) < ofRat ((d : Int) : Rat) from rat_lt.2 (dpos hd)), ← rat_mul, dv_mul n hd]
theorem dv_le {n m : Int} {d e : Nat} (hd : 0 < d) (he : 0 < e) (h : n * e ≤ m * d) : Rat.divInt n d ≤ Rat.divInt m e := by
 have h1 := dv_mul n hd
 have h2 := dv_mul m he
 have p1 := dpos hd
 have p2 := dpos he
 have h3 : (n : Rat) * ((e : Int) : Rat) ≤ (m : Rat) * ((d : Int) : Rat) := by
  rw [← Rat.intCast_mul, ← Rat.intCast_mul]
  exact Rat.intCast_le_intCast.2 h
 generalize Rat.divInt n d = u at *
 generalize Rat.divInt m e = v at *
 rw [← h1, ← h2] at h3
 refine Rat.not_lt.1 fun hlt => ?_
 have := Rat.mul_pos (Rat.mul_pos p1 p2) (show 0 < u - v by grind)
 grind
noncomputable def at1 (x : Rl) (d : Nat) : Rat := Rat.divInt (fl (x.scR ((d : Int) : Rat)) + 1) d
theorem at1_gt {x : Rl} (hx : x.Ok) {d : Nat} (hd : 0 < d) : x.val < ofRat (at1 x d) := by
 have f := (fl_is (x.scR ((d : Int) : Rat)) (Rl.scR_ok hx _)).2
 rw [Rl.scR_val hx] at f
 exact (lt_dv hd).2 f
theorem at1_le {x : Rl} (hx : x.Ok) {d : Nat} (hd : 0 < d) {k : Int} (h : x.val < ofRat (Rat.divInt k d)) : fl (x.scR ((d : Int) : Rat)) + 1 ≤ k := by
 have f := (fl_is (x.scR ((d : Int) : Rat)) (Rl.scR_ok hx _)).1
 rw [Rl.scR_val hx] at f
 have h2 := rat_lt.1 (lt_of_le_of_lt f ((lt_dv hd).1 h))
 have h3 : fl (x.scR ((d : Int) : Rat)) < k := Rat.intCast_lt_intCast.1 h2
 omega
theorem at1_in {x : Rl} {Y : RR} (hx : x.Ok) {d : Nat} (hd : 0 < d) {k : Int} (h : Btw x.val Y (Rat.divInt k d)) : Btw x.val Y (at1 x d) := by
 refine ⟨at1_gt hx hd, lt_of_le_of_lt (rat_le.2 (dv_le hd hd ?_)) h.2⟩
 exact Int.mul_le_mul_of_nonneg_right (at1_le hx hd h.1) (by omega)
theorem dv_self (r : Rat) : Rat.divInt r.num r.den = r := Rat.num_divInt_den r
theorem at1_none {x : Rl} {Y : RR} (hx : x.Ok) {d : Nat} (h : ¬ Btw x.val Y (at1 x d)) (hd : 0 < d) {r : Rat} (hr : Btw x.val Y r) : r.den ≠ d := by
 rintro rfl
 exact h (at1_in (k := r.num) hx hd (by rw [dv_self]; exact hr))
theorem at1_best {x : Rl} {Y : RR} (hx : x.Ok) {r : Rat} (hb : BestP (Btw x.val Y) r) (h0 : 0 ≤ x.val ∨ Y ≤ 0) {d : Nat} (hd : 2 ≤ d) (ht : Btw x.val Y (at1 x d)) (hn : d ≤ r.den) : at1 x d = r := by
 obtain ⟨n, hN⟩ : ∃ n, n = fl (x.scR ((d : Int) : Rat)) + 1 := ⟨_, rfl⟩
 have e : at1 x d = Rat.divInt n d := by rw [hN]; rfl
 have sm := divInt_small n d (by omega)
 rw [← e] at sm
 have b := hb.2 _ ht
 have hrd : r.den = d := by omega
 have had : (at1 x d).den = d := by omega
 have er : Rat.divInt r.num d = r := by rw [← hrd]; exact dv_self r
 have ea : (at1 x d).num = n := by
  have h1 := dv_self (at1 x d)
  rw [had, e] at h1
  have := (Rat.divInt_eq_divInt_iff (by omega) (by omega)).1 h1
  rw [← e] at this
  exact Int.eq_of_mul_eq_mul_right (by omega) this
 rw [ea] at b
 have hle : n ≤ r.num := by
  rw [hN]
  exact at1_le hx (by omega) (by rw [er]; exact hb.1.1)
 rcases h0 with h0 | h0
 ·have p1 : 0 < at1 x d := rat_lt.1 (lt_of_le_of_lt h0 ht.1)
  have p2 := num_pos_of _ p1
  rw [ea] at p2
  have : n = r.num := by omega
  rw [e, this, er]
 ·have p1 : r < 0 := rat_lt.1 (lt_of_lt_of_le hb.1.2 h0)
  have p2 := num_pos_of (-r) (by grind)
  rw [Rat.neg_num] at p2
  rcases (by omega : n = r.num ∨ n + 1 ≤ r.num) with h | h
  ·rw [e, h, er]
  ·exfalso
   obtain ⟨m, hm⟩ : ∃ m, d = m + 1 := ⟨d - 1, by omega⟩
   have hm0 : 0 < m := by omega
   obtain ⟨q, hq⟩ : ∃ q, q = n / (d : Int) := ⟨_, rfl⟩
   have q1 : q * d ≤ n := by rw [hq]; exact Int.ediv_mul_le n (by omega)
   have q2 : n < q * d + d := by
    have := Int.lt_ediv_add_one_mul_self n (show (0 : Int) < d by omega)
    rw [hq]; grind
   have s1 : Rat.divInt n d ≤ Rat.divInt (n - q) m := by
    refine dv_le (by omega) hm0 ?_
    have : (d : Int) = m + 1 := by omega
    rw [this] at q1 ⊢
    grind
   have s2 : Rat.divInt (n - q) m ≤ Rat.divInt r.num d := by
    refine Rat.le_trans (dv_le (m := n + 1) (e := d) hm0 (by omega) ?_) (dv_le (by omega) (by omega) (Int.mul_le_mul_of_nonneg_right h (by omega)))
    have : (d : Int) = m + 1 := by omega
    rw [this] at q2 ⊢
    grind
   have hs : Btw x.val Y (Rat.divInt (n - q) m) := ⟨lt_of_lt_of_le ht.1 (rat_le.2 (by rw [e]; exact s1)), lt_of_le_of_lt (rat_le.2 (by rw [er] at s2; exact s2)) hb.1.2⟩
   have := (hb.2 _ hs).1
   have := (divInt_small (n - q) m (by omega)).1
   omega
theorem whole_up {x : Rl} {Y : RR} (hx : x.Ok) {k : Int} (h : Btw x.val Y (k : Rat)) : fl x + 1 ≤ k := by
 have := rat_lt.1 (lt_of_le_of_lt (fl_is x hx).1 h.1)
 have : fl x < k := Rat.intCast_lt_intCast.1 this
 omega
theorem whole_upIn {x : Rl} {Y : RR} (hx : x.Ok) {k : Int} (h : Btw x.val Y (k : Rat)) : Btw x.val Y ((fl x + 1 : Int) : Rat) :=
 ⟨(fl_is x hx).2, lt_of_le_of_lt (rat_le.2 (Rat.intCast_le_intCast.2 (whole_up hx h))) h.2⟩
theorem ceil_is {y : Rl} (hy : y.Ok) : ofRat ((-fl y.ngR - 1 : Int) : Rat) < y.val ∧ ∀ k : Int, ofRat (k : Rat) < y.val → k ≤ -fl y.ngR - 1 := by
 have f := fl_is y.ngR (Rl.ngR_ok hy)
 rw [Rl.ngR_val hy] at f
 obtain ⟨f1, f2⟩ := f
 refine ⟨?_, fun k hk => ?_⟩
 ·refine lt_of_pos (ofRat ((fl y.ngR + 1 : Int) : Rat) - -y.val) (sub_pos.2 f2) ?_
  have : ((-fl y.ngR - 1 : Int) : Rat) = -((fl y.ngR + 1 : Int) : Rat) := by rw [← Rat.intCast_neg]; congr 1; omega
  rw [this, rat_neg]
  generalize ((fl y.ngR + 1 : Int) : Rat) = m
  exact ring [m, y.val] (by decide +kernel)
 ·have h2 : ofRat ((fl y.ngR : Int) : Rat) < ofRat ((-k : Int) : Rat) := by
    refine lt_of_le_of_lt f1 ?_
    rw [Rat.intCast_neg, rat_neg]
    exact neg_lt_neg.2 hk
  have := Rat.intCast_lt_intCast.1 (rat_lt.1 h2)
  omega
theorem whole_dn {y : Rl} {X : RR} (hy : y.Ok) {k : Int} (h : Btw X y.val (k : Rat)) : k ≤ -fl y.ngR - 1 := (ceil_is hy).2 k h.2
theorem whole_dnIn {y : Rl} {X : RR} (hy : y.Ok) {k : Int} (h : Btw X y.val (k : Rat)) : Btw X y.val ((-fl y.ngR - 1 : Int) : Rat) :=
 ⟨lt_of_lt_of_le h.1 (rat_le.2 (Rat.intCast_le_intCast.2 (whole_dn hy h))), (ceil_is hy).1⟩
theorem best_int {X Y : RR} {r : Rat} (hb : BestP (Btw X Y) r) {k : Int} (hk : Btw X Y (k : Rat)) : r = (r.num : Rat) ∧ r.num.natAbs ≤ k.natAbs := by
 have h := hb.2 _ hk
 rw [Rat.den_intCast, Rat.num_intCast] at h
 have := r.den_nz
 have h2 : r.den = 1 := by omega
 refine ⟨?_, h.2⟩
 have := rat_mul_den r
 rw [h2] at this
 grind
theorem best_up {x : Rl} {Y : RR} (hx : x.Ok) (h0 : 0 ≤ x.val) {r : Rat} (hb : BestP (Btw x.val Y) r) (h : Btw x.val Y ((fl x + 1 : Int) : Rat)) : ((fl x + 1 : Int) : Rat) = r := by
 obtain ⟨e, hn⟩ := best_int hb h
 have h1 := hb.1
 rw [e] at h1
 have := whole_up hx h1
 have p : (0 : Rat) < ((fl x + 1 : Int) : Rat) := rat_lt.1 (lt_of_le_of_lt h0 h.1)
 have p2 : (0 : Int) < fl x + 1 := Rat.intCast_lt_intCast.1 p
 rw [e]
 congr 1
 omega
theorem best_down {y : Rl} {X : RR} (hy : y.Ok) (h0 : y.val ≤ 0) {r : Rat} (hb : BestP (Btw X y.val) r) (h : Btw X y.val ((-fl y.ngR - 1 : Int) : Rat)) : ((-fl y.ngR - 1 : Int) : Rat) = r := by
 obtain ⟨e, hn⟩ := best_int hb h
 have h1 := hb.1
 rw [e] at h1
 have := whole_dn hy h1
 have p : ((-fl y.ngR - 1 : Int) : Rat) < ((0 : Int) : Rat) := rat_lt.1 (lt_of_lt_of_le h.2 h0)
 have p2 : -fl y.ngR - 1 < (0 : Int) := Rat.intCast_lt_intCast.1 p
 rw [e]
 congr 1
 omega
end Go.Proofs.YthdaimoankaciaaGreatDoor

end
section
/- The reference's search of the simplest fraction between two numbers. -/
set_option linter.unusedSimpArgs false
set_option linter.unusedVariables false
namespace Go.Proofs.YthdaimoankaciaaGreatDoor
open Go Go.RowKit Go.Sy
open Vi
def stB (x y : Rl) (r : Rat) (d : Nat) : St := ⟨55, 0, [(2, nV 200), (3, ptr 0 0), (4, ptr 1 0), (6, ptr 2 0), (7, .bool false), (8, nV d)], junk, [(0, blk 27 (rlC x)), (1, blk 27 (rlC y)), (2, blk 25 (rC r))], 3⟩
def stBr (q : Rat) : St := ⟨55, 0, [(6, ptr 2 0), (7, .bool true)], junk, [(2, blk 25 (rC q))], 3⟩
structure RoundB (x y sx : Rl) (d : Nat) (D n n1 q : Rat) (b : Bool) : Prop where
 wh : Sp Tryz.prog 66 [] [nV d] (rV D) []
 sc : Sp Tryz.prog 34 [] [rlV x, rV D] (rlV sx) []
 fl : Sp Tryz.prog 46 [] [rlV sx] (rV n) []
 one : Sp Tryz.prog 90 [] [] (rV 1) []
 add : Sp Tryz.prog 91 [] [rV n, rV 1] (rV n1) []
 dv : Sp Tryz.prog 87 [] [rV n1, rV D] (rV q) []
 ins : Sp Tryz.prog 42 [] [rV q, rlV x, rlV y] (.bool b) []
theorem d_hs (d : Nat) (hd : d ≤ 200) : HasSz ((d : Int) : Rat) 1 := ⟨by rw [Rat.num_intCast, Int.natAbs_natCast]; omega, by rw [Rat.den_intCast]; decide⟩
theorem roundB (x y : Rl) (hx : x.Ok) (hy : y.Ok) [h1 : HasSz x.p 8] [h2 : HasSz x.r 8] [h3 : HasSz y.p 8] [h4 : HasSz y.r 8] (d : Nat) (hd : 0 < d) (h6 : d ≤ 200) :
    ∃ (sx : Rl) (D n n1 : Rat), RoundB x y sx d D n n1 (at1 x d) (inL x y (at1 x d)) := by
 haveI zd := d_hs d h6
 have j1 : HasSz (x.scR ((d : Int) : Rat)).p 10 := hs_mono (inferInstance : HasSz (x.p * ((d : Int) : Rat)) (8 + 1)) (by omega)
 have j2 : HasSz (x.scR ((d : Int) : Rat)).r 10 := (inferInstance : HasSz (((d : Int) : Rat) * ((d : Int) : Rat) * x.r) (1 + 1 + 8))
 have z0 := fl_size (x.scR ((d : Int) : Rat)) 10
 have ok := Rl.scR_ok hx ((d : Int) : Rat)
 have hD : ((d : Int) : Rat) ≠ 0 := by have := dpos hd; grind
 obtain ⟨m, hm⟩ : ∃ m, m = fl (x.scR ((d : Int) : Rat)) := ⟨_, rfl⟩
 have F := gFloor (x.scR ((d : Int) : Rat)) 10 (by omega) (by omega) ok
 have ea : at1 x d = ((m + 1 : Int) : Rat) / ((d : Int) : Rat) := by rw [hm, div_nat]; rfl
 rw [← hm] at z0 F
 have e1 : ((m + 1 : Int) : Rat) = (m : Rat) + 1 := by rw [Rat.intCast_add]; rfl
 have b1 := mg_add m 1
 rw [mg_one] at b1
 haveI y0 : HasSz (m : Rat) 66 := int_hs' m _ (by omega) (by omega)
 haveI y1 : HasSz ((m + 1 : Int) : Rat) 66 := int_hs' _ _ (by omega) (by omega)
 haveI y2 := hs_div ((m + 1 : Int) : Rat) ((d : Int) : Rat) _ _ hD
 have A := rAdd (m : Rat) 1 fz fz
 rw [← e1] at A
 rw [ea]
 exact ⟨_, _, _, _, gWhole d (by omega) (by omega), gScale x ((d : Int) : Rat) hx, F, gOne, A, rDiv _ _ hD fz fz, gInside x y _ hx.nonneg hy.nonneg⟩
theorem b_round (x y sx : Rl) (r D n n1 q : Rat) (d : Nat) (h6 : d ≤ 200) (C : RoundB x y sx d D n n1 q false) : CodeOk Tryz.prog (nthLoop 0 (Tryz.f44.body.getD .skip)) (stB x y r d) .normal (stB x y q (d + 1)) := by
 obtain ⟨wh, sc, fl, one, add, dv, ins⟩ := C
 have c1 : decide ((d : Int) ≤ 200) = true := decide_eq_true (by omega)
 have wr : IntKind.i64.wrap ((d : Int) + 1) = ((d + 1 : Nat) : Int) := by rw [w64 (by omega) (by omega)]; omega
 clear h6
 unfold stB rC rlC
 generalize (1 : Rat) = one' at *
 obtain ⟨xp, xr, xn⟩ := x
 obtain ⟨yp, yr, yn⟩ := y
 obtain ⟨sp, sr, sn⟩ := sx
 dsimp only at *
 exact piece [(0, 0), (1, 1), (2, 2)] [eb c1, c wh, c sc, c fl, c one, c add, c wh, c dv, c ins, Go.Sy.e (congrArg (Value.int IntKind.i64) wr)] fol (by kernel_rfl)
theorem b_last (x y sx : Rl) (r D n n1 q : Rat) (d : Nat) (h6 : d ≤ 200) (C : RoundB x y sx d D n n1 q true) : CodeOk Tryz.prog (nthLoop 0 (Tryz.f44.body.getD .skip)) (stB x y r d) .ret (stBr q) := by
 obtain ⟨wh, sc, fl, one, add, dv, ins⟩ := C
 have c1 : decide ((d : Int) ≤ 200) = true := decide_eq_true (by omega)
 clear h6
 unfold stB stBr rC rlC
 generalize (1 : Rat) = one' at *
 obtain ⟨xp, xr, xn⟩ := x
 obtain ⟨yp, yr, yn⟩ := y
 obtain ⟨sp, sr, sn⟩ := sx
 dsimp only at *
 exact piece [(2, 2)] [eb c1, c wh, c sc, c fl, c one, c add, c wh, c dv, c ins] fol (by kernel_rfl)
theorem b_end (x y : Rl) (r : Rat) : CodeOk Tryz.prog (nthLoop 0 (Tryz.f44.body.getD .skip)) (stB x y r 201) (.exit 1) (stB x y r 201) := by
 have c1 : decide (((201 : Nat) : Int) ≤ 200) = false := by decide
 unfold stB rC rlC
 exact piece [(0, 0), (1, 1), (2, 2)] [] fol (by kernel_rfl)
theorem b_loop (x y : Rl) (hx : x.Ok) (hy : y.Ok) [h1 : HasSz x.p 8] [h2 : HasSz x.r 8] [h3 : HasSz y.p 8] [h4 : HasSz y.r 8] (q : Rat) (hb : BestP (Btw x.val y.val) q) (h0 : 0 ≤ x.val ∨ y.val ≤ 0) :
    ∀ (m d : Nat) (r : Rat), 2 ≤ d → d + m = 201 → d ≤ q.den →
     RoundsOk Tryz.prog (nthLoop 0 (Tryz.f44.body.getD .skip)) (stB x y r d) .ret (stBr q) ∨ ∃ r', RoundsOk Tryz.prog (nthLoop 0 (Tryz.f44.body.getD .skip)) (stB x y r d) (.exit 1) (stB x y r' 201) := by
 intro m
 induction m with
 | zero =>
  intro d r hd hm _
  obtain rfl : d = 201 := by omega
  exact .inr ⟨r, .out (by simp) (b_end x y r)⟩
 | succ m ih =>
  intro d r hd hm hq
  obtain ⟨sx, D, n, n1, C⟩ := roundB x y hx hy d (by omega) (by omega)
  by_cases h : Btw x.val y.val (at1 x d)
  ·have e := at1_best hx hb h0 hd h hq
   rw [inL_iff.2 h, e] at C
   exact .inl (.out (by simp) (b_last x y sx r D n n1 q d (by omega) C))
  ·have e : inL x y (at1 x d) = false := by
     have := mt inL_iff.1 h
     simpa using this
   rw [e] at C
   have hne := at1_none hx h (by omega) hb.1
   have R := b_round x y sx r D n n1 (at1 x d) d (by omega) C
   rcases ih (d + 1) (at1 x d) (by omega) (by omega) (by omega) with g | ⟨r', g⟩
   ·exact .inl (.more R g)
   ·exact .inr ⟨r', .more R g⟩
end Go.Proofs.YthdaimoankaciaaGreatDoor

end
section
/- The reference's simplest fraction between two numbers; chapter 3's law about Between. -/
set_option linter.unusedSimpArgs false
set_option linter.unusedVariables false
namespace Go.Proofs.YthdaimoankaciaaGreatDoor
open Go Go.RowKit Go.Sy
open Vi
theorem gBetween (x y : Rl) (hx : x.Ok) (hy : y.Ok) [h1 : HasSz x.p 8] [h2 : HasSz x.r 8] [h3 : HasSz y.p 8] [h4 : HasSz y.r 8] (q : Rat) (hb : BestP (Btw x.val y.val) q) :
    ∃ r ok, Sp Tryz.prog 44 [] [rlV x, rlV y, nV 200] (.tuple #[rV r, .bool ok]) [] ∧ (ok = true → r = q) := by
 have Z := gZero
 have I0 := gInside x y 0 hx.nonneg hy.nonneg
 have S := gSign x hx.nonneg
 have O := gOne
 have z0 := fl_size x 8
 have z1 := fl_size y.ngR 8 (hp := ⟨h3.sz.neg⟩) (hr := h4)
 have F := gFloor x 8 (by omega) (by omega) hx
 have C := gCeil y 8 (by omega) (by omega) hy
 have b1 := mg_add (fl x) 1
 have b2 := mg_sub (-fl y.ngR) 1
 rw [mg_one] at b1 b2
 rw [mg_neg] at b2
 have e1 : ((fl x + 1 : Int) : Rat) = ((fl x : Int) : Rat) + 1 := by rw [Rat.intCast_add]; rfl
 have e2 : ((-fl y.ngR - 1 : Int) : Rat) = ((-fl y.ngR : Int) : Rat) - 1 := by rw [Rat.intCast_sub]; rfl
 haveI y1 : HasSz ((fl x : Int) : Rat) 60 := int_hs' _ _ (by omega) (by omega)
 haveI y2 : HasSz ((-fl y.ngR : Int) : Rat) 60 := int_hs' _ _ (by rw [mg_neg]; omega) (by omega)
 haveI y3 : HasSz ((fl x + 1 : Int) : Rat) 60 := int_hs' _ _ (by omega) (by omega)
 haveI y4 : HasSz ((-fl y.ngR - 1 : Int) : Rat) 60 := int_hs' _ _ (by omega) (by omega)
 have A := rAdd ((fl x : Int) : Rat) 1 fz fz
 have B := rSub ((-fl y.ngR : Int) : Rat) 1 fz fz
 rw [← e1] at A
 rw [← e2] at B
 have I1 := gInside x y ((fl x + 1 : Int) : Rat) hx.nonneg hy.nonneg
 have I2 := gInside x y ((-fl y.ngR - 1 : Int) : Rat) hx.nonneg hy.nonneg
 by_cases hz : Btw x.val y.val 0
 ·rw [inL_iff.2 hz] at I0
  have hq := (hb.2 0 hz).2
  rw [show (0 : Rat).num.natAbs = 0 from rfl] at hq
  have hq0 : (0 : Rat) = q := (Rat.num_eq_zero.1 (by omega)).symm
  refine ⟨0, true, ?_, fun _ => hq0⟩
  clear hz hq hq0 hb y1 y2 y3 y4 e1 e2 A B I1 I2 F C O S b1 b2 z0 z1 hx hy h1 h2 h3 h4
  generalize (0 : Rat) = zr at *
  obtain ⟨xp, xr, xn⟩ := x
  obtain ⟨yp, yr, yn⟩ := y
  exact walk (code := Tryz.f44.body.getD .skip) [c Z, c I0, c Z] fol Tryz.func44 (by kernel_rfl) (fun xs w => Tryz.call44 xs w) (by kernel_rfl)
 have hsg : 0 ≤ x.val ∨ y.val ≤ 0 := by
  rcases RR.le_total 0 x.val with h | h
  ·exact .inl h
  ·rcases RR.le_total y.val 0 with g | g
   ·exact .inr g
   ·rcases RR.lt_or_eq h with h | h
    ·rcases RR.lt_or_eq g with g | g
     ·exact absurd ⟨h, g⟩ hz
     ·exact .inr (by rw [← g]; exact RR.le_refl 0)
    ·exact .inl (by rw [h]; exact RR.le_refl 0)
 have n0 : inL x y 0 = false := by
  have := mt inL_iff.1 hz
  simpa using this
 rw [n0] at I0
 have two : ∀ k : Int, ¬ Btw x.val y.val (k : Rat) → (∀ j : Int, Btw x.val y.val (j : Rat) → Btw x.val y.val (k : Rat)) → 2 ≤ q.den := fun k hk hj => by
  have hd := q.den_nz
  rcases (by omega : q.den = 1 ∨ 2 ≤ q.den) with h | h
  ·exfalso
   refine hk (hj q.num ?_)
   have := rat_mul_den q
   rw [h] at this
   rw [← this, show q * ((1 : Nat) : Rat) = q by grind]
   exact hb.1
  ·exact h
 have key := b_loop x y hx hy q hb hsg
 by_cases hs : decide (sgR x.val < 0) = true
 ·have hxn : x.val < 0 := by
    rcases RR.sg_cases x.val with ⟨_, g⟩ | ⟨e, _⟩ | ⟨e, _⟩
    ·exact g
    ·rw [e] at hs; cases hs
    ·rw [e] at hs; cases hs
  have hy0 : y.val ≤ 0 := by
   rcases hsg with h | h
   ·exact absurd hxn h
   ·exact h
  by_cases hi : Btw x.val y.val ((-fl y.ngR - 1 : Int) : Rat)
  ·rw [inL_iff.2 hi] at I2
   refine ⟨_, true, ?_, fun _ => best_down hy hy0 hb hi⟩
   clear hz hb y1 y2 y3 y4 e1 e2 A I1 F b1 b2 z0 z1 hi hsg n0 two key hxn hy0 h1 h2 h3 h4 hx hy
   generalize ((-fl y.ngR - 1 : Int) : Rat) = u1 at *
   generalize ((-fl y.ngR : Int) : Rat) = u2 at *
   generalize sgR x.val = s at *
   generalize (0 : Rat) = zr at *
   generalize (1 : Rat) = one at *
   obtain ⟨xp, xr, xn⟩ := x
   obtain ⟨yp, yr, yn⟩ := y
   exact walk (code := Tryz.f44.body.getD .skip) [c Z, c I0, c S, eb hs, c C, c O, c B, c I2] fol Tryz.func44 (by kernel_rfl) (fun xs w => Tryz.call44 xs w) (by kernel_rfl)
  ·have e : inL x y ((-fl y.ngR - 1 : Int) : Rat) = false := by
     have := mt inL_iff.1 hi
     simpa using this
   rw [e] at I2
   have h2' := two _ hi (fun j hj => whole_dnIn hy hj)
   rcases key 199 2 ((-fl y.ngR - 1 : Int) : Rat) (by omega) (by omega) h2' with hl | ⟨r', hl⟩
   ·refine ⟨q, true, ?_, fun _ => rfl⟩
    have hl := hl.loop
    unfold stB stBr rlC rC at hl
    clear hz hb y1 y2 y3 y4 e1 e2 A I1 F b1 b2 z0 z1 hi hsg n0 two key hxn hy0 h1 h2 h3 h4 hx hy e h2'
    generalize ((-fl y.ngR - 1 : Int) : Rat) = u1 at *
    generalize ((-fl y.ngR : Int) : Rat) = u2 at *
    generalize sgR x.val = s at *
    generalize (0 : Rat) = zr at *
    generalize (1 : Rat) = one at *
    obtain ⟨xp, xr, xn⟩ := x
    obtain ⟨yp, yr, yn⟩ := y
    dsimp only at *
    exact walk (code := Tryz.f44.body.getD .skip) [c Z, c I0, c S, eb hs, c C, c O, c B, c I2, lp [(0, 0), (1, 1), (2, 2)] hl] fol Tryz.func44 (by kernel_rfl) (fun xs w => Tryz.call44 xs w) (by kernel_rfl)
   ·refine ⟨0, false, ?_, fun h => by cases h⟩
    have hl := hl.loop
    unfold stB rlC rC at hl
    clear hz hb y1 y2 y3 y4 e1 e2 A I1 F b1 b2 z0 z1 hi hsg n0 two key hxn hy0 h1 h2 h3 h4 hx hy e h2'
    generalize ((-fl y.ngR - 1 : Int) : Rat) = u1 at *
    generalize ((-fl y.ngR : Int) : Rat) = u2 at *
    generalize sgR x.val = s at *
    generalize (0 : Rat) = zr at *
    generalize (1 : Rat) = one at *
    obtain ⟨xp, xr, xn⟩ := x
    obtain ⟨yp, yr, yn⟩ := y
    dsimp only at *
    exact walk (code := Tryz.f44.body.getD .skip) [c Z, c I0, c S, eb hs, c C, c O, c B, c I2, lp [(0, 0), (1, 1), (2, 2)] hl, c Z] fol Tryz.func44 (by kernel_rfl) (fun xs w => Tryz.call44 xs w) (by kernel_rfl)
 ·have hs : decide (sgR x.val < 0) = false := by simpa using hs
  have hx0 : 0 ≤ x.val := by
   rcases RR.sg_cases x.val with ⟨e, _⟩ | ⟨_, g⟩ | ⟨_, g⟩
   ·rw [e] at hs; cases hs
   ·rw [g]; exact RR.le_refl 0
   ·exact RR.le_of_lt g
  by_cases hi : Btw x.val y.val ((fl x + 1 : Int) : Rat)
  ·rw [inL_iff.2 hi] at I1
   refine ⟨_, true, ?_, fun _ => best_up hx hx0 hb hi⟩
   clear hz hb y1 y2 y3 y4 e1 e2 B I2 C b1 b2 z0 z1 hi hsg n0 two key hx0 h1 h2 h3 h4 hx hy
   generalize ((fl x + 1 : Int) : Rat) = u1 at *
   generalize ((fl x : Int) : Rat) = u2 at *
   generalize sgR x.val = s at *
   generalize (0 : Rat) = zr at *
   generalize (1 : Rat) = one at *
   obtain ⟨xp, xr, xn⟩ := x
   obtain ⟨yp, yr, yn⟩ := y
   exact walk (code := Tryz.f44.body.getD .skip) [c Z, c I0, c S, eb hs, c F, c O, c A, c I1] fol Tryz.func44 (by kernel_rfl) (fun xs w => Tryz.call44 xs w) (by kernel_rfl)
  ·have e : inL x y ((fl x + 1 : Int) : Rat) = false := by
     have := mt inL_iff.1 hi
     simpa using this
   rw [e] at I1
   have h2' := two _ hi (fun j hj => whole_upIn hx hj)
   rcases key 199 2 ((fl x + 1 : Int) : Rat) (by omega) (by omega) h2' with hl | ⟨r', hl⟩
   ·refine ⟨q, true, ?_, fun _ => rfl⟩
    have hl := hl.loop
    unfold stB stBr rlC rC at hl
    clear hz hb y1 y2 y3 y4 e1 e2 B I2 C b1 b2 z0 z1 hi hsg n0 two key hx0 h1 h2 h3 h4 hx hy e h2'
    generalize ((fl x + 1 : Int) : Rat) = u1 at *
    generalize ((fl x : Int) : Rat) = u2 at *
    generalize sgR x.val = s at *
    generalize (0 : Rat) = zr at *
    generalize (1 : Rat) = one at *
    obtain ⟨xp, xr, xn⟩ := x
    obtain ⟨yp, yr, yn⟩ := y
    dsimp only at *
    exact walk (code := Tryz.f44.body.getD .skip) [c Z, c I0, c S, eb hs, c F, c O, c A, c I1, lp [(0, 0), (1, 1), (2, 2)] hl] fol Tryz.func44 (by kernel_rfl) (fun xs w => Tryz.call44 xs w) (by kernel_rfl)
   ·refine ⟨0, false, ?_, fun h => by cases h⟩
    have hl := hl.loop
    unfold stB rlC rC at hl
    clear hz hb y1 y2 y3 y4 e1 e2 B I2 C b1 b2 z0 z1 hi hsg n0 two key hx0 h1 h2 h3 h4 hx hy e h2'
    generalize ((fl x + 1 : Int) : Rat) = u1 at *
    generalize ((fl x : Int) : Rat) = u2 at *
    generalize sgR x.val = s at *
    generalize (0 : Rat) = zr at *
    generalize (1 : Rat) = one at *
    obtain ⟨xp, xr, xn⟩ := x
    obtain ⟨yp, yr, yn⟩ := y
    dsimp only at *
    exact walk (code := Tryz.f44.body.getD .skip) [c Z, c I0, c S, eb hs, c F, c O, c A, c I1, lp [(0, 0), (1, 1), (2, 2)] hl, c Z] fol Tryz.func44 (by kernel_rfl) (fun xs w => Tryz.call44 xs w) (by kernel_rfl)
end Go.Proofs.YthdaimoankaciaaGreatDoor

end
