/- Part 5 of the proof; what it holds is said text by text. -/
import Derived.Test.YtlblfgbpogljoaaGreatDoorProg
import Derived.Test.YtlblfgbpogljoaaGreatDoorQbC
import Derived.Test.YtlblfgbpogljoaaGreatDoorQbD
import Derived.Deep.DeepCutAuto
import Derived.Deep.CutBlock
import Derived.OwnWalk
import Derived.Test.YtlblfgbpogljoaaGreatDoorQbA
set_option linter.unusedSimpArgs false
set_option linter.unusedVariables false
section
/- The package integer: the ring operations. -/
namespace Go.Proofs.YtlblfgbpogljoaaGreatDoor
open Go Go.RowKit
open Vi
set_option maxHeartbeats 400000 in
theorem Negate_c (x : Int) (w : World) : Calls Tryz.prog 147 #[.agg #[.bool (sg x), .string (mg x)]] w fun e w' => e = .returned (.agg #[.bool (sg (-x)), .string (mg (-x))]) ∧ Below w.heap.size w w' := by
 have hz : -x = if !sg x then -((x.natAbs : Nat) : Int) else (x.natAbs : Nat) := by
  by_cases h : x < 0
  ·rw [sg_true x h]; simp; omega
  ·rw [sg_false x (by omega)]; simp; omega
 have Hz := Lib.hid hz
 clear hz
 go_enter Tryz.func147, Tryz.ntmps147
 (go_wp2_with fail; refine (made_c _ (-x) x.natAbs Hz.out _).mono ?_; rintro e w' ⟨rfl, hb⟩; (first | (with_reducible (have hb2 := World.plus_of_below ((World.below_plus _ _).trans (hb.mono (World.size_plus _ _)))); obtain ⟨u, rfl⟩ := hb2) | (obtain ⟨u, rfl⟩ := World.plus_of_below hb)); clear hb)
 go_wp2_with fail
 refine bodyPost_ret (by simp [results, Tryz.results147, go_sem]; rfl) rfl ?_
 exact ⟨rfl, by (exact belA)⟩
theorem mul_sign (x y : Int) : x * y = if (!sg x == sg y) then -((x.natAbs * y.natAbs : Nat) : Int) else (x.natAbs * y.natAbs : Nat) := by
 rcases Int.lt_or_le x 0 with h | h <;> rcases Int.lt_or_le y 0 with h2 | h2
 ·rw [sg_true x h, sg_true y h2]
  simp only [beq_self_eq_true, Bool.not_true, Bool.false_eq_true, if_false]
  rw [Int.natCast_mul, nAbs_of_neg x h, nAbs_of_neg y h2, Int.neg_mul_neg]
 ·rw [sg_true x h, sg_false y h2]
  simp only [show (true == false) = false from rfl, Bool.not_false, if_true]
  rw [Int.natCast_mul, nAbs_of_neg x h, nAbs_of_nonneg y h2, Int.neg_mul, Int.neg_neg]
 ·rw [sg_false x h, sg_true y h2]
  simp only [show (false == true) = false from rfl, Bool.not_false, if_true]
  rw [Int.natCast_mul, nAbs_of_nonneg x h, nAbs_of_neg y h2, Int.mul_neg, Int.neg_neg]
 ·rw [sg_false x h, sg_false y h2]
  simp only [beq_self_eq_true, Bool.not_true, Bool.false_eq_true, if_false]
  rw [Int.natCast_mul, nAbs_of_nonneg x h, nAbs_of_nonneg y h2]
set_option maxHeartbeats 400000 in
theorem Mul_c (x y : Int) (w : World) (hx : (mg x).size ≤ 4294967296) (hy : (mg y).size ≤ 4294967296) : Calls Tryz.prog 129 #[.agg #[.bool (sg x), .string (mg x)], .agg #[.bool (sg y), .string (mg y)]] w fun e w' => e = .returned (.agg #[.bool (sg (x * y)), .string (mg (x * y))]) ∧ Below w.heap.size w w' := by
 have hz := Lib.hid (mul_sign x y)
 go_enter Tryz.func129, Tryz.ntmps129
 go_wp2
 ((first | (with_reducible refine wp_region_steady_plus_t 11 (by kernel_rfl) (by kernel_rfl) ?_) | refine wp_region_steady_t 11 (by kernel_rfl) (by kernel_rfl) ?_); simp only [List.take_succ_cons, List.take_zero, List.drop_succ_cons, List.drop_zero]; repeat go_big_quiet_step (first | (go_at_call 169; refine Calls.steady (mul_c x.natAbs y.natAbs _ hx hy)) | (go_at_call 167; refine Calls.steady (made_c _ (x * y) (x.natAbs * y.natAbs) hz.out _)))); (refine wpQuiet_nil ?_; rintro _ ⟨u, rfl⟩)
 go_wp2
 refine bodyPost_ret (by simp [results, Tryz.results129, go_sem]; rfl) rfl ?_
 exact ⟨rfl, by (exact belA)⟩
theorem add_same (x y : Int) (h : sg x = sg y) : x + y = if sg x then -((x.natAbs + y.natAbs : Nat) : Int) else (x.natAbs + y.natAbs : Nat) := by
 unfold sg at h ⊢
 rw [decide_eq_decide] at h
 split
 ·rename_i h1; simp at h1; omega
 ·rename_i h1; simp at h1; omega
theorem add_left (x y : Int) (h : sg x ≠ sg y) (hle : y.natAbs ≤ x.natAbs) : x + y = if sg x then -((x.natAbs - y.natAbs : Nat) : Int) else (x.natAbs - y.natAbs : Nat) := by
 unfold sg at h ⊢
 rw [ne_eq, decide_eq_decide] at h
 split
 ·rename_i h1; simp at h1; omega
 ·rename_i h1; simp at h1; omega
theorem add_right (x y : Int) (h : sg x ≠ sg y) (hle : x.natAbs ≤ y.natAbs) : x + y = if sg y then -((y.natAbs - x.natAbs : Nat) : Int) else (y.natAbs - x.natAbs : Nat) := by
 rw [Int.add_comm]; exact add_left y x (fun e => h e.symm) hle
theorem cmpN_ge (x y : Nat) (h : y ≤ x) : ¬ cmpN x y < 0 := by unfold cmpN; repeat' split
                                                               all_goals omega
theorem cmpN_lt (x y : Nat) (h : x < y) : cmpN x y < 0 := by unfold cmpN; repeat' split
                                                             all_goals omega
set_option maxHeartbeats 400000 in
theorem Add_c (x y : Int) (w : World) (hx : (mg x).size ≤ 4294967296) (hy : (mg y).size ≤ 4294967296) : Calls Tryz.prog 152 #[.agg #[.bool (sg x), .string (mg x)], .agg #[.bool (sg y), .string (mg y)]] w fun e w' => e = .returned (.agg #[.bool (sg (x + y)), .string (mg (x + y))]) ∧ Below w.heap.size w w' := by
 by_cases h : sg x = sg y
 ·have hz := Lib.hid (add_same x y h)
  have hb : (sg x == sg y) = true := by simp [h]
  clear h
  go_enter Tryz.func152, Tryz.ntmps152
  go_wp2
  ((first | (with_reducible refine wp_region_steady_plus_t 8 (by kernel_rfl) (by kernel_rfl) ?_) | refine wp_region_steady_t 8 (by kernel_rfl) (by kernel_rfl) ?_); simp only [List.take_succ_cons, List.take_zero, List.drop_succ_cons, List.drop_zero]; repeat go_big_quiet_step (first | (go_at_call 182; refine Calls.steady (add_c x.natAbs y.natAbs _ hx hy)) | (go_at_call 167; refine Calls.steady (made_c _ (x + y) (x.natAbs + y.natAbs) hz.out _)))); (refine wpQuiet_nil ?_; rintro _ ⟨u, rfl⟩)
  go_wp2
  refine bodyPost_ret (by simp [results, Tryz.results152, go_sem]; rfl) rfl ?_
  exact ⟨rfl, by (exact belA)⟩
 ·have hb : (sg x == sg y) = false := by simp [h]
  by_cases hle : y.natAbs ≤ x.natAbs
  ·have hz := Lib.hid (add_left x y h hle)
   have hc := cmpN_ge _ _ hle
   clear h
   go_enter Tryz.func152, Tryz.ntmps152
   (go_wp2_with fail; refine (compare_c x.natAbs y.natAbs _ hx hy).mono ?_; rintro e w' ⟨rfl, hb⟩; (first | (with_reducible (have hb2 := World.plus_of_below ((World.below_plus _ _).trans (hb.mono (World.size_plus _ _)))); obtain ⟨u, rfl⟩ := hb2) | (obtain ⟨u, rfl⟩ := World.plus_of_below hb)); clear hb)
   go_wp2_with fail
   ((first | (with_reducible refine wp_region_steady_plus_t 8 (by kernel_rfl) (by kernel_rfl) ?_) | refine wp_region_steady_t 8 (by kernel_rfl) (by kernel_rfl) ?_); simp only [List.take_succ_cons, List.take_zero, List.drop_succ_cons, List.drop_zero]; repeat go_big_quiet_step (first | (go_at_call 184; refine Calls.steady (sub_c x.natAbs y.natAbs _ hx hy hle)) | (go_at_call 167; refine Calls.steady (made_c _ (x + y) (x.natAbs - y.natAbs) hz.out _)))); (refine wpQuiet_nil ?_; rintro _ ⟨u, rfl⟩)
   go_wp2
   refine bodyPost_ret (by simp [results, Tryz.results152, go_sem]; rfl) rfl ?_
   exact ⟨rfl, by (exact belA)⟩
  ·have hz := Lib.hid (add_right x y h (by omega))
   have hc := cmpN_lt x.natAbs y.natAbs (by omega)
   clear h
   go_enter Tryz.func152, Tryz.ntmps152
   (go_wp2_with fail; refine (compare_c x.natAbs y.natAbs _ hx hy).mono ?_; rintro e w' ⟨rfl, hb⟩; (first | (with_reducible (have hb2 := World.plus_of_below ((World.below_plus _ _).trans (hb.mono (World.size_plus _ _)))); obtain ⟨u, rfl⟩ := hb2) | (obtain ⟨u, rfl⟩ := World.plus_of_below hb)); clear hb)
   go_wp2_with fail
   ((first | (with_reducible refine wp_region_steady_plus_t 8 (by kernel_rfl) (by kernel_rfl) ?_) | refine wp_region_steady_t 8 (by kernel_rfl) (by kernel_rfl) ?_); simp only [List.take_succ_cons, List.take_zero, List.drop_succ_cons, List.drop_zero]; repeat go_big_quiet_step (first | (go_at_call 184; refine Calls.steady (sub_c y.natAbs x.natAbs _ hy hx (by omega))) | (go_at_call 167; refine Calls.steady (made_c _ (x + y) (y.natAbs - x.natAbs) hz.out _)))); (refine wpQuiet_nil ?_; rintro _ ⟨u, rfl⟩)
   go_wp2
   refine bodyPost_ret (by simp [results, Tryz.results152, go_sem]; rfl) rfl ?_
   exact ⟨rfl, by (exact belA)⟩
theorem mg_size_neg (y : Int) : (mg (-y)).size = (mg y).size := by unfold mg; rw [Int.natAbs_neg]
set_option maxHeartbeats 400000 in
theorem Sub_c (x y : Int) (w : World) (hx : (mg x).size ≤ 4294967296) (hy : (mg y).size ≤ 4294967296) : Calls Tryz.prog 197 #[.agg #[.bool (sg x), .string (mg x)], .agg #[.bool (sg y), .string (mg y)]] w fun e w' => e = .returned (.agg #[.bool (sg (x - y)), .string (mg (x - y))]) ∧ Below w.heap.size w w' := by
 rw [show x - y = x + -y by omega]
 have hy2 : (mg (-y)).size ≤ 4294967296 := by rw [mg_size_neg]; exact hy
 go_enter Tryz.func197, Tryz.ntmps197
 go_wp2
 ((first | (with_reducible refine wp_region_steady_plus_t 4 (by kernel_rfl) (by kernel_rfl) ?_) | refine wp_region_steady_t 4 (by kernel_rfl) (by kernel_rfl) ?_); simp only [List.take_succ_cons, List.take_zero, List.drop_succ_cons, List.drop_zero]; repeat go_big_quiet_step (first | (go_at_call 147; refine Calls.steady (Negate_c y _)) | (go_at_call 152; refine Calls.steady (Add_c x (-y) _ hx hy2)))); (refine wpQuiet_nil ?_; rintro _ ⟨u, rfl⟩)
 go_wp2
 refine bodyPost_ret (by simp [results, Tryz.results197, go_sem]; rfl) rfl ?_
 exact ⟨rfl, by (exact belA)⟩
end Go.Proofs.YtlblfgbpogljoaaGreatDoor

end
section
/- The package integer: DivMod, where div returns what it should; the examples of known. -/
namespace Go.Proofs.YtlblfgbpogljoaaGreatDoor
open Go Go.RowKit
open Vi
theorem sg_neg_nat (m : Nat) (h : 0 < m) : sg (-(m : Int)) = true := sg_true _ (by omega)
theorem quo_plain (x y : Int) (h : sg x = false ∨ x.natAbs % y.natAbs = 0) : x / y = if (!sg x == sg y) then -((x.natAbs / y.natAbs : Nat) : Int) else (x.natAbs / y.natAbs : Nat) := by
 obtain ⟨m, hm⟩ := Int.eq_nat_or_neg x
 obtain ⟨n, hn⟩ := Int.eq_nat_or_neg y
 have key : ((-(m : Int)) / (n : Int) : Int) = -((m / n : Nat) : Int) ∨ 0 < m % n := by
  by_cases h0 : m % n = 0
  ·left
   have : (m : Int) = (n : Int) * ((m / n : Nat) : Int) := by
    have := Nat.div_add_mod m n
    rw [h0, Nat.add_zero] at this
    exact_mod_cast this.symm
   by_cases hn0 : n = 0
   ·subst hn0; simp
   ·rw [this, ← Int.mul_neg, Int.mul_ediv_cancel_left _ (by omega)]
  ·right; omega
 rcases hm with rfl | rfl <;> rcases hn with rfl | rfl
 ·simp only [Int.natAbs_natCast, sg_nat, beq_self_eq_true, Bool.not_true, Bool.false_eq_true, if_false]
  exact (Int.natCast_ediv m n).symm ▸ rfl
 ·simp only [Int.natAbs_natCast, Int.natAbs_neg, sg_nat]
  by_cases hn0 : n = 0
  ·subst hn0; simp
  ·rw [sg_neg_nat n (by omega), Int.ediv_neg]
   rfl
 ·simp only [Int.natAbs_natCast, Int.natAbs_neg, sg_nat] at h ⊢
  by_cases hm0 : m = 0
  ·subst hm0; simp
  ·rw [sg_neg_nat m (by omega)] at h ⊢
   rcases key with key | key
   ·rw [key]; rfl
   ·simp at h; omega
 ·simp only [Int.natAbs_natCast, Int.natAbs_neg] at h ⊢
  by_cases hm0 : m = 0
  ·subst hm0; simp
  ·rw [sg_neg_nat m (by omega)] at h ⊢
   by_cases hn0 : n = 0
   ·subst hn0; simp
   ·rw [sg_neg_nat n (by omega)] at ⊢
    rcases key with key | key
    ·rw [Int.ediv_neg, key]; simp
    ·simp at h; omega
theorem quo_up (x y : Int) (hy : y ≠ 0) (hs : sg x = true) (h : x.natAbs % y.natAbs ≠ 0) : x / y = if (!sg x == sg y) then -((x.natAbs / y.natAbs + 1 : Nat) : Int) else (x.natAbs / y.natAbs + 1 : Nat) := by
 have key : ∀ m n : Nat, m % n ≠ 0 → 0 < n → (-(m : Int)) / (n : Int) = -((m / n + 1 : Nat) : Int) := fun m n h0 hn => by
  have e := Nat.div_add_mod m n
  have hl := Nat.mod_lt m hn
  have e2 : (-(m : Int)) = (n : Int) * (-((m / n + 1 : Nat) : Int)) + ((n - m % n : Nat) : Int) := by
   have h1 : ((n - m % n : Nat) : Int) = (n : Int) - ((m % n : Nat) : Int) := by omega
   have h3 : ((m / n + 1 : Nat) : Int) = ((m / n : Nat) : Int) + 1 := by omega
   rw [h1, h3, Int.mul_neg, Int.mul_add, Int.mul_one]
   have : (m : Int) = (n : Int) * ((m / n : Nat) : Int) + ((m % n : Nat) : Int) := by exact_mod_cast e.symm
   omega
  rw [e2, Int.mul_add_ediv_left _ _ (by omega), Int.ediv_eq_zero_of_lt (by omega) (by omega), Int.add_zero]
 obtain ⟨n, hn⟩ := Int.eq_nat_or_neg y
 have hx : x = -((x.natAbs : Nat) : Int) := by unfold sg at hs; simp at hs; omega
 rcases hn with rfl | rfl
 ·rw [hs, sg_nat]
  simp only [Int.natAbs_natCast] at h ⊢
  rw [hx, Int.natAbs_neg, Int.natAbs_natCast, key _ _ h (by omega)]; rfl
 ·rw [hs, sg_neg_nat n (by omega)]
  simp only [Int.natAbs_neg, Int.natAbs_natCast] at h ⊢
  rw [hx, Int.natAbs_neg, Int.natAbs_natCast, Int.ediv_neg, key _ _ h (by omega)]; simp
theorem rem_plain (x y : Int) (h : sg x = false ∨ x.natAbs % y.natAbs = 0) : x % y = ((x.natAbs % y.natAbs : Nat) : Int) := by
 rw [Int.emod_def, quo_plain x y h]
 obtain ⟨m, hm⟩ := Int.eq_nat_or_neg x
 obtain ⟨n, hn⟩ := Int.eq_nat_or_neg y
 have e : (m : Int) = (n : Int) * ((m / n : Nat) : Int) + ((m % n : Nat) : Int) := by exact_mod_cast (Nat.div_add_mod m n).symm
 rcases hm with rfl | rfl <;> rcases hn with rfl | rfl
 ·simp only [Int.natAbs_natCast, sg_nat, beq_self_eq_true, Bool.not_true, Bool.false_eq_true, if_false]; omega
 ·simp only [Int.natAbs_natCast, Int.natAbs_neg, sg_nat]
  by_cases hn0 : n = 0
  ·subst hn0; simp
  ·rw [sg_neg_nat n (by omega)]
   simp only [show (false == true) = false from rfl, Bool.not_false, if_true, Int.neg_mul_neg]; omega
 ·simp only [Int.natAbs_natCast, Int.natAbs_neg, sg_nat] at h ⊢
  by_cases hm0 : m = 0
  ·subst hm0; simp
  ·rw [sg_neg_nat m (by omega)] at h ⊢
   have h0 : m % n = 0 := by simpa using h
   simp only [show (true == false) = false from rfl, Bool.not_false, if_true, Int.mul_neg]; omega
 ·simp only [Int.natAbs_natCast, Int.natAbs_neg] at h ⊢
  by_cases hm0 : m = 0
  ·subst hm0; simp
  ·rw [sg_neg_nat m (by omega)] at h ⊢
   have h0 : m % n = 0 := by simpa using h
   by_cases hn0 : n = 0
   ·subst hn0; simp at h0; omega
   ·rw [sg_neg_nat n (by omega)]
    simp only [beq_self_eq_true, Bool.not_true, Bool.false_eq_true, if_false, Int.neg_mul]; omega
theorem rem_up (x y : Int) (hy : y ≠ 0) (hs : sg x = true) (h : x.natAbs % y.natAbs ≠ 0) : x % y = ((y.natAbs - x.natAbs % y.natAbs : Nat) : Int) := by
 rw [Int.emod_def, quo_up x y hy hs h]
 have hx : x = -((x.natAbs : Nat) : Int) := by unfold sg at hs; simp at hs; omega
 have hl := Nat.mod_lt x.natAbs (y := y.natAbs) (by omega)
 have e : ((x.natAbs : Nat) : Int) = ((y.natAbs : Nat) : Int) * ((x.natAbs / y.natAbs : Nat) : Int) + ((x.natAbs % y.natAbs : Nat) : Int) := by exact_mod_cast (Nat.div_add_mod x.natAbs y.natAbs).symm
 have h1 : ((y.natAbs - x.natAbs % y.natAbs : Nat) : Int) = (y.natAbs : Int) - ((x.natAbs % y.natAbs : Nat) : Int) := by omega
 have h3 : ((x.natAbs / y.natAbs + 1 : Nat) : Int) = ((x.natAbs / y.natAbs : Nat) : Int) + 1 := by omega
 rw [h1, h3, hs]
 by_cases hy2 : y < 0
 ·rw [sg_true y hy2]
  simp only [beq_self_eq_true, Bool.not_true, Bool.false_eq_true, if_false]
  have : y * ((x.natAbs / y.natAbs : Nat) + 1 : Int) = -((y.natAbs : Int) * (x.natAbs / y.natAbs : Nat) + (y.natAbs : Int)) := by
   rw [Int.mul_add, Int.mul_one]
   have hy3 : (y.natAbs : Int) = -y := nAbs_of_neg y hy2
   rw [hy3, Int.neg_mul]; omega
  omega
 ·rw [sg_false y (by omega)]
  simp only [show (true == false) = false from rfl, Bool.not_false, if_true, Int.mul_neg]
  have : y * ((x.natAbs / y.natAbs : Nat) + 1 : Int) = ((y.natAbs : Int) * (x.natAbs / y.natAbs : Nat) + (y.natAbs : Int)) := by
   rw [Int.mul_add, Int.mul_one, nAbs_of_nonneg y (by omega)]
  omega
def DivOk (x y : Nat) : Prop := ∀ w : World, Calls Tryz.prog 189 #[.string (mag x), .string (mag y)] w fun e w' => e = .returned (.tuple #[.string (mag (x / y)), .string (mag (x % y))]) ∧ Below w.heap.size w w'
set_option maxRecDepth 100000 in
set_option maxHeartbeats 400000 in
theorem div_small (x y : Nat) (hx : fits8 x = true) (hy : fits8 y = true) (h0 : 0 < y) : DivOk x y := by
 intro w
 have hx2 : x < 2 ^ 64 := by rw [fits8_iff] at hx; simpa using hx
 have hy2 : y < 2 ^ 64 := by rw [fits8_iff] at hy; simpa using hy
 have sx : (mag x).size ≤ 4294967296 := by have : (mag x).size ≤ 8 := (by simpa [fits8] using hx); omega
 have sy : (mag y).size ≤ 4294967296 := by have : (mag y).size ≤ 8 := (by simpa [fits8] using hy); omega
 have hwx := wv_of x hx
 have hwy := wv_of y hy
 have hb : ((y : Int) == 0) = false := by rw [beq_eq_false_iff_ne]; omega
 have hne : ¬ (y : Int) = 0 := by omega
 obtain ⟨q, hq⟩ : ∃ q, q = x / y := ⟨_, rfl⟩
 obtain ⟨r, hr⟩ : ∃ r, r = x % y := ⟨_, rfl⟩
 have hq2 : q < 2 ^ 64 := hq ▸ Nat.lt_of_le_of_lt (Nat.div_le_self _ _) hx2
 have hr2 : r < 2 ^ 64 := hr ▸ Nat.lt_of_le_of_lt (Nat.mod_le _ _) hx2
 rw [← hq, ← hr]
 have H1 := Lib.hid hq2
 have H2 := Lib.hid hr2
 have e1 : (x : Int).tdiv (y : Int) = (q : Int) := by rw [hq]; exact Int.ofNat_tdiv x y
 have e2 : (x : Int).tmod (y : Int) = (r : Int) := by rw [hr]; exact Int.ofNat_tmod x y
 have e3 : IntKind.u64.wrap (q : Int) = (q : Int) := u64_of_nat q hq2
 have e4 : IntKind.u64.wrap (r : Int) = (r : Int) := u64_of_nat r hr2
 clear hq2 hr2 hq hr
 go_enter Tryz.func189, Tryz.ntmps189
 go_wp2_with fail
 refine (words_c x y _ sx sy).mono ?_
 rintro e w' ⟨rfl, rfl⟩
 rw [hwx, hwy, hx, hy]
 go_wp2_with fail
 ((first | (with_reducible refine wp_region_steady_plus (by kernel_rfl) (by kernel_rfl) ?_) | refine wp_region_steady (by kernel_rfl) (by kernel_rfl) ?_); repeat go_big_quiet_step (first | (go_at_call_of 168 (Value.int .u64 (q : Int)); refine Calls.steady (magnitude_c q _ H1.out)) | (go_at_call_of 168 (Value.int .u64 (r : Int)); refine Calls.steady (magnitude_c r _ H2.out)))); (refine wpQuiet_nil ?_; rintro _ ⟨u, rfl⟩)
 go_wp2_with fail
 go_ret2
 exact ⟨rfl, by (exact belA)⟩
theorem size_mag_mono (a b : Nat) (h : a ≤ b) : (mag a).size ≤ (mag b).size := by rw [size_mag, size_mag]; exact nd_mono 256 (by omega) a b h
theorem mg_empty_of (y : Int) (h : y = 0) : (mg y).toList.isEmpty = true := by rw [mg_isEmpty, h]; rfl
theorem mg_empty_not (y : Int) (h : y ≠ 0) : (mg y).toList.isEmpty = false := by rw [mg_isEmpty]; simpa using h
theorem mag_empty_of (y : Nat) (h : y = 0) : (mag y).toList.isEmpty = true := by rw [mag_isEmpty, h]; rfl
theorem mag_empty_not (y : Nat) (h : y ≠ 0) : (mag y).toList.isEmpty = false := by rw [mag_isEmpty]; simpa using h
set_option maxHeartbeats 800000 in
theorem DivMod_of (x y : Int) (w : World) (hy : y ≠ 0) (sx : (mg x).size ≤ 4294967295) (sy : (mg y).size ≤ 4294967296) (hd : DivOk x.natAbs y.natAbs) : Calls Tryz.prog 198 #[.agg #[.bool (sg x), .string (mg x)], .agg #[.bool (sg y), .string (mg y)]] w fun e w' => e = .returned (.tuple #[.agg #[.bool (sg (x / y)), .string (mg (x / y))], .agg #[.bool (sg (x % y)), .string (mg (x % y))], .int .i64 0]) ∧ Below w.heap.size w w' := by
 have he := mg_empty_not y hy
 have hl := Nat.mod_lt x.natAbs (y := y.natAbs) (by omega)
 have h1 : mag 1 = ⟨#[1]⟩ := by decide
 obtain ⟨q, hq⟩ : ∃ q, q = x.natAbs / y.natAbs := ⟨_, rfl⟩
 obtain ⟨r, hr⟩ : ∃ r, r = x.natAbs % y.natAbs := ⟨_, rfl⟩
 have Hd : Hid (∀ w : World, Calls Tryz.prog 189 #[.string (mag x.natAbs), .string (mag y.natAbs)] w fun e w' => e = .returned (.tuple #[.string (mag q), .string (mag r)]) ∧ Below w.heap.size w w') := Lib.hid (by rw [hq, hr]; exact hd)
 clear hd
 by_cases h : sg x = false ∨ x.natAbs % y.natAbs = 0
 ·have Hq := Lib.hid (quo_plain x y h)
  have Hr := Lib.hid (rem_plain x y h)
  rw [← hq] at Hq
  rw [← hr] at Hr h
  have H0 := Lib.hid h
  clear hq hr hl h1 h
  cases hs : sg x
  ·have Hz : Hid (x / y = if sg y then -(q : Int) else q) := by rw [hs] at Hq; have h9 := Hq.out; refine Lib.hid (h9.trans ?_); cases sg y <;> rfl
   have Hz2 : Hid (x % y = if false then -(r : Int) else r) := Hr
   go_enter Tryz.func198, Tryz.ntmps198
   (go_wp2_with fail; refine (Hd.out _).mono ?_; rintro e w' ⟨rfl, hb⟩; (first | (with_reducible (have hb2 := World.plus_of_below ((World.below_plus _ _).trans (hb.mono (World.size_plus _ _)))); obtain ⟨u, rfl⟩ := hb2) | (obtain ⟨u, rfl⟩ := World.plus_of_below hb)); clear hb)
   (go_wp2_with fail; refine (made_c _ _ _ Hz.out _).mono ?_; rintro e w' ⟨rfl, hb⟩; (first | (with_reducible (have hb2 := World.plus_of_below ((World.below_plus _ _).trans (hb.mono (World.size_plus _ _)))); obtain ⟨u, rfl⟩ := hb2) | (obtain ⟨u, rfl⟩ := World.plus_of_below hb)); clear hb)
   (go_wp2_with fail; refine (made_c _ _ _ Hz2.out _).mono ?_; rintro e w' ⟨rfl, hb⟩; (first | (with_reducible (have hb2 := World.plus_of_below ((World.below_plus _ _).trans (hb.mono (World.size_plus _ _)))); obtain ⟨u, rfl⟩ := hb2) | (obtain ⟨u, rfl⟩ := World.plus_of_below hb)); clear hb)
   go_wp2_with fail
   refine bodyPost_ret (by simp [results, Tryz.results198, go_sem]; rfl) rfl ?_
   exact ⟨rfl, by (exact belA)⟩
  ·have her := mag_empty_of r (by have := H0.out; rw [hs] at this; simpa using this)
   have Hz : Hid (x / y = if !sg y then -(q : Int) else q) := by rw [hs] at Hq; have h9 := Hq.out; refine Lib.hid (h9.trans ?_); cases sg y <;> rfl
   have Hz2 : Hid (x % y = if false then -(r : Int) else r) := Hr
   go_enter Tryz.func198, Tryz.ntmps198
   (go_wp2_with fail; refine (Hd.out _).mono ?_; rintro e w' ⟨rfl, hb⟩; (first | (with_reducible (have hb2 := World.plus_of_below ((World.below_plus _ _).trans (hb.mono (World.size_plus _ _)))); obtain ⟨u, rfl⟩ := hb2) | (obtain ⟨u, rfl⟩ := World.plus_of_below hb)); clear hb)
   (go_wp2_with fail; refine (made_c _ _ _ Hz.out _).mono ?_; rintro e w' ⟨rfl, hb⟩; (first | (with_reducible (have hb2 := World.plus_of_below ((World.below_plus _ _).trans (hb.mono (World.size_plus _ _)))); obtain ⟨u, rfl⟩ := hb2) | (obtain ⟨u, rfl⟩ := World.plus_of_below hb)); clear hb)
   (go_wp2_with fail; refine (made_c _ _ _ Hz2.out _).mono ?_; rintro e w' ⟨rfl, hb⟩; (first | (with_reducible (have hb2 := World.plus_of_below ((World.below_plus _ _).trans (hb.mono (World.size_plus _ _)))); obtain ⟨u, rfl⟩ := hb2) | (obtain ⟨u, rfl⟩ := World.plus_of_below hb)); clear hb)
   go_wp2_with fail
   refine bodyPost_ret (by simp [results, Tryz.results198, go_sem]; rfl) rfl ?_
   exact ⟨rfl, by (exact belA)⟩
 ·have hs : sg x = true := by cases hs : sg x <;> simp_all
  have h0 : x.natAbs % y.natAbs ≠ 0 := fun e => h (.inr e)
  have Hq := Lib.hid (quo_up x y hy hs h0)
  have Hr := Lib.hid (rem_up x y hy hs h0)
  rw [← hq] at Hq
  rw [← hr] at Hr
  have her := mag_empty_not r (by rw [hr]; exact h0)
  have Hz : Hid (x / y = if !sg y then -((q + 1 : Nat) : Int) else (q + 1 : Nat)) := by rw [hs] at Hq; have h9 := Hq.out; refine Lib.hid (h9.trans ?_); cases sg y <;> rfl
  have Hz2 : Hid (x % y = if false then -((y.natAbs - r : Nat) : Int) else (y.natAbs - r : Nat)) := Hr
  have H1 := Lib.hid h1
  have hle : r ≤ y.natAbs := by omega
  have Hle := Lib.hid hle
  have sr : (mag r).size ≤ 4294967296 := by
   have := size_mag_mono r y.natAbs hle
   exact Nat.le_trans this sy
  have sq : (mag q).size ≤ 4294967296 := by
   have := size_mag_mono q x.natAbs (by rw [hq]; exact Nat.div_le_self _ _)
   exact Nat.le_trans this (Nat.le_trans sx (by omega))
  have s1 : (mag 1).size ≤ 4294967296 := by rw [h1]; decide
  clear hq hr hl h1 h h0 hle
  go_enter Tryz.func198, Tryz.ntmps198
  (go_wp2_with fail; refine (Hd.out _).mono ?_; rintro e w' ⟨rfl, hb⟩; (first | (with_reducible (have hb2 := World.plus_of_below ((World.below_plus _ _).trans (hb.mono (World.size_plus _ _)))); obtain ⟨u, rfl⟩ := hb2) | (obtain ⟨u, rfl⟩ := World.plus_of_below hb)); clear hb)
  go_wp2_with fail
  rw [← H1.out]
  ((first | (with_reducible refine wp_region_steady_plus (by kernel_rfl) (by kernel_rfl) ?_) | refine wp_region_steady (by kernel_rfl) (by kernel_rfl) ?_); repeat go_big_quiet_step (first | (go_at_call 182; refine Calls.steady (add_c q 1 _ sq s1)) | (go_at_call 184; refine Calls.steady (sub_c y.natAbs r _ sy sr Hle.out)))); (refine wpQuiet_nil ?_; rintro _ ⟨u, rfl⟩)
  (go_wp2_with fail; refine (made_c _ _ _ Hz.out _).mono ?_; rintro e w' ⟨rfl, hb⟩; (first | (with_reducible (have hb2 := World.plus_of_below ((World.below_plus _ _).trans (hb.mono (World.size_plus _ _)))); obtain ⟨u, rfl⟩ := hb2) | (obtain ⟨u, rfl⟩ := World.plus_of_below hb)); clear hb)
  (go_wp2_with fail; refine (made_c _ _ _ Hz2.out _).mono ?_; rintro e w' ⟨rfl, hb⟩; (first | (with_reducible (have hb2 := World.plus_of_below ((World.below_plus _ _).trans (hb.mono (World.size_plus _ _)))); obtain ⟨u, rfl⟩ := hb2) | (obtain ⟨u, rfl⟩ := World.plus_of_below hb)); clear hb)
  go_wp2_with fail
  refine bodyPost_ret (by simp [results, Tryz.results198, go_sem]; rfl) rfl ?_
  exact ⟨rfl, by (exact belA)⟩
end Go.Proofs.YtlblfgbpogljoaaGreatDoor

end
section
namespace Go.Proofs.YtlblfgbpogljoaaGreatDoor
open Go Go.RowKit
open Vi
def lz (t : Nat) : Nat := 32 - nd 2 t
theorem lz_lt (t : Nat) (h0 : 0 < t) : lz t < 32 := by
 have := nd_pos 2 (by omega) t h0
 unfold lz; omega
theorem lz_hi (t : Nat) (h1 : t < 4294967296) : (t + 1) * 2 ^ lz t ≤ 4294967296 := by
 have h := lt_pow_nd 2 (by omega) t
 have hn : nd 2 t ≤ 32 := nd_le 2 (by omega) t 32 (by omega)
 have h2 : (t + 1) * 2 ^ lz t ≤ 2 ^ nd 2 t * 2 ^ lz t := Nat.mul_le_mul_right _ h
 rw [← Nat.pow_add] at h2
 unfold lz at *
 rw [show nd 2 t + (32 - nd 2 t) = 32 by omega] at h2
 omega
theorem lz_lo (t : Nat) (h0 : 0 < t) (h1 : t < 4294967296) : 2147483648 ≤ t * 2 ^ lz t := by
 have h := pow_nd_le 2 (by omega) t h0
 have hn : nd 2 t ≤ 32 := nd_le 2 (by omega) t 32 (by omega)
 have hp := nd_pos 2 (by omega) t h0
 have h2 : 2 ^ (nd 2 t - 1) * 2 ^ lz t ≤ t * 2 ^ lz t := Nat.mul_le_mul_right _ h
 rw [← Nat.pow_add] at h2
 unfold lz at *
 rw [show nd 2 t - 1 + (32 - nd 2 t) = 31 by omega] at h2
 omega
theorem norm_lt (y m : Nat) (h : nd 4294967296 y = m + 1) : y * 2 ^ lz (dg y m) < 4294967296 ^ (m + 1) := by
 have h1 := lt_pow_nd 4294967296 (by omega) y
 rw [h, pw] at h1
 have hp : 0 < 4294967296 ^ m := Nat.pow_pos (by omega)
 have e : dg y m = y / 4294967296 ^ m := by
  unfold dg; exact Nat.mod_eq_of_lt ((Nat.div_lt_iff_lt_mul hp).2 (by rw [Nat.mul_comm]; exact h1))
 have h2 := lz_hi (dg y m) (dg_lt y m)
 have h3 := Nat.lt_mul_div_succ y hp
 rw [← e] at h3
 rw [pw]
 generalize 4294967296 ^ m = M at *
 generalize hz : 2 ^ lz (dg y m) = z at *
 have hz0 : 0 < z := by rw [← hz]; exact Nat.pow_pos (by omega)
 calc y * z < M * (dg y m + 1) * z := Nat.mul_lt_mul_of_pos_right h3 hz0
  _ = M * ((dg y m + 1) * z) := Nat.mul_assoc ..
  _ ≤ M * 4294967296 := Nat.mul_le_mul_left _ h2
theorem norm_top (y m : Nat) (h : nd 4294967296 y = m + 1) : 2147483648 ≤ dg (y * 2 ^ lz (dg y m)) m := by
 have hn := norm_lt y m h
 have h0 := dg_top y m h
 have h2 := lz_lo (dg y m) h0 (dg_lt y m)
 have hp : 0 < 4294967296 ^ m := Nat.pow_pos (by omega)
 have h1 := lt_pow_nd 4294967296 (by omega) y
 rw [h, pw] at h1
 have e : dg y m = y / 4294967296 ^ m := by
  unfold dg; exact Nat.mod_eq_of_lt ((Nat.div_lt_iff_lt_mul hp).2 (by rw [Nat.mul_comm]; exact h1))
 rw [pw] at hn
 have e2 : ∀ z, z < 4294967296 ^ m * 4294967296 → dg z m = z / 4294967296 ^ m := fun z hz => by
  unfold dg; exact Nat.mod_eq_of_lt ((Nat.div_lt_iff_lt_mul hp).2 (by rw [Nat.mul_comm]; exact hz))
 rw [e2 _ hn]
 rw [Nat.le_div_iff_mul_le hp]
 generalize 2 ^ lz (dg y m) = z at *
 have h4 := Nat.div_mul_le_self y (4294967296 ^ m)
 rw [← e] at h4
 calc 2147483648 * 4294967296 ^ m ≤ dg y m * z * 4294967296 ^ m := Nat.mul_le_mul_right _ h2
  _ = dg y m * 4294967296 ^ m * z := Nat.mul_right_comm ..
  _ ≤ y * z := Nat.mul_le_mul_right _ h4
theorem mag_zero : mag 0 = ⟨#[]⟩ := by decide
theorem start_lt (x y s N m : Nat) (hx : x < 4294967296 ^ N) (hy : nd 4294967296 y = m + 1) (hN : m + 1 ≤ N) : x * 2 ^ s < y * 2 ^ s * 4294967296 ^ (N - m) := by
 have h0 : 0 < y := by
  rcases Nat.eq_zero_or_pos y with h2 | h2
  ·subst h2; rw [nd_zero] at hy; omega
  ·exact h2
 have h1 := pow_nd_le 4294967296 (by omega) y h0
 rw [hy, Nat.add_sub_cancel] at h1
 have h2 : 4294967296 ^ m * 4294967296 ^ (N - m) ≤ y * 4294967296 ^ (N - m) := Nat.mul_le_mul_right _ h1
 rw [← Nat.pow_add, show m + (N - m) = N by omega] at h2
 rw [Nat.mul_right_comm]
 exact Nat.mul_lt_mul_of_pos_right (by omega) (Nat.pow_pos (by omega))
def outFn (q j : Nat) : Nat → Nat := fun p => if p < j then 0 else dg q p
theorem outFn_top (q j n : Nat) (h : n ≤ j) : arr .u32 (fun _ => 0) n = arr .u32 (outFn q j) n := by
 apply arr_congr; intro p hp; unfold outFn; rw [if_pos (by omega)]
theorem outFn_succ (q j : Nat) : upd (outFn q (j + 1)) j (dg q j) = outFn q j := by
 funext p
 unfold upd outFn
 by_cases h : p = j
 ·subst h; rw [if_pos rfl, if_neg (by omega)]
 ·rw [if_neg h]
  by_cases h2 : p < j
  ·rw [if_pos (by omega), if_pos h2]
  ·rw [if_neg (by omega), if_neg h2]
theorem outFn_zero (q : Nat) : outFn q 0 = dg q := by funext p; unfold outFn; rw [if_neg (by omega)]
theorem quo_shift (x y s : Nat) : x * 2 ^ s / (y * 2 ^ s) = x / y := Nat.mul_div_mul_right x y (Nat.pow_pos (by omega))
theorem rem_shift (x y s : Nat) : x * 2 ^ s % (y * 2 ^ s) = x % y * 2 ^ s := Nat.mul_mod_mul_right ..
theorem back_dg (r s i : Nat) (hs : s ≤ 32) : (dg (r * 2 ^ s) (i + 1) * 4294967296 + dg (r * 2 ^ s) i) / 2 ^ s % 4294967296 = dg r i := by
 have hp : 0 < 2 ^ s := Nat.pow_pos (by omega)
 have h1 : ∀ z, dg z (i + 1) * 4294967296 + dg z i = z / 4294967296 ^ i % (4294967296 * 4294967296) := fun z => by
  have h2 := div_succ z i
  have h3 := div_succ z (i + 1)
  unfold dg
  rw [Nat.mod_mul, pw, ← Nat.div_div_eq_div_mul]
  omega
 rw [h1]
 obtain ⟨t, ht⟩ : ∃ t, 2 ^ s * t = 4294967296 := ⟨2 ^ (32 - s), by rw [← Nat.pow_add, show s + (32 - s) = 32 by omega]⟩
 have e : 4294967296 * 4294967296 = 2 ^ s * (t * 4294967296) := by rw [← Nat.mul_assoc, ht]
 rw [e, Nat.mod_mul_right_div_self, Nat.mod_mul_left_mod, Nat.div_div_eq_div_mul, Nat.mul_div_mul_right _ _ hp]
 rfl
theorem comma (x y : Nat) (h : x < y) : x / y = 0 ∧ x % y = x := ⟨Nat.div_eq_of_lt h, Nat.mod_eq_of_lt h⟩
set_option maxRecDepth 100000 in
set_option maxHeartbeats 400000 in
theorem div_less (x y : Nat) (sx : (mag x).size ≤ 4294967296) (sy : (mag y).size ≤ 4294967296) (hbig : (fits8 x && fits8 y) = false) (h : x < y) : DivOk x y := by
 intro w
 have hw := fun w => words_c x y w sx sy
 rw [hbig] at hw
 have H := Lib.hid hw
 have hc := fun w => compare_c x y w sx sy
 rw [show cmpN x y = -1 by unfold cmpN; rw [if_pos h]] at hc
 have HC := Lib.hid hc
 obtain ⟨e1, e2⟩ := comma x y h
 rw [e1, e2, mag_zero]
 clear hw hc e1 e2 h hbig sx sy
 go_enter Tryz.func189, Tryz.ntmps189
 go_wp2_with fail
 (refine (H.out _).mono ?_; rintro e w' ⟨rfl, rfl⟩)
 go_wp2_with fail
 first | (refine (HC.out _).mono ?_; rintro e w' ⟨rfl, rfl⟩) | (go_wp2_with fail; refine (HC.out _).mono ?_; rintro e w' ⟨rfl, hb⟩; obtain ⟨u, rfl⟩ := World.plus_of_below hb; clear hb)
 go_wp2_with fail
 go_ret2
 exact ⟨rfl, by (exact belA)⟩
set_option maxRecDepth 100000 in
set_option maxHeartbeats 800000 in
theorem div_one (x y : Nat) (sx : (mag x).size ≤ 4294967296) (sy : (mag y).size ≤ 4294967296) (hbig : (fits8 x && fits8 y) = false) (h : ¬ x < y) (h1 : nd 4294967296 y = 1) : DivOk x y := by
 intro w
 have hw := fun w => words_c x y w sx sy
 rw [hbig] at hw
 have H := Lib.hid hw
 have hc := fun w => compare_c x y w sx sy
 obtain ⟨c, hcc⟩ : ∃ c, c = cmpN x y := ⟨_, rfl⟩
 rw [← hcc] at hc
 have hc0 : ¬ c < 0 := by rw [hcc]; unfold cmpN; rw [if_neg h]; split <;> omega
 have HC := Lib.hid hc
 have hdx := fun w => digits_c x w sx
 have hdy := fun w => digits_c y w sy
 rw [h1] at hdy
 obtain ⟨n, hn⟩ : ∃ n, n = nd 4294967296 x := ⟨_, rfl⟩
 rw [← hn] at hdx
 have hxl : x < 4294967296 ^ n := by rw [hn]; exact lt_pow_nd _ (by omega) x
 have hyl : y < 4294967296 := by have := lt_pow_nd 4294967296 (by omega) y; rw [h1] at this; omega
 have hy0 : 0 < y := by
  rcases Nat.eq_zero_or_pos y with h2 | h2
  ·subst h2; rw [nd_zero] at h1; omega
  ·exact h2
 have hd0 : dg y 0 = y := by unfold dg; rw [Nat.pow_zero, Nat.div_one]; exact Nat.mod_eq_of_lt hyl
 have hn2 : n ≤ 1073741825 := by rw [hn, ← up4_nd]; unfold up4; omega
 have HX := Lib.hid hdx
 have HY := Lib.hid hdy
 have HXL := Lib.hid hxl
 have hgy := arr_get .u32 (dg y) 1 0 (by omega)
 rw [hd0] at hgy
 have hml := Nat.mod_lt x hy0
 have HG := Lib.hid (fun w => magnitude_c (x % y) w (by omega))
 have hq : x / y < 4294967296 ^ n := Nat.lt_of_le_of_lt (Nat.div_le_self x y) hxl
 have HQ := Lib.hid hq
 clear hw hc hcc hdx hdy h h1 hbig hn hxl hd0 hq sx sy
 go_enter Tryz.func189, Tryz.ntmps189
 go_wp2_with fail
 (refine (H.out _).mono ?_; rintro e w' ⟨rfl, rfl⟩)
 go_wp2_with fail
 (go_wp2_with fail; refine (HC.out _).mono ?_; rintro e w' ⟨rfl, hb⟩; obtain ⟨u, rfl⟩ := World.plus_of_below hb; clear hb)
 have hb1 := World.below_plus w u
 generalize w.plus u = w1 at hb1 ⊢
 go_wp2_with fail
 refine (HY.out _).mono ?_
 rintro e w' ⟨rfl, k1, rfl⟩
 go_wp2_with fail
 refine (HX.out _).mono ?_
 rintro e w' ⟨rfl, k2, rfl⟩
 go_wp2_with fail
 have hgx : ∀ K, (((w1.alloc (.cells (arr .u32 (dg y) 1) 228)).alloc (.cells (arr .u32 (dg x) n) 228)).drewN K).heap[w1.heap.size + 1]? = some (.cells (arr .u32 (dg x) n) 228 (0, 0)) := fun K => by
  have := heap_alloc_new (w1.alloc (.cells (arr .u32 (dg y) 1) 228)) (.cells (arr .u32 (dg x) n) 228)
  rw [World.size_alloc] at this
  exact this
 refine (short_c x y n n n (w1.heap.size + 1) _ HXL.out (by omega) (Nat.le_refl _) (hgx _) hy0 hyl).mono ?_
 rintro e w' ⟨rfl, k3, rfl⟩
 go_wp2_with fail
 refine (bytes_c (x / y) n n (w1.heap.size + 1) _ HQ.out (by omega) (Nat.le_refl _) (fun j hj => by simp [go_sem, arr_get _ _ _ _ hj]) (by simp [go_sem])).mono ?_
 rintro e w' ⟨rfl, hb⟩
 obtain ⟨u, rfl⟩ := World.plus_of_below hb
 clear hb
 go_wp2_with fail
 (go_wp2_with fail; refine (HG.out _).mono ?_; rintro e w' ⟨rfl, hb⟩; (first | (with_reducible (have hb2 := World.plus_of_below ((World.below_plus _ _).trans (hb.mono (World.size_plus _ _)))); obtain ⟨u, rfl⟩ := hb2) | (obtain ⟨u, rfl⟩ := World.plus_of_below hb)); clear hb)
 go_wp2_with fail
 go_ret2
 refine ⟨rfl, hb1.trans (Below.mono ?_ hb1.size)⟩
 (repeat' (first | (with_reducible first | exact Below.refl _ _ | assumption | refine Below.plus0 ?_ _ | refine Below.row ?_ ?_ _ _ | refine Below.alloc0 ?_ _ | refine Below.plus ?_ ?_ _ | refine Below.alloc ?_ ?_ _ | refine Below.drew ?_ | refine Below.drewN ?_ _) | (simp [go_sem]; done) | (simp [go_sem]; omega)))
end Go.Proofs.YtlblfgbpogljoaaGreatDoor

end
section
/- The package integer: div returns the quotient and the remainder of any two magnitudes, the second one not zero. -/
namespace Go.Proofs.YtlblfgbpogljoaaGreatDoor
open Go Go.RowKit
open Vi
@[go_sem] theorem World.setCell_row_other (w : World) (g : Nat) (t : TypeId) (cs : Array Value) (k i : Nat) (v : Value) (h : k ≠ g) : (w.row g t cs).setCell ⟨k, i, none⟩ v = (w.setCell ⟨k, i, none⟩ v).row g t cs := by
 unfold World.setCell World.row
 simp only [World.mk.injEq, and_true]
 apply Array.ext_getElem?
 intro j
 simp only [Array.getElem?_modify, Array.getElem?_setIfInBounds, Array.size_modify]
 by_cases h1 : g = j
 ·subst h1
  rw [if_neg h, if_pos rfl, if_pos rfl]
 ·rw [if_neg h1, if_neg h1]
theorem mulFn_top (T t i n : Nat) (hT : T < 4294967296 ^ (i + n + 1)) : mulFn T t i (n + 1) = dg (t % 4294967296 ^ (i + n + 1)) := by
 funext p
 unfold mulFn
 rw [dg_mod]
 by_cases h : p < i + n + 1
 ·rw [if_pos (by omega), if_pos h]
 ·rw [if_neg (by omega), if_neg h, dg_big T _ p hT (by omega)]
def lowFn (r k : Nat) : Nat → Nat := fun p => if p < k then dg r p else 0
theorem lowFn_zero (r : Nat) : (fun _ => 0) = lowFn r 0 := by funext p; unfold lowFn; rw [if_neg (by omega)]
theorem lowFn_succ (r k : Nat) : upd (lowFn r k) k (dg r k) = lowFn r (k + 1) := by
 funext p
 unfold upd lowFn
 by_cases h : p = k
 ·subst h; rw [if_pos rfl, if_pos (by omega)]
 ·rw [if_neg h]
  by_cases h2 : p < k
  ·rw [if_pos h2, if_pos (by omega)]
  ·rw [if_neg h2, if_neg (by omega)]
theorem lowFn_all (r n : Nat) : arr .u32 (lowFn r n) n = arr .u32 (dg r) n := by
 apply arr_congr; intro p hp; unfold lowFn; rw [if_pos hp]
theorem back_int (r s i : Nat) (hs : s ≤ 32) (z : Nat) (hz : z = dg (r * 2 ^ s) (i + 1) * 4294967296 + dg (r * 2 ^ s) i) : (z : Int) / 2 ^ s % 4294967296 = ((dg r i : Nat) : Int) := by
 have h := back_dg r s i hs
 rw [← hz] at h
 rw [← h, show (2 : Int) ^ s = ((2 ^ s : Nat) : Int) by rw [Int.natCast_pow]; rfl]
 rfl
theorem heap_at (w : World) (o : Obj) (g : Nat) (h : g = w.heap.size) : (w.alloc o).heap[g]? = some o := by subst h; exact heap_alloc_new w o
theorem makeOut (m : Nat) (z : Int) (w : World) (hz : z = (m : Int)) (h : m ≤ 8589934591) : (Instr.makeSlice 226 (.int .i64 z) (.int .i64 z)).run Tryz.prog w = .ok (.slice (some ⟨w.heap.size, 0, none⟩) m m) (w.alloc (.cells (arr .u32 (fun _ => 0) m) 228)) := by
 subst hz; exact make32 m w (by omega)
set_option maxRecDepth 100000 in
set_option maxHeartbeats 4000000 in
theorem div_big (x y p N : Nat) (sx : (mag x).size ≤ 4294967296) (sy : (mag y).size ≤ 4294967296) (hbig : (fits8 x && fits8 y) = false) (h : ¬ x < y) (h1 : nd 4294967296 y = p + 2) (hN : nd 4294967296 x = N) : DivOk x y := by
 intro w
 have hw := fun w => words_c x y w sx sy
 rw [hbig] at hw
 have H := Lib.hid hw
 have hc := fun w => compare_c x y w sx sy
 obtain ⟨c, hcc⟩ : ∃ c, c = cmpN x y := ⟨_, rfl⟩
 rw [← hcc] at hc
 have hc0 : ¬ c < 0 := by rw [hcc]; unfold cmpN; rw [if_neg h]; split <;> omega
 have HC := Lib.hid hc
 have hdx := fun w => digits_c x w sx
 have hdy := fun w => digits_c y w sy
 obtain ⟨n, hn⟩ : ∃ n, n = p + 2 := ⟨_, rfl⟩
 rw [h1, ← hn] at hdy
 rw [hN] at hdx
 have HX := Lib.hid hdx
 have HY := Lib.hid hdy
 have hxl : x < 4294967296 ^ N := by rw [← hN]; exact lt_pow_nd _ (by omega) x
 have hyl : y < 4294967296 ^ n := by rw [hn, ← h1]; exact lt_pow_nd _ (by omega) y
 have hN2 : N ≤ 1073741825 := by rw [← hN, ← up4_nd]; unfold up4; omega
 have hnN : n ≤ N := by rw [hn, ← h1, ← hN]; exact nd_mono _ (by omega) _ _ (by omega)
 obtain ⟨t, ht⟩ : ∃ t, t = dg y (p + 1) := ⟨_, rfl⟩
 have ht0 : 0 < t := by rw [ht]; exact dg_top y (p + 1) h1
 have ht1 : t < 4294967296 := by rw [ht]; exact dg_lt _ _
 obtain ⟨s, hs⟩ : ∃ s, s = lz t := ⟨_, rfl⟩
 have hs32 : s < 32 := by rw [hs]; exact lz_lt t ht0
 have HLZ : Hid (∀ w, Calls Tryz.prog 213 #[.int .u32 (t : Int)] w fun e w' => e = .returned (.int .i64 (s : Int)) ∧ w = w') := Lib.hid fun w => by
  refine (Tryz.bits_LeadingZeros32 (t : Int) w (by omega) (by omega)).mono ?_
  rintro e w' ⟨rfl, rfl⟩
  refine ⟨?_, rfl⟩
  have hb : Lib.bitLen ((t : Int)).toNat = nd 2 t := by rw [Int.toNat_natCast]; exact bitLen_nd t (by omega)
  have hn2 : nd 2 t ≤ 32 := nd_le 2 (by omega) t 32 (by omega)
  rw [hb, hs]
  unfold lz
  congr 2
  omega
 obtain ⟨m, hm⟩ : ∃ m, m + n = N + 1 := ⟨N + 1 - n, by omega⟩
 have hYl : y * 2 ^ s < 4294967296 ^ n := by rw [hs, ht, hn]; exact norm_lt y (p + 1) h1
 have hYt : 2147483648 ≤ dg (y * 2 ^ s) (p + 1) := by rw [hs, ht]; exact norm_top y (p + 1) h1
 have hXm : x * 2 ^ s < y * 2 ^ s * 4294967296 ^ m := by
  have := start_lt x y s N (p + 1) hxl h1 (by omega)
  rwa [show N - (p + 1) = m by omega] at this
 have hget : ∀ w : World, (w.alloc (.cells (arr .u32 (dg y) n) 228)).cell? ⟨w.heap.size, p + 1, none⟩ = some (.int .u32 (t : Int)) := fun w => by
  rw [World.cell?_alloc_new, arr_get _ _ _ _ (by omega), ht]
 have HMK := Lib.hid (fun w => makeOut m ((N : Int) + 1 - (n : Int)) w (by omega) (by omega))
 have e1 : (n : Int) - 1 = (p : Int) + 1 := by omega
 have e2 : ((n : Int) == 1) = false := by rw [beq_eq_false_iff_ne]; omega
 have e3 : (p : Int) + 1 < (n : Int) := by omega
 have HXL := Lib.hid hxl
 have HYL := Lib.hid hyl
 have HN := Lib.hid hn
 have HM := Lib.hid hm
 have HMW := Lib.hid (show wrap64 ((m : Int) - 1) = pre m by unfold wrap64 pre; omega)
 clear hw hc hcc hdx hdy h h1 hN hxl hyl hbig sx sy hs ht hn hm
 go_enter Tryz.func189, Tryz.ntmps189
 go_wp2_with fail
 (refine (H.out _).mono ?_; rintro e w' ⟨rfl, rfl⟩)
 go_wp2_with fail
 (go_wp2_with fail; refine (HC.out _).mono ?_; rintro e w' ⟨rfl, hb⟩; obtain ⟨u, rfl⟩ := World.plus_of_below hb; clear hb)
 have hb1 := World.below_plus w u
 generalize w.plus u = w1 at hb1 ⊢
 go_wp2_with fail
 refine (HY.out _).mono ?_
 rintro e w' ⟨rfl, k1, rfl⟩
 have hgt := hget w1
 go_wp2_with fail
 (refine (HLZ.out _).mono ?_; rintro e w' ⟨rfl, rfl⟩)
 go_wp2_with fail
 refine (HX.out _).mono ?_
 rintro e w' ⟨rfl, k2, rfl⟩
 go_wp2_with fail
 refine (shifted_c x s N N (w1.heap.size + 1) _ HXL.out (by omega) (fun j hj => by simp [go_sem, arr_get _ _ _ _ hj]) (by simp [go_sem]) hs32).mono ?_
 rintro e w' ⟨rfl, k3, rfl⟩
 go_wp2_with fail
 refine (shifted_c y s n n w1.heap.size _ HYL.out (by omega) (fun j hj => by simp [go_sem, arr_get _ _ _ _ hj]) (by simp [go_sem]) hs32).mono ?_
 rintro e w' ⟨rfl, k4, rfl⟩
 go_wp2_with fail
 have hmk := HMK.out
 simp only [hmk]
 clear hmk
 go_wp2_with fail
 obtain ⟨w2, hw2⟩ : ∃ w2, w2 = (((((w1.alloc (.cells (arr .u32 (dg y) n) 228)).alloc (.cells (arr .u32 (dg x) N) 228)).alloc (.cells (arr .u32 (dg (x * 2 ^ s)) (N + 1)) 228)).alloc (.cells (arr .u32 (dg (y * 2 ^ s)) (n + 1)) 228)).alloc (.cells (arr .u32 (fun _ => 0) m) 228)) := ⟨_, rfl⟩
 rw [← hw2]
 have hbw : Below w.heap.size w w2 := hb1.trans (Below.mono (by rw [hw2]; (repeat' (first | (with_reducible first | exact Below.refl _ _ | assumption | refine Below.plus0 ?_ _ | refine Below.row ?_ ?_ _ _ | refine Below.alloc0 ?_ _ | refine Below.plus ?_ ?_ _ | refine Below.alloc ?_ ?_ _ | refine Below.drew ?_ | refine Below.drewN ?_ _) | (simp [go_sem]; done) | (simp [go_sem]; omega)))) hb1.size)
 have hs2 : w2.heap.size = w1.heap.size + 1 + 1 + 1 + 1 + 1 := by rw [hw2]; simp
 have hgo : w2.heap[w1.heap.size + 1 + 1 + 1 + 1]? = some (.cells (arr .u32 (fun _ => 0) m) 228 (0, 0)) := by rw [hw2]; exact heap_at _ _ _ (by simp)
 have hgx : w2.heap[w1.heap.size + 1 + 1]? = some (.cells (arr .u32 (dg (x * 2 ^ s)) (N + 1)) 228 (0, 0)) := by rw [hw2, heap_alloc_old _ _ (show w1.heap.size + 1 + 1 < _ by simp), heap_alloc_old _ _ (show w1.heap.size + 1 + 1 < _ by simp)]; exact heap_at _ _ _ (by simp)
 have hgy : Row32 w2 (w1.heap.size + 1 + 1 + 1) n (dg (y * 2 ^ s)) := by intro j hj; rw [hw2]; simp [go_sem, arr_get _ _ _ _ (show j < n + 1 by omega)]
 have hws : w.heap.size ≤ w1.heap.size := hb1.size
 obtain ⟨ob, hob⟩ : ∃ b, b = w1.heap.size + 1 + 1 + 1 + 1 := ⟨_, rfl⟩
 rw [← hob] at hgo ⊢
 obtain ⟨yb, hyb⟩ : ∃ b, b = w1.heap.size + 1 + 1 + 1 := ⟨_, rfl⟩
 rw [← hyb] at hgy ⊢
 obtain ⟨xb, hxb⟩ : ∃ b, b = w1.heap.size + 1 + 1 := ⟨_, rfl⟩
 rw [← hxb] at hgx ⊢
 have n1 : yb ≠ xb := by omega
 have n2 : yb ≠ ob := by omega
 have n3 : xb ≠ ob := by omega
 have n4 : ob ≠ xb := by omega
 have l1 : xb < w2.heap.size := by omega
 have l2 : yb < w2.heap.size := by omega
 have l3 : ob < w2.heap.size := by omega
 have b1 : w.heap.size ≤ xb := by omega
 have b3 : w.heap.size ≤ ob := by omega
 obtain ⟨Y, hY⟩ : ∃ Y, Y = y * 2 ^ s := ⟨_, rfl⟩
 obtain ⟨A, hA⟩ : ∃ A, A = x * 2 ^ s := ⟨_, rfl⟩
 have hq : A / Y = x / y := by rw [hA, hY]; exact quo_shift x y s
 have hr : A % Y = x % y * 2 ^ s := by rw [hA, hY]; exact rem_shift x y s
 rw [← hY] at hYl hYt hXm hgy
 rw [← hA] at hXm hgx
 have HQ := Lib.hid hq
 have HQm := Lib.hid (Nat.div_lt_of_lt_mul hXm)
 have HRn := Lib.hid (Nat.lt_trans (Nat.mod_lt x (show 0 < y by
  rcases Nat.eq_zero_or_pos y with h0 | h0
  ·rw [hY, h0] at hYt; rw [Nat.zero_mul, dg_zero] at hYt; omega
  ·exact h0)) HYL.out)
 have HR := Lib.hid hr
 have HSX := Lib.hid (World.row_self w2 xb 228 _ hgx)
 have HSO := Lib.hid (World.row_self w2 ob 228 _ hgo)
 have HYl := Lib.hid hYl
 have HYt := Lib.hid hYt
 have HXm := Lib.hid (Nat.mod_eq_of_lt hXm)
 have HB := Lib.hid hbw
 have Hgy := Lib.hid hgy
 clear e1 e3 hq hr hw2 hob hyb hxb hs2 hb1 hgo hgx hgy hYl hYt hXm hbw hA hY hgt hget HX HY HC H HXL HYL HLZ HMK hws
 go_loopw [16] (fun v wr => ∃ j k : Nat, j ≤ m ∧ v = .int .i64 (pre j) ∧ wr = ((w2.row ob 228 (arr .u32 (outFn (A / Y) j) m)).row xb 228 (arr .u32 (dg (A % (Y * 4294967296 ^ j))) (N + 1))).drewN k) (fun v _ => (intOf v + 1).toNat)
 case atStart => exact ⟨m, _, Nat.le_refl _, by rw [HMW.out], by rw [HXm.out, ← outFn_top (A / Y) m m (Nat.le_refl _), HSO.out, HSX.out]⟩
 case round =>
  obtain ⟨j, k, hj, rfl, rfl⟩ := hrel
  cases j with
  | zero =>
   have e : pre 0 = -1 := rfl
   rw [e]
   obtain ⟨r, hrr⟩ : ∃ z, z = x % y := ⟨_, rfl⟩
   have hrn : r < 4294967296 ^ n := by rw [hrr]; exact HRn.out
   have hre : A % (Y * 4294967296 ^ 0) = r * 2 ^ s := by rw [Nat.pow_zero, Nat.mul_one, HR.out, hrr]
   have hqm : A / Y < 4294967296 ^ m := HQm.out
   obtain ⟨q, hqq⟩ : ∃ z, z = A / Y := ⟨_, rfl⟩
   rw [← hqq] at hqm
   rw [hre, outFn_zero, ← hqq]
   have HRN := Lib.hid hrn
   have HQM := Lib.hid hqm
   have HE1 : Hid (x / y = q) := Lib.hid (by rw [hqq, HQ.out])
   have HE2 : Hid (x % y = r) := Lib.hid hrr.symm
   have HMK2 := Lib.hid (make32 n · (by have := HM.out; omega))
   have hm := HM.out
   clear e hrn hre hqm hqq hrr HYt HXm HQ HQm HR HRn HSX HSO Hgy
   go_wp2_with fail
   have hmk := HMK2.out
   simp only [hmk]
   clear hmk
   go_wp2_with fail
   go_loopw [277] (fun v wr => ∃ k k3 : Nat, k ≤ n ∧ v = .int .i64 (k : Int) ∧ wr = (((w2.row ob 228 (arr .u32 (dg q) m)).row xb 228 (arr .u32 (dg (r * 2 ^ s)) (N + 1))).alloc (.cells (arr .u32 (lowFn r k) n) 228)).drewN k3) (fun v _ => n - (intOf v).toNat)
   case atStart => exact ⟨0, k, Nat.zero_le _, rfl, by rw [← lowFn_zero]⟩
   case round =>
    obtain ⟨k4, k3, hk, rfl, rfl⟩ := hrel
    by_cases hlt : k4 < n
    ·obtain ⟨k5, hk5⟩ : ∃ z, z = k4 + 1 := ⟨_, rfl⟩
     obtain ⟨ua, hua⟩ : ∃ z, z = dg (r * 2 ^ s) k4 := ⟨_, rfl⟩
     obtain ⟨ub, hub⟩ : ∃ z, z = dg (r * 2 ^ s) k5 := ⟨_, rfl⟩
     have hg1 := arr_get .u32 (dg (r * 2 ^ s)) (N + 1) k4 (by omega)
     have hg2 := arr_get .u32 (dg (r * 2 ^ s)) (N + 1) k5 (by omega)
     have hg3 := arr_get .u32 (lowFn r k4) n k4 hlt
     rw [← hua] at hg1
     rw [← hub] at hg2
     have huac : ua < 4294967296 := by rw [hua]; exact dg_lt _ _
     have hubc : ub < 4294967296 := by rw [hub]; exact dg_lt _ _
     have hor := or_shl32 ub ua hubc huac
     obtain ⟨z, hz⟩ : ∃ z, z = ub * 4294967296 + ua := ⟨_, rfl⟩
     rw [← hz] at hor
     have hzb : z < 18446744073709551616 := by omega
     have hbk := back_int r s k4 (by omega) z (by rw [hz, hub, hua, hk5])
     have HS3 := Lib.hid (lowFn_succ r k4)
     have s6 : (k4 : Int) + 1 = (k5 : Int) := by omega
     have s8 : (k5 : Int) < (N : Int) + 1 := by omega
     have s9 : (k4 : Int) < (N : Int) + 1 := by omega
     have hkn : (k4 : Int) < (n : Int) := by omega
     have Hk5 := Lib.hid hk5
     clear hua hub hz hk5
     go_wp2_with fail
     (refine wp_region_exact_t 19 (by kernel_rfl) (by kernel_rfl) ?_; simp only [List.take_succ_cons, List.take_zero, List.drop_succ_cons, List.drop_zero]; repeat go_big_quiet_step (fail)); (refine wpQuiet_nil ?_; rintro _ rfl)
     go_wp2_with fail
     exact ⟨⟨k5, k3 + 1, by have := Hk5.out; omega, rfl, by rw [arr_set, HS3.out, Hk5.out]⟩, by have := Hk5.out; simp [intOf]; omega⟩
    ·have e : n = k4 := by omega
     subst e
     have HLA := Lib.hid (lowFn_all r n)
     go_wp2_with fail
     rw [HLA.out]
     refine (bytes_c q m m ob _ HQM.out (by omega) (Nat.le_refl _) (fun j hj => by simp [go_sem, l1, l3, n3, n4, Nat.ne_of_lt l3, arr_get _ _ _ _ hj]) (by simp [go_sem]; omega)).mono ?_
     rintro e w' ⟨rfl, hb⟩
     obtain ⟨u2, rfl⟩ := World.plus_of_below hb
     clear hb
     go_wp2_with fail
     refine (bytes_c r n n w2.heap.size _ HRN.out (by omega) (Nat.le_refl _) (fun j hj => by simp [go_sem, arr_get _ _ _ _ hj]) (by simp [go_sem])).mono ?_
     rintro e w' ⟨rfl, hb⟩
     obtain ⟨u3, rfl⟩ := World.plus_of_below hb
     clear hb
     go_wp2_with fail
     go_ret2
     have hbw := HB.out
     rw [HE1.out, HE2.out]
     exact ⟨rfl, by (repeat' (first | (with_reducible first | exact Below.refl _ _ | assumption | refine Below.plus0 ?_ _ | refine Below.row ?_ ?_ _ _ | refine Below.alloc0 ?_ _ | refine Below.plus ?_ ?_ _ | refine Below.alloc ?_ ?_ _ | refine Below.drew ?_ | refine Below.drewN ?_ _) | (simp [go_sem]; done) | (simp [go_sem]; omega)))⟩
  | succ i =>
   have e : pre (i + 1) = (i : Int) := by unfold pre; omega
   rw [e]
   clear e
   obtain ⟨R, hR⟩ : ∃ R, R = A % (Y * 4294967296 ^ (i + 1)) := ⟨_, rfl⟩
   rw [← hR]
   have hn := HN.out
   have hm := HM.out
   have hy0 : 0 < Y := by
    rcases Nat.eq_zero_or_pos Y with h0 | h0
    ·have := HYt.out; subst h0; rw [dg_zero] at this; omega
    ·exact h0
   have hRl : R < 4294967296 ^ (i + n + 1) := by rw [hR]; exact rest_lt A Y i n HYl.out hy0
   have hUl : R / 4294967296 ^ i < Y * 4294967296 := by rw [hR]; exact rest_u A Y i hy0
   have hQ : R / 4294967296 ^ i / Y = dg (A / Y) i := by rw [hR]; exact rest_q A Y i
   have hnext : R - 4294967296 ^ i * (dg (A / Y) i * Y) = A % (Y * 4294967296 ^ i) := by rw [hR]; exact rest_next A Y i
   have hrle : 4294967296 ^ i * (dg (A / Y) i * Y) ≤ R := by rw [hR]; exact rest_le A Y i
   have hrgt : R < 4294967296 ^ i * ((dg (A / Y) i + 1) * Y) := by rw [hR]; exact rest_gt A Y i hy0
   obtain ⟨a0, ha0⟩ : ∃ a, a = i + n := ⟨_, rfl⟩
   obtain ⟨a1, ha1⟩ : ∃ a, a = i + (p + 1) := ⟨_, rfl⟩
   obtain ⟨a2, ha2⟩ : ∃ a, a = i + p := ⟨_, rfl⟩
   obtain ⟨q1, hq1⟩ : ∃ a, a = p + 1 := ⟨_, rfl⟩
   have hYp : Y < 4294967296 ^ (p + 2) := by rw [← hn]; exact HYl.out
   obtain ⟨u0, hu0⟩ : ∃ z, z = dg R a0 := ⟨_, rfl⟩
   obtain ⟨u1, hu1⟩ : ∃ z, z = dg R a1 := ⟨_, rfl⟩
   obtain ⟨u2, hu2⟩ : ∃ z, z = dg R a2 := ⟨_, rfl⟩
   obtain ⟨y1, hy1⟩ : ∃ z, z = dg Y (p + 1) := ⟨_, rfl⟩
   obtain ⟨y2, hy2⟩ : ∃ z, z = dg Y p := ⟨_, rfl⟩
   obtain ⟨Q, hQQ⟩ : ∃ z, z = dg (A / Y) i := ⟨_, rfl⟩
   obtain ⟨U, hU⟩ : ∃ z, z = R / 4294967296 ^ i := ⟨_, rfl⟩
   obtain ⟨hi, hhi⟩ : ∃ z, z = U / 4294967296 ^ (p + 1) := ⟨_, rfl⟩
   rw [← hU] at hUl hQ
   rw [← hQQ] at hQ hnext hrle hrgt
   have hy1b : 2147483648 ≤ y1 := by rw [hy1]; exact HYt.out
   have hy1c : y1 < 4294967296 := by rw [hy1]; exact dg_lt _ _
   have hy2c : y2 < 4294967296 := by rw [hy2]; exact dg_lt _ _
   have hu0c : u0 < 4294967296 := by rw [hu0]; exact dg_lt _ _
   have hu1c : u1 < 4294967296 := by rw [hu1]; exact dg_lt _ _
   have hu2c : u2 < 4294967296 := by rw [hu2]; exact dg_lt _ _
   have hQB : Q < 4294967296 := by rw [hQQ]; exact dg_lt _ _
   have hhi2 : u0 * 4294967296 + u1 = hi := by
    have z0 : u0 = dg U (p + 2) := by rw [hu0, ha0, hn, dg_div, hU]
    have z1 : u1 = dg U (p + 1) := by rw [hu1, ha1, dg_div, hU]
    rw [z0, z1, hhi]
    exact guess_hi U Y p hYp hUl
   have hhis : hi < y1 * 4294967296 + 4294967296 := by rw [hhi, hy1]; exact guess_small U Y p hYp hUl
   have hst : Q ≤ hi / y1 := by rw [← hQ, hhi, hy1]; exact guess_start U Y p hYp (by rw [← hy1]; omega)
   have HGS : Hid (∀ g r, g * y1 + r = hi → (4294967296 ≤ g ∨ r * 4294967296 + u2 < g * y2) → Q < g) := Lib.hid fun g r h1 h2 => by
    rw [← hQ]
    refine guess_step U Y p g r hYp hy0 hUl (by rw [← hy1, ← hhi]; exact h1) ?_
    have z2 : u2 = dg U p := by rw [hu2, ha2, dg_div, hU]
    rw [z2, hy2] at h2
    exact h2
   have HGE : Hid (∀ g r, g * y1 + r = hi → g < 4294967296 → g * y2 ≤ r * 4294967296 + u2 → g ≤ Q + 1) := Lib.hid fun g r h1 h3 h2 => by
    rw [← hQ]
    refine guess_end U Y p g r hYp (by rw [← hy1]; omega) (by rw [← hy1, ← hhi]; exact h1) h3 ?_
    have z2 : u2 = dg U p := by rw [hu2, ha2, dg_div, hU]
    rw [z2, hy2] at h2
    exact h2
   have hga0 := arr_get .u32 (dg R) (N + 1) a0 (by omega)
   have hga1 := arr_get .u32 (dg R) (N + 1) a1 (by omega)
   have hga2 := arr_get .u32 (dg R) (N + 1) a2 (by omega)
   rw [← hu0] at hga0
   rw [← hu1] at hga1
   rw [← hu2] at hga2
   have hgy1 := Hgy.out (p + 1) (by omega)
   rw [← hy1, ← hq1] at hgy1
   have hgy2 := Hgy.out p (by omega)
   rw [← hy2] at hgy2
   have f0 : (i : Int) + (n : Int) = (a0 : Int) := by omega
   have f1 : (a0 : Int) - 1 = (a1 : Int) := by omega
   have f2 : (a0 : Int) - 2 = (a2 : Int) := by omega
   have f3 : (n : Int) - 1 = (q1 : Int) := by omega
   have f4 : (n : Int) - 2 = (p : Int) := by omega
   have w0 : IntKind.i64.wrap ((i : Int) + (n : Int)) = (a0 : Int) := by rw [f0]; exact IntWalk.i64_in _ (by omega)
   have w1 : IntKind.i64.wrap ((a0 : Int) - 1) = (a1 : Int) := by rw [f1]; exact IntWalk.i64_in _ (by omega)
   have w2' : IntKind.i64.wrap ((a0 : Int) - 2) = (a2 : Int) := by rw [f2]; exact IntWalk.i64_in _ (by omega)
   have w3 : IntKind.i64.wrap ((n : Int) - 1) = (q1 : Int) := by rw [f3]; exact IntWalk.i64_in _ (by omega)
   have w4 : IntKind.i64.wrap ((n : Int) - 2) = (p : Int) := by rw [f4]; exact IntWalk.i64_in _ (by omega)
   have l0 : (a0 : Int) < (N : Int) + 1 := by omega
   have l1' : (a1 : Int) < (N : Int) + 1 := by omega
   have l2' : (a2 : Int) < (N : Int) + 1 := by omega
   have l3' : (q1 : Int) < (n : Int) := by omega
   have l4' : (p : Int) < (n : Int) := by omega
   have hor := or_shl32 u0 u1 hu0c hu1c
   rw [hhi2] at hor
   have hhb : hi < 18446744073709551616 := by omega
   have HNX := Lib.hid hnext
   have HRL := Lib.hid hrle
   have HRG := Lib.hid hrgt
   have HRl := Lib.hid hRl
   have HST := Lib.hid hst
   have HHS := Lib.hid hhis
   have Ha0 := Lib.hid ha0
   have Ha1 := Lib.hid ha1
   have Ha2 := Lib.hid ha2
   have Hu0 := Lib.hid hu0
   have HQQ := Lib.hid hQQ
   have Hhi2 := Lib.hid hhi2
   have hijm : i < m := by omega
   clear hR hn hm hRl hUl hQ hnext hrle hrgt ha0 ha1 ha2 hq1 hYp hu0 hu1 hu2 hy1 hy2 hQQ hU hhi hhi2 hhis hst
   go_wp2_with fail
   (refine wp_region_exact (by kernel_rfl) (by kernel_rfl) ?_; repeat go_big_quiet_step (fail)); (refine wpQuiet_nil ?_; rintro _ rfl)
   obtain ⟨g0, hg0⟩ : ∃ z, z = hi / y1 := ⟨_, rfl⟩
   obtain ⟨r0, hr0⟩ : ∃ z, z = hi % y1 := ⟨_, rfl⟩
   have v1 : (hi : Int).tdiv (y1 : Int) = (g0 : Int) := by rw [hg0]; exact Int.ofNat_tdiv hi y1
   have v2 : (hi : Int).tmod (y1 : Int) = (r0 : Int) := by rw [hr0]; exact Int.ofNat_tmod hi y1
   have v1' : (hi : Int) / (y1 : Int) = (g0 : Int) := by rw [hg0]; rfl
   have v2' : (hi : Int) % (y1 : Int) = (r0 : Int) := by rw [hr0]; rfl
   have v3 : ((y1 : Int) == 0) = false := by rw [beq_eq_false_iff_ne]; omega
   have hr0b : r0 < y1 := by rw [hr0]; exact Nat.mod_lt _ (by omega)
   have hgr : g0 * y1 + r0 = hi := by rw [hg0, hr0]; exact Nat.div_add_mod' hi y1
   have hg0Q : Q ≤ g0 := by rw [hg0]; exact HST.out
   have hg0b : g0 < 18446744073709551616 := by rw [hg0]; exact Nat.lt_of_le_of_lt (Nat.div_le_self _ _) hhb
   have v4 : IntKind.u64.wrap (g0 : Int) = (g0 : Int) := u64_of_nat g0 (by omega)
   have v5 : IntKind.u64.wrap (r0 : Int) = (r0 : Int) := u64_of_nat r0 (by omega)
   have hgB : g0 ≤ 4294967297 := by
    have h5 := HHS.out
    rw [hg0]
    have : hi / y1 < 4294967298 := by
     rw [Nat.div_lt_iff_lt_mul (by omega)]; omega
    omega
   clear hg0 hr0
   go_upto_region 20 with fail
   (refine wp_region_exact (by kernel_rfl) (by kernel_rfl) ?_; repeat go_big_quiet_step (fail)); (refine wpQuiet_nil ?_; rintro _ rfl)
   clear v1 v2 v1' v2' v3 v4 v5
   go_upto_block 2 with fail
   go_cut [18, 19] (fun g r wx => ∃ gn k2 : Nat, Q ≤ gn ∧ gn ≤ Q + 1 ∧ gn < 4294967296 ∧ g = .int .u64 (gn : Int) ∧ wx = ((w2.row ob 228 (arr .u32 (outFn (A / Y) (i + 1)) m)).row xb 228 (arr .u32 (dg R) (N + 1))).drewN k2)
   case first =>
    go_wp2_with fail
    go_loopw [18, 19] (fun g r wr => ∃ gn rn k2 : Nat, gn * y1 + rn = hi ∧ Q ≤ gn ∧ rn < 4294967296 ∧ gn ≤ 4294967297 ∧ g = .int .u64 (gn : Int) ∧ r = .int .u64 (rn : Int) ∧ wr = ((w2.row ob 228 (arr .u32 (outFn (A / Y) (i + 1)) m)).row xb 228 (arr .u32 (dg R) (N + 1))).drewN k2) (fun g _ _ => (intOf g).toNat)
    case atStart => exact ⟨g0, r0, k + 1 + 1, hgr, hg0Q, by omega, hgB, rfl, rfl, rfl⟩
    case round =>
     obtain ⟨gn, rn, k2, hgr2, hgQ, hrB, hgB2, rfl, rfl, rfl⟩ := hrel
     clear hgr hg0Q hgB hg0b hr0b
     by_cases hA : 4294967296 ≤ gn
     ·have t1 : (4294967296 : Int) ≤ (gn : Int) := by omega
      have hQg : Q < gn := by omega
      go_wp2_with fail
      (refine wp_region_exact (by kernel_rfl) (by kernel_rfl) ?_; repeat go_big_quiet_step (fail)); (refine wpQuiet_nil ?_; rintro _ rfl)
      obtain ⟨g', hg'⟩ : ∃ g', gn = g' + 1 := ⟨gn - 1, by omega⟩
      obtain ⟨rs, hrs⟩ : ∃ z, z = rn + y1 := ⟨_, rfl⟩
      have tw1 : IntKind.u64.wrap ((gn : Int) - 1) = (g' : Int) := by rw [IntKind.wrap_u64]; omega
      have tw2 : IntKind.u64.wrap ((rn : Int) + (y1 : Int)) = (rs : Int) := by rw [IntKind.wrap_u64]; omega
      have hm2 : g' * y1 + rs = hi := by rw [hrs, ← hgr2, hg', Nat.add_mul, Nat.one_mul]; omega
      have HM2 := Lib.hid hm2
      have Hg' := Lib.hid hg'
      have HgQ := Lib.hid (show Q ≤ g' by omega)
      have hgB3 : g' ≤ 4294967297 := by omega
      clear hg' hrs hgr2 hm2
      by_cases hrB2 : 4294967296 ≤ rs
      ·have t5 : (4294967296 : Int) ≤ (rs : Int) := by omega
       go_wp2_with fail
       go_meet
       case rel =>
        have hgg : g' < 4294967296 := by
         apply Nat.lt_of_not_le
         intro hge
         have h7 := Nat.mul_le_mul_right y1 hge
         have h8 := HM2.out
         have h9 := HHS.out
         omega
        have h10 : g' * y2 ≤ rs * 4294967296 + u2 := by
         have h11 : g' * y2 ≤ 4294967295 * 4294967295 := Nat.mul_le_mul (by omega) (by omega)
         omega
        exact ⟨g', k2 + 1, HgQ.out, HGE.out g' rs HM2.out hgg h10, hgg, rfl, rfl⟩
      ·have t5 : ¬ (4294967296 : Int) ≤ (rs : Int) := by omega
       go_wp2_with fail
       go_roundw
       case rel => exact ⟨g', rs, k2 + 1, HM2.out, HgQ.out, by omega, hgB3, rfl, rfl, rfl⟩
       case measure => have := Hg'.out; first | (simp [intOf]; done) | (simp [intOf]; omega)
     ·have t1 : ¬ (4294967296 : Int) ≤ (gn : Int) := by omega
      have td1 : decide ((4294967296 : Int) ≤ (gn : Int)) = false := decide_eq_false t1
      have tl1 : gn < 4294967296 := by omega
      obtain ⟨P, hP⟩ : ∃ P, P = gn * y2 := ⟨_, rfl⟩
      have hPb : P ≤ 4294967295 * 4294967295 := by rw [hP]; exact Nat.mul_le_mul (by omega) (by omega)
      have t2 : IntKind.u64.wrap ((gn : Int) * (y2 : Int)) = (P : Int) := by
       rw [← Int.natCast_mul, ← hP, IntKind.wrap_u64]; omega
      have hor2 := or_shl32 rn u2 hrB hu2c
      obtain ⟨z2, hz2⟩ : ∃ z, z = rn * 4294967296 + u2 := ⟨_, rfl⟩
      rw [← hz2] at hor2
      by_cases hC : z2 < P
      ·have t3 : (z2 : Int) < (P : Int) := by omega
       have hQg : Q < gn := HGS.out gn rn hgr2 (.inr (by rw [← hz2, ← hP]; exact hC))
       clear hP hz2
       go_wp2_with fail
       (refine wp_region_exact (by kernel_rfl) (by kernel_rfl) ?_; repeat go_big_quiet_step (fail)); (refine wpQuiet_nil ?_; rintro _ rfl)
       obtain ⟨g', hg'⟩ : ∃ g', gn = g' + 1 := ⟨gn - 1, by omega⟩
       obtain ⟨rs, hrs⟩ : ∃ z, z = rn + y1 := ⟨_, rfl⟩
       have tw1 : IntKind.u64.wrap ((gn : Int) - 1) = (g' : Int) := by rw [IntKind.wrap_u64]; omega
       have tw2 : IntKind.u64.wrap ((rn : Int) + (y1 : Int)) = (rs : Int) := by rw [IntKind.wrap_u64]; omega
       have hm2 : g' * y1 + rs = hi := by rw [hrs, ← hgr2, hg', Nat.add_mul, Nat.one_mul]; omega
       have HM2 := Lib.hid hm2
       have Hg' := Lib.hid hg'
       have HgQ := Lib.hid (show Q ≤ g' by omega)
       have hgB3 : g' ≤ 4294967297 := by omega
       clear hg' hrs hgr2 hm2
       by_cases hrB2 : 4294967296 ≤ rs
       ·have t5 : (4294967296 : Int) ≤ (rs : Int) := by omega
        go_wp2_with fail
        go_meet
        case rel =>
         have hgg : g' < 4294967296 := by
          apply Nat.lt_of_not_le
          intro hge
          have h7 := Nat.mul_le_mul_right y1 hge
          have h8 := HM2.out
          have h9 := HHS.out
          omega
         have h10 : g' * y2 ≤ rs * 4294967296 + u2 := by
          have h11 : g' * y2 ≤ 4294967295 * 4294967295 := Nat.mul_le_mul (by omega) (by omega)
          omega
         exact ⟨g', k2 + 1, HgQ.out, HGE.out g' rs HM2.out hgg h10, hgg, rfl, rfl⟩
       ·have t5 : ¬ (4294967296 : Int) ≤ (rs : Int) := by omega
        go_wp2_with fail
        go_roundw
        case rel => exact ⟨g', rs, k2 + 1, HM2.out, HgQ.out, by omega, hgB3, rfl, rfl, rfl⟩
        case measure => have := Hg'.out; first | (simp [intOf]; done) | (simp [intOf]; omega)
      ·have t3 : ¬ (z2 : Int) < (P : Int) := by omega
       have td3 : decide ((z2 : Int) < (P : Int)) = false := decide_eq_false t3
       have hge := HGE.out gn rn hgr2 (by omega) (by rw [← hz2, ← hP]; omega)
       clear hP hz2
       go_wp2_with fail
       (refine wp_region_exact (by kernel_rfl) (by kernel_rfl) ?_; repeat go_big_quiet_step (fail)); (refine wpQuiet_nil ?_; rintro _ rfl)
       go_wp2_with fail
       go_meet
       case rel => exact ⟨gn, k2 + 1, hgQ, hge, by omega, rfl, rfl⟩
   case rest =>
    obtain ⟨gn, k2, hg1, hg2, hg3, rfl, rfl⟩ := hcut
    have hn := HN.out
    have hV : gn * Y ≤ 4294967296 ^ (n + 1) := by
     rw [pw, Nat.mul_comm]
     exact Nat.mul_le_mul (Nat.le_of_lt HYl.out) (Nat.le_of_lt hg3)
    have HV := Lib.hid hV
    obtain ⟨T, hT⟩ : ∃ T, T = kT R (gn * Y) n i := ⟨_, rfl⟩
    have HSL := Lib.hid (subFn_low R (gn * Y) n i hV)
    rw [← hT] at HSL
    have HT := Lib.hid hT
    have HM0 := Lib.hid (my_zero T gn Y i)
    clear hV hT hn hgr hg0Q hg0b hgB hr0b w1 w2' w3 w4 f1 f2 f3 f4 l1' l2' l3' l4' hor hhb hga1 hga2 hgy1 hgy2 HGS HGE HST HHS
    go_wp2_with fail
    go_loopw [20, 21, 168] (fun b c v wr => ∃ k bn cn : Nat, k ≤ n ∧ v = .int .i64 (k : Int) ∧ b = .int .i64 (bn : Int) ∧ c = .int .u64 (cn : Int) ∧ bn ≤ 1 ∧ cn < 4294967296 ∧ Hid (cn + bn = my T gn Y i k) ∧ wr = ((w2.row ob 228 (arr .u32 (outFn (A / Y) (i + 1)) m)).row xb 228 (arr .u32 (subFn R T i k) (N + 1))).drewN k2) (fun _ _ v _ => n - (intOf v).toNat)
    case atStart => exact ⟨0, 0, 0, Nat.zero_le _, rfl, rfl, rfl, by omega, by omega, Lib.hid (by rw [HM0.out]), by rw [← HSL.out]⟩
    case round =>
     obtain ⟨k, bn, cn, hk, rfl, rfl, rfl, hbn, hcn, HCk, rfl⟩ := hrel
     have hm := HM.out
     by_cases hlt : k < n
     ·obtain ⟨ak, hak⟩ : ∃ z, z = i + k := ⟨_, rfl⟩
      obtain ⟨rk, hrk⟩ : ∃ z, z = dg R ak := ⟨_, rfl⟩
      obtain ⟨yk, hyk⟩ : ∃ z, z = dg Y k := ⟨_, rfl⟩
      obtain ⟨tk, htk⟩ : ∃ z, z = dg T ak := ⟨_, rfl⟩
      have hgk := arr_get .u32 (subFn R T i k) (N + 1) ak (by omega)
      rw [show subFn R T i k ak = rk by rw [hak, subFn_at, hrk, hak]] at hgk
      have hgyk := Hgy.out k hlt
      rw [← hyk] at hgyk
      have hst := kT_step R gn Y n i k HV.out (by omega)
      rw [← HT.out, ← HCk.out, ← hak, ← hrk, ← hyk, ← htk] at hst
      have hrkc : rk < 4294967296 := by rw [hrk]; exact dg_lt _ _
      have hykc : yk < 4294967296 := by rw [hyk]; exact dg_lt _ _
      have htkc : tk < 4294967296 := by rw [htk]; exact dg_lt _ _
      obtain ⟨C1, hC1⟩ : ∃ z, z = my T gn Y i (k + 1) := ⟨_, rfl⟩
      rw [← hC1] at hst
      obtain ⟨P, hP⟩ : ∃ P, P = gn * yk := ⟨_, rfl⟩
      have hPb : P ≤ 4294967295 * 4294967295 := by rw [hP]; exact Nat.mul_le_mul (by omega) (by omega)
      have s1 : IntKind.u64.wrap ((gn : Int) * (yk : Int)) = (P : Int) := by
       rw [← Int.natCast_mul, ← hP, IntKind.wrap_u64]; omega
      rw [← hP] at hst
      obtain ⟨S, hS⟩ : ∃ z, z = cn + P := ⟨_, rfl⟩
      have s2 : IntKind.u64.wrap ((cn : Int) + (P : Int)) = (S : Int) := by rw [IntKind.wrap_u64]; omega
      obtain ⟨lo, hlo⟩ : ∃ z, z = S % 4294967296 := ⟨_, rfl⟩
      obtain ⟨hiS, hhiS⟩ : ∃ z, z = S / 4294967296 := ⟨_, rfl⟩
      have s3 : (S : Int) % 4294967296 = (lo : Int) := by omega
      have s4 : (S : Int) / 4294967296 = (hiS : Int) := by omega
      have hloc : lo < 4294967296 := by omega
      have hhic : hiS < 4294967296 := by omega
      obtain ⟨dI, hdI⟩ : ∃ z : Int, z = (rk : Int) - (bn : Int) - (lo : Int) := ⟨_, rfl⟩
      have s5 : (rk : Int) - (bn : Int) - (lo : Int) = dI := hdI.symm
      have s6 : (k : Int) + (i : Int) = (ak : Int) := by omega
      have s7 : IntKind.i64.wrap ((k : Int) + (i : Int)) = (ak : Int) := by rw [s6]; exact IntWalk.i64_in _ (by omega)
      have s8 : (ak : Int) < (N : Int) + 1 := by omega
      have s9 : (tk : Int) % 4294967296 = (tk : Int) := by omega
      have HS3 := Lib.hid (subFn_succ R T i k)
      rw [← hak, ← htk] at HS3
      have hkn : (k : Int) < (n : Int) := by omega
      by_cases hneg : dI < 0
      ·have s10 : dI + 4294967296 = (tk : Int) := by omega
       have HC2 : Hid (hiS + 1 = my T gn Y i (k + 1)) := Lib.hid (by rw [← hC1]; omega)
       clear hak hrk hyk htk hst hC1 hP hS hlo hhiS hdI
       go_wp2_with fail
       exact ⟨⟨k + 1, 1, hiS, by omega, by go_num, rfl, rfl, by omega, hhic, HC2, by rw [arr_set, HS3.out]⟩, by simp [intOf]; omega⟩
      ·have s10 : dI = (tk : Int) := by omega
       have HC2 : Hid (hiS + 0 = my T gn Y i (k + 1)) := Lib.hid (by rw [← hC1]; omega)
       clear hak hrk hyk htk hst hC1 hP hS hlo hhiS hdI
       go_wp2_with fail
       exact ⟨⟨k + 1, 0, hiS, by omega, by go_num, rfl, rfl, by omega, hhic, HC2, by rw [arr_set, HS3.out]⟩, by simp [intOf]; omega⟩
     ·have e : n = k := by omega
      subst e
      obtain ⟨tk, htk⟩ : ∃ z, z = dg T a0 := ⟨_, rfl⟩
      have htkc : tk < 4294967296 := by rw [htk]; exact dg_lt _ _
      have hga := arr_get .u32 (subFn R T i n) (N + 1) a0 (by omega)
      rw [show subFn R T i n a0 = u0 by rw [Ha0.out, subFn_at, Hu0.out, Ha0.out]] at hga
      have hst := kT_step R gn Y n i n HV.out (Nat.le_refl _)
      have hlast := kT_last R gn Y n i HYl.out HRl.out HV.out
      rw [← HT.out] at hst hlast
      rw [← HCk.out, ← Ha0.out, ← Hu0.out, ← htk, dg_big Y n n HYl.out (Nat.le_refl _), Nat.mul_zero, hlast] at hst
      have HF0 : Hid (upd (subFn R T i n) a0 tk = dg (T % 4294967296 ^ (i + n + 1))) := Lib.hid (by rw [htk, Ha0.out, subFn_succ, subFn_top R T n i HRl.out])
      have hgob := arr_get .u32 (outFn (A / Y) (i + 1)) m i hijm
      have him : (i : Int) < (m : Int) := by omega
      rcases (by omega : gn = Q ∨ gn = Q + 1) with hgq | hgq
      ·have hnl : ¬ R < 4294967296 ^ i * (gn * Y) := by rw [hgq]; exact Nat.not_lt.2 HRL.out
       rw [if_neg hnl] at hst
       have s5 : (u0 : Int) - (bn : Int) - (cn : Int) = (tk : Int) := by omega
       have s9 : (tk : Int) % 4294967296 = (tk : Int) := by omega
       have s10 : ¬ ((tk : Int) < 0) := by omega
       have s11 : (gn : Int) % 4294967296 = (gn : Int) := by omega
       have HF : Hid (upd (subFn R T i n) a0 tk = dg (A % (Y * 4294967296 ^ i))) := Lib.hid (by
        rw [HF0.out, HT.out, kT_fits R gn Y n i HRl.out HV.out hnl, hgq, HNX.out])
       have HO : Hid (upd (outFn (A / Y) (i + 1)) i gn = outFn (A / Y) i) := Lib.hid (by rw [hgq, HQQ.out, outFn_succ])
       clear hst hlast htk hnl hgq
       go_wp2_with fail
       exact ⟨⟨i, k2, by omega, rfl, by rw [arr_set, HO.out, arr_set, HF.out]⟩, by simp [intOf]⟩
      ·have hnl : R < 4294967296 ^ i * (gn * Y) := by rw [hgq]; exact HRG.out
       rw [if_pos hnl] at hst
       obtain ⟨dI, hdI⟩ : ∃ z : Int, z = (u0 : Int) - (bn : Int) - (cn : Int) := ⟨_, rfl⟩
       have s5 : (u0 : Int) - (bn : Int) - (cn : Int) = dI := hdI.symm
       have s10 : dI < 0 := by omega
       have s9 : dI % 4294967296 = (tk : Int) := by omega
       have s12 : IntKind.u64.wrap ((gn : Int) - 1) = (Q : Int) := by rw [IntKind.wrap_u64]; omega
       have s13 : (Q : Int) % 4294967296 = (Q : Int) := by omega
       have hTl : T < 4294967296 ^ (i + n + 1) := by rw [HT.out]; exact kT_over R gn Y n i HRl.out HV.out hnl
       have HF : Hid (upd (subFn R T i n) a0 tk = dg T) := Lib.hid (by rw [HF0.out, Nat.mod_eq_of_lt hTl])
       obtain ⟨t', ht'⟩ : ∃ z, z = T + 4294967296 ^ i * (1 * Y) := ⟨_, rfl⟩
       have HZ := Lib.hid (mulFn_zero T (1 * Y) i (N + 1))
       rw [← ht'] at HZ
       have HBA : Hid (t' % 4294967296 ^ (i + n + 1) = A % (Y * 4294967296 ^ i)) := Lib.hid (by
        have hv := HV.out
        have hr2 := HRG.out
        have ht2 := HT.out
        rw [hgq] at hv ht2
        rw [ht', ht2, back_all R Q Y n i HRl.out hv hr2 HRL.out, HNX.out])
       have HTT := Lib.hid ht'
       have HTL := Lib.hid hTl
       have HO : Hid (upd (outFn (A / Y) (i + 1)) i Q = outFn (A / Y) i) := Lib.hid (by rw [HQQ.out, outFn_succ])
       have HM1 := Lib.hid (my_zero T 1 Y i)
       have Htk := Lib.hid htk
       clear hst hlast htk hnl hgq hdI hTl ht' HF0
       go_wp2_with fail
       go_loopw [25, 231] (fun c v wr => ∃ k k3 : Nat, k ≤ n ∧ v = .int .i64 (k : Int) ∧ c = .int .u64 (my T 1 Y i k : Int) ∧ wr = ((w2.row ob 228 (arr .u32 (outFn (A / Y) (i + 1)) m)).row xb 228 (arr .u32 (mulFn T t' i k) (N + 1))).drewN k3) (fun _ v _ => n - (intOf v).toNat)
       case atStart => exact ⟨0, k2, Nat.zero_le _, rfl, by rw [HM1.out]; rfl, by rw [arr_set, HF.out, HZ.out]⟩
       case round =>
        obtain ⟨k, k3, hk, rfl, rfl, rfl⟩ := hrel
        by_cases hlt : k < n
        ·obtain ⟨ak, hak⟩ : ∃ z, z = i + k := ⟨_, rfl⟩
         obtain ⟨tk2, htk2⟩ : ∃ z, z = dg T ak := ⟨_, rfl⟩
         obtain ⟨yk, hyk⟩ : ∃ z, z = dg Y k := ⟨_, rfl⟩
         have hgk := arr_get .u32 (mulFn T t' i k) (N + 1) ak (by omega)
         rw [show mulFn T t' i k ak = tk2 by rw [hak, mulFn_at, htk2, hak]] at hgk
         have hgyk := Hgy.out k hlt
         rw [← hyk] at hgyk
         have hst := my_step T 1 Y i k
         rw [← HTT.out, ← hak, ← htk2, ← hyk, Nat.one_mul] at hst
         have hykc : yk < 4294967296 := by rw [hyk]; exact dg_lt _ _
         have htkc2 : tk2 < 4294967296 := by rw [htk2]; exact dg_lt _ _
         have hmc := my_lt T 1 Y i k (by omega)
         have hzc : dg t' ak < 4294967296 := dg_lt _ _
         obtain ⟨mk, hmk⟩ : ∃ z, z = my T 1 Y i k := ⟨_, rfl⟩
         rw [← hmk] at hst hmc ⊢
         obtain ⟨S1, hS1⟩ : ∃ z, z = tk2 + yk := ⟨_, rfl⟩
         obtain ⟨S, hS⟩ : ∃ z, z = mk + S1 := ⟨_, rfl⟩
         have z1 : IntKind.u64.wrap ((tk2 : Int) + (yk : Int)) = (S1 : Int) := by rw [IntKind.wrap_u64]; omega
         have z2 : IntKind.u64.wrap ((mk : Int) + (S1 : Int)) = (S : Int) := by rw [IntKind.wrap_u64]; omega
         have z3 : (S : Int) % 4294967296 = (dg t' ak : Int) := by omega
         have z4 : (S : Int) / 4294967296 = (my T 1 Y i (k + 1) : Int) := by omega
         have s6 : (k : Int) + (i : Int) = (ak : Int) := by omega
         have s7 : IntKind.i64.wrap ((k : Int) + (i : Int)) = (ak : Int) := by rw [s6]; exact IntWalk.i64_in _ (by omega)
         have s8 : (ak : Int) < (N : Int) + 1 := by omega
         have HS3 := Lib.hid (mulFn_succ T t' i k)
         rw [← hak] at HS3
         have hkn : (k : Int) < (n : Int) := by omega
         clear hak htk2 hyk hst hmk hS1 hS
         go_wp2_with fail
         (refine wp_region_exact (by kernel_rfl) (by kernel_rfl) ?_; repeat go_big_quiet_step (fail)); (refine wpQuiet_nil ?_; rintro _ rfl)
         go_wp2_with fail
         exact ⟨⟨k + 1, k3 + 1, by omega, by go_num, rfl, by rw [arr_set, HS3.out]⟩, by simp [intOf]; omega⟩
        ·have e : n = k := by omega
         subst e
         have hga2 := arr_get .u32 (mulFn T t' i n) (N + 1) a0 (by omega)
         rw [show mulFn T t' i n a0 = tk by rw [Ha0.out, mulFn_at, Htk.out, Ha0.out]] at hga2
         have hst := my_step T 1 Y i n
         rw [← HTT.out, ← Ha0.out, ← Htk.out, dg_big Y n n HYl.out (Nat.le_refl _)] at hst
         have hmc := my_lt T 1 Y i n (by omega)
         obtain ⟨mk, hmk⟩ : ∃ z, z = my T 1 Y i n := ⟨_, rfl⟩
         rw [← hmk] at hst hmc ⊢
         obtain ⟨zz, hzz⟩ : ∃ z, z = dg t' a0 := ⟨_, rfl⟩
         have hzzc : zz < 4294967296 := by rw [hzz]; exact dg_lt _ _
         rw [← hzz] at hst
         have z1 : (mk : Int) % 4294967296 = (mk : Int) := by omega
         have z2 : IntKind.u32.wrap ((tk : Int) + (mk : Int)) = (zz : Int) := by rw [IntKind.wrap_u32]; omega
         have HG : Hid (upd (mulFn T t' i n) a0 zz = dg (A % (Y * 4294967296 ^ i))) := Lib.hid (by rw [hzz, Ha0.out, mulFn_succ, mulFn_top T t' i n HTL.out, HBA.out])
         clear hst hmk hzz
         go_wp2_with fail
         exact ⟨⟨i, k3, by omega, rfl, by rw [arr_set, HO.out, arr_set, HG.out]⟩, by simp [intOf]⟩
theorem div_ok (x y : Nat) (sx : (mag x).size ≤ 4294967296) (sy : (mag y).size ≤ 4294967296) (hy : 0 < y) : DivOk x y := by
 by_cases hb : (fits8 x && fits8 y) = true
 ·rw [Bool.and_eq_true] at hb
  exact div_small x y hb.1 hb.2 hy
 ·have hb2 : (fits8 x && fits8 y) = false := by simpa using hb
  by_cases h : x < y
  ·exact div_less x y sx sy hb2 h
  ·have hp := nd_pos 4294967296 (by omega) y hy
   by_cases h1 : nd 4294967296 y = 1
   ·exact div_one x y sx sy hb2 h h1
   ·exact div_big x y (nd 4294967296 y - 2) _ sx sy hb2 h (by omega) rfl
theorem DivMod_c (x y : Int) (w : World) (hy : y ≠ 0) (sx : (mg x).size ≤ 4294967295) (sy : (mg y).size ≤ 4294967296) : Calls Tryz.prog 198 #[.agg #[.bool (sg x), .string (mg x)], .agg #[.bool (sg y), .string (mg y)]] w fun e w' => e = .returned (.tuple #[.agg #[.bool (sg (x / y)), .string (mg (x / y))], .agg #[.bool (sg (x % y)), .string (mg (x % y))], .int .i64 0]) ∧ Below w.heap.size w w' :=
 DivMod_of x y w hy sx sy (div_ok _ _ (by show (mag x.natAbs).size ≤ _; exact Nat.le_trans sx (by omega)) sy (by omega))
end Go.Proofs.YtlblfgbpogljoaaGreatDoor

end
section
namespace Go.Proofs.YtlblfgbpogljoaaGreatDoor
open Go Go.RowKit
open Vi
def strOf : Value → ByteArray | .string s => s | _ => ⟨#[]⟩
set_option maxRecDepth 100000 in
set_option maxHeartbeats 1600000 in
theorem Gcd_c (a b : Int) (g : Int) (hg : g = (Nat.gcd a.natAbs b.natAbs : Nat)) (w : World) (ha : (mg a).size ≤ 4294967290) (hb : (mg b).size ≤ 4294967290) : Calls Tryz.prog 163 #[.agg #[.bool (sg a), .string (mg a)], .agg #[.bool (sg b), .string (mg b)]] w fun e w' => e = .returned (.agg #[.bool (sg g), .string (mg g)]) ∧ Below w.heap.size w w' := by
 obtain ⟨G, hG⟩ : ∃ G, G = Nat.gcd a.natAbs b.natAbs := ⟨_, rfl⟩
 rw [← hG] at hg
 have ea : mg a = mag a.natAbs := rfl
 have eb : mg b = mag b.natAbs := rfl
 obtain ⟨X0, hX0⟩ : ∃ X, X = a.natAbs := ⟨_, rfl⟩
 obtain ⟨Y0, hY0⟩ : ∃ X, X = b.natAbs := ⟨_, rfl⟩
 rw [← hX0] at ea hG
 rw [← hY0] at eb hG
 rw [ea] at ha ⊢
 rw [eb] at hb ⊢
 have HG := Lib.hid hG
 have HM : Hid (∀ w, Calls Tryz.prog 167 #[.bool false, .string (mag G)] w fun e w' => e = .returned (.agg #[.bool (sg g), .string (mg g)]) ∧ Below w.heap.size w w') := Lib.hid fun w => made_c false g G (by rw [hg]; rfl) w
 clear ea eb hX0 hY0 hG hg
 obtain ⟨sa, hsa⟩ : ∃ s, s = sg a := ⟨_, rfl⟩
 obtain ⟨sb, hsb⟩ : ∃ s, s = sg b := ⟨_, rfl⟩
 rw [← hsa, ← hsb]
 clear hsa hsb
 go_enter Tryz.func163, Tryz.ntmps163
 go_wp2_with fail
 (refine wp_region_exact (by kernel_rfl) (by kernel_rfl) ?_; repeat go_big_quiet_step (fail)); (refine wpQuiet_nil ?_; rintro _ rfl)
 go_wp2_with fail
 go_loopw [5, 6] (fun x y wr => ∃ (X Y : Nat) (u' : World), Hid (Nat.gcd X Y = G) ∧ (mag X).size ≤ 4294967290 ∧ (mag Y).size ≤ 4294967290 ∧ x = .string (mag X) ∧ y = .string (mag Y) ∧ wr = (((w.alloc (.cells #[.bool sa, .string (mag X0)] 26)).alloc (.cells #[.bool sb, .string (mag Y0)] 26)).alloc (.cells #[.bool false, .string ⟨#[]⟩] 26)).plus u') (fun _ y _ => num (strOf y))
 case atStart =>
  obtain ⟨u', hu⟩ := World.plus_of_below (w := (((w.alloc (.cells #[.bool sa, .string (mag X0)] 26)).alloc (.cells #[.bool sb, .string (mag Y0)] 26)).alloc (.cells #[.bool false, .string ⟨#[]⟩] 26))) (w' := (((w.alloc (.cells #[.bool sa, .string (mag X0)] 26)).alloc (.cells #[.bool sb, .string (mag Y0)] 26)).alloc (.cells #[.bool false, .string ⟨#[]⟩] 26)).drew) ((Below.refl _ _).drew)
  exact ⟨X0, Y0, u', Lib.hid HG.out.symm, ha, hb, rfl, rfl, hu⟩
 case round =>
  obtain ⟨X, Y, u', HX, hx, hy, rfl, rfl, rfl⟩ := hrel
  by_cases h0 : Y = 0
  ·subst h0
   have e : X = G := by rw [← HX.out, Nat.gcd_zero_right]
   rw [e, mag_zero]
   go_wp2_with fail
   (go_wp2_with fail; refine (HM.out _).mono ?_; rintro e w' ⟨rfl, hb⟩; (first | (with_reducible (have hb2 := World.plus_of_below ((World.below_plus _ _).trans (hb.mono (World.size_plus _ _)))); obtain ⟨u, rfl⟩ := hb2) | (obtain ⟨u, rfl⟩ := World.plus_of_below hb)); clear hb)
   go_wp2_with fail
   refine bodyPost_ret (by simp [results, Tryz.results163, go_sem]; rfl) rfl ?_
   exact ⟨rfl, by (exact belA)⟩
  ·have hne : (mag Y).toList.isEmpty = false := mag_empty_not Y h0
   have hw := fun w => words_c X Y w (by omega) (by omega)
   by_cases hf : (fits8 X && fits8 Y) = true
   ·rw [hf] at hw
    rw [Bool.and_eq_true] at hf
    rw [wv_of X hf.1, wv_of Y hf.2] at hw
    have H := Lib.hid hw
    have lX : X < 18446744073709551616 := by have := fits8_iff X; rw [hf.1] at this; simpa using this.symm
    have lY : Y < 18446744073709551616 := by have := fits8_iff Y; rw [hf.2] at this; simpa using this.symm
    clear hw hf
    go_wp2_with fail
    (refine (H.out _).mono ?_; rintro e w' ⟨rfl, rfl⟩)
    go_wp2_with fail
    go_loopw [7, 8] (fun p q wr => ∃ (u v : Nat) (u' : World), Hid (Nat.gcd u v = G) ∧ u < 18446744073709551616 ∧ v < 18446744073709551616 ∧ p = .int .u64 (u : Int) ∧ q = .int .u64 (v : Int) ∧ wr = (((w.alloc (.cells #[.bool sa, .string (mag X0)] 26)).alloc (.cells #[.bool sb, .string (mag Y0)] 26)).alloc (.cells #[.bool false, .string ⟨#[]⟩] 26)).plus u') (fun _ q _ => (intOf q).toNat)
    case atStart => exact ⟨X, Y, u', HX, lX, lY, rfl, rfl, rfl⟩
    case round =>
     obtain ⟨u, v, u2, HU, lu, lv, rfl, rfl, rfl⟩ := hrel
     by_cases hv : v = 0
     ·subst hv
      have e : u = G := by rw [← HU.out, Nat.gcd_zero_right]
      rw [show ((0 : Nat) : Int) = 0 from rfl, e]
      rw [e] at lu
      have HMG := Lib.hid (fun w => magnitude_c G w lu)
      clear e HU
      go_wp2_with fail
      (go_wp2_with fail; refine (HMG.out _).mono ?_; rintro e w' ⟨rfl, hb⟩; (first | (with_reducible (have hb2 := World.plus_of_below ((World.below_plus _ _).trans (hb.mono (World.size_plus _ _)))); obtain ⟨u, rfl⟩ := hb2) | (obtain ⟨u, rfl⟩ := World.plus_of_below hb)); clear hb)
      go_wp2_with fail
      (go_wp2_with fail; refine (HM.out _).mono ?_; rintro e w' ⟨rfl, hb⟩; (first | (with_reducible (have hb2 := World.plus_of_below ((World.below_plus _ _).trans (hb.mono (World.size_plus _ _)))); obtain ⟨u, rfl⟩ := hb2) | (obtain ⟨u, rfl⟩ := World.plus_of_below hb)); clear hb)
      go_wp2_with fail
      refine bodyPost_ret (by simp [results, Tryz.results163, go_sem]; rfl) rfl ?_
      exact ⟨rfl, by (exact belA)⟩
     ·obtain ⟨r, hr⟩ : ∃ z, z = u % v := ⟨_, rfl⟩
      have HN : Hid (Nat.gcd v r = G) := Lib.hid (by rw [hr, ← HU.out, Nat.gcd_comm u v, Nat.gcd_rec v u, Nat.gcd_comm])
      have hrl : r < v := by rw [hr]; exact Nat.mod_lt _ (by omega)
      have HRL := Lib.hid hrl
      have e1 : (u : Int).tmod (v : Int) = (r : Int) := by rw [hr]; exact Int.ofNat_tmod u v
      have e2 : ((v : Int) == 0) = false := by rw [beq_eq_false_iff_ne]; omega
      have e3 : IntKind.u64.wrap (r : Int) = (r : Int) := u64_of_nat r (by omega)
      have lr : r < 18446744073709551616 := by omega
      clear hr hrl
      go_wp2_with fail
      ((first | (with_reducible refine wp_region_steady_plus (by kernel_rfl) (by kernel_rfl) ?_) | refine wp_region_steady (by kernel_rfl) (by kernel_rfl) ?_); repeat go_big_quiet_step (fail)); (refine wpQuiet_nil ?_; rintro _ ⟨u, rfl⟩)
      clear e1
      go_wp2_with fail
      exact ⟨⟨v, r, _, HN, lv, lr, rfl, rfl, rfl⟩, by have := HRL.out; simp [intOf]; omega⟩
   ·have hf2 : (fits8 X && fits8 Y) = false := by simpa using hf
    rw [hf2] at hw
    have H := Lib.hid hw
    have hd := div_ok X Y (by omega) (by omega) (by omega)
    obtain ⟨q, hq⟩ : ∃ z, z = X / Y := ⟨_, rfl⟩
    obtain ⟨r, hr⟩ : ∃ z, z = X % Y := ⟨_, rfl⟩
    have HD : Hid (∀ w, Calls Tryz.prog 189 #[.string (mag X), .string (mag Y)] w fun e w' => e = .returned (.tuple #[.string (mag q), .string (mag r)]) ∧ Below w.heap.size w w') := Lib.hid fun w => by rw [hq, hr]; exact hd w
    have HN : Hid (Nat.gcd Y r = G) := Lib.hid (by rw [hr, ← HX.out, Nat.gcd_comm X Y, Nat.gcd_rec Y X, Nat.gcd_comm])
    have hrl : r < Y := by rw [hr]; exact Nat.mod_lt _ (by omega)
    have hrs : (mag r).size ≤ 4294967290 := Nat.le_trans (size_mag_mono r Y (by omega)) hy
    have HRL := Lib.hid hrl
    clear hw hf hf2 hd hq hr hrl
    go_wp2_with fail
    (refine (H.out _).mono ?_; rintro e w' ⟨rfl, rfl⟩)
    go_wp2_with fail
    (go_wp2_with fail; refine (HD.out _).mono ?_; rintro e w' ⟨rfl, hb⟩; (first | (with_reducible (have hb2 := World.plus_of_below ((World.below_plus _ _).trans (hb.mono (World.size_plus _ _)))); obtain ⟨u, rfl⟩ := hb2) | (obtain ⟨u, rfl⟩ := World.plus_of_below hb)); clear hb)
    go_wp2_with fail
    exact ⟨⟨Y, r, u, HN, hy, hrs, rfl, rfl, rfl⟩, by show num (mag r) < num (mag Y); rw [num_mag, num_mag]; exact HRL.out⟩
end Go.Proofs.YtlblfgbpogljoaaGreatDoor

end
section
namespace Go.Proofs.YtlblfgbpogljoaaGreatDoor
open Go Go.RowKit
open Vi
theorem v1 : (Value.agg #[.bool (sg (-7 % 2)), .string (mg (-7 % 2))]) = .agg #[.bool false, .string ⟨#[1]⟩] := by
 rw [show sg (-7 % 2) = false by decide, show mg (-7 % 2) = ⟨#[1]⟩ by decide]
end Go.Proofs.YtlblfgbpogljoaaGreatDoor

end
section
namespace Go.Proofs.YtlblfgbpogljoaaGreatDoor
open Go Go.RowKit
open Vi
def d8 (x i : Nat) : Nat := x / 256 ^ i % 256
theorem d8_lt (x i : Nat) : d8 x i < 256 := Nat.mod_lt _ (by omega)
def dvals (x k : Nat) : List Value := (List.range k).map fun i => Value.int .i64 (d8 x i : Nat)
theorem dvals_length (x k : Nat) : (dvals x k).length = k := by unfold dvals; simp
theorem dvals_succ (x k : Nat) : dvals x k ++ [Value.int .i64 (d8 x k : Nat)] = dvals x (k + 1) := by unfold dvals; simp [List.range_succ]
theorem dvals_get (x k i : Nat) (h : i < k) : (dvals x k)[i]? = some (Value.int .i64 (d8 x i : Nat)) := by unfold dvals; simp [h]
def Dl (w : World) (v : Value) (n x : Nat) : Prop := x < 256 ^ n ∧ ((v = .slice none 0 0 ∧ n = 0) ∨ ∃ g c, v = .slice (some ⟨g, 0, none⟩) n c ∧ n ≤ c ∧ c ≤ maxLen ∧ g < w.heap.size ∧ ∀ i, i < n → w.cell? ⟨g, i, none⟩ = some (.int .i64 (d8 x i : Nat)))
theorem Dl.below {w w' : World} {v : Value} {n x : Nat} (h : Dl w v n x) (hb : Below w.heap.size w w') : Dl w' v n x := by
 obtain ⟨h1, h2⟩ := h
 refine ⟨h1, ?_⟩
 rcases h2 with h2 | ⟨g, c, hv, hc, hm, hg, hcell⟩
 ·exact .inl h2
 ·exact .inr ⟨g, c, hv, hc, hm, Nat.lt_of_lt_of_le hg hb.size, fun i hi => (hb.cell (p := ⟨g, i, none⟩) hg).trans (hcell i hi)⟩
theorem Dl.of_owned {w : World} {B n x : Nat} {v : Value} (h : w.ownsRow B 3 1 v n (dvals x n)) (hx : x < 256 ^ n) : Dl w v n x := by
 refine ⟨hx, ?_⟩
 rcases h.2 with ⟨hv, hn⟩ | ⟨g, cap, cur, hv, hb, hh, hn, hm, hs, ht⟩
 ·exact .inl ⟨hv, hn⟩
 ·refine .inr ⟨g, cap, hv, hn, hm, by have := (Array.getElem?_eq_some_iff.1 hh).1; exact this, fun i hi => ?_⟩
  subst hv
  rw [h.cellAt i (by omega), dvals_get x n i hi]
theorem info3 : (Tryz.prog.info? 3).map (fun i => (i.zero, i.size, i.bytes)) = some (some (.int .i64 0), 1, 8) := by kernel_rfl
theorem d8_big (x n i : Nat) (h : x < 256 ^ n) (hi : n ≤ i) : d8 x i = 0 := by
 unfold d8
 rw [Nat.div_eq_of_lt (Nat.lt_of_lt_of_le h (Nat.pow_le_pow_right (by omega) hi))]
theorem nd_top8 (x m : Nat) (h1 : nd 256 x ≤ m + 1) (h : d8 x m ≠ 0) : nd 256 x = m + 1 := by
 apply Decidable.byContradiction
 intro h2
 have h3 := lt_pow_nd 256 (by omega) x
 exact h (d8_big x _ m h3 (by omega))
theorem nd_low8 (x m : Nat) (h1 : nd 256 x ≤ m + 1) (h : d8 x m = 0) : nd 256 x ≤ m := by
 apply nd_le 256 (by omega)
 have h3 := Nat.lt_of_lt_of_le (lt_pow_nd 256 (by omega) x) (Nat.pow_le_pow_right (by omega) h1)
 unfold d8 at h
 have h4 : x / 256 ^ m < 256 := by
  rw [Nat.div_lt_iff_lt_mul (Nat.pow_pos (by omega)), Nat.mul_comm, ← Nat.pow_succ]; exact h3
 have h5 : x / 256 ^ m = 0 := by rw [Nat.mod_eq_of_lt h4] at h; exact h
 exact (Nat.div_eq_zero_iff_lt (Nat.pow_pos (by omega))).1 h5
def nbFn (x N k : Nat) : Nat → Nat := fun p => if p < N ∧ N - 1 - p < k then d8 x (N - 1 - p) else 0
theorem nbFn_zero (x N n : Nat) : arr .u8 (nbFn x N 0) n = arr .u8 (fun _ => 0) n := by
 apply arr_congr; intro i _; unfold nbFn; rw [if_neg (by omega)]
theorem nbFn_succ (x N c p : Nat) (hp : p + 1 + c = N) : upd (nbFn x N c) p (d8 x c) = nbFn x N (c + 1) := by
 funext k
 unfold upd nbFn
 by_cases h : k = p
 ·subst h
  rw [if_pos rfl, show N - 1 - k = c by omega, if_pos (by omega)]
 ·rw [if_neg h]
  by_cases h2 : k < N ∧ N - 1 - k < c
  ·rw [if_pos h2, if_pos (by omega)]
  ·rw [if_neg h2, if_neg (by omega)]
theorem nbFn_lt (x N c p : Nat) : nbFn x N c p < 256 := by
 unfold nbFn; split
 ·exact d8_lt _ _
 ·omega
theorem nb_mag (x N : Nat) (hN : nd 256 x = N) : strFn (nbFn x N N) N = mag x := by
 unfold strFn mag
 congr 2
 subst hN
 apply List.ext_getElem?
 intro i
 by_cases hi : i < nd 256 x
 ·have hl : ((dig 256 x).map UInt8.ofNat).length = nd 256 x := by simp [nd]
  rw [List.getElem?_reverse (by omega), hl]
  simp only [List.getElem?_map]
  rw [List.getElem?_range hi]
  have h2 : (dig 256 x)[nd 256 x - 1 - i]? = some (d8 x (nd 256 x - 1 - i)) := by
   have h3 := dig_getD 256 (by omega) x (nd 256 x - 1 - i)
   have h4 : nd 256 x - 1 - i < (dig 256 x).length := by show _ < nd 256 x; omega
   rw [List.getD_eq_getElem?_getD, List.getElem?_eq_getElem h4] at h3
   rw [List.getElem?_eq_getElem h4]
   exact congrArg some h3
  rw [h2]
  simp only [Option.map_some]
  unfold nbFn
  rw [if_pos (by omega)]
 ·rw [List.getElem?_eq_none (by simp; omega), List.getElem?_eq_none (by simp; show nd 256 x ≤ i; omega)]
theorem sign_empty (neg : Bool) (x : Nat) : (Value.agg #[.bool (neg && decide ((0 : Int) < (nd 256 x : Int))), .string (mag x)]) = .agg #[.bool (sg (if neg then -(x : Int) else x)), .string (mg (if neg then -(x : Int) else x))] := by
 rw [← made_int neg _ x rfl, mag_isEmpty]
 have : decide ((0 : Int) < (nd 256 x : Int)) = !(x == 0) := by
  by_cases h : x = 0
  ·subst h; rfl
  ·have := nd_pos 256 (by omega) x (by omega)
   rw [beq_eq_false_iff_ne.2 h]; simp; omega
 rw [this]
theorem d8_byte (x i : Nat) : IntKind.u8.wrap (d8 x i : Int) = (d8 x i : Int) := by
 have := d8_lt x i
 rw [IntKind.wrap_u8]; omega
theorem make8z (w : World) : (Instr.makeSlice 184 (.int .i64 0) (.int .i64 0)).run Tryz.prog w = .ok (.slice (some ⟨w.heap.size, 0, none⟩) 0 0) (w.alloc (.cells (arr .u8 (fun _ => 0) 0) 5)) := make8 0 w (by omega)
theorem conv8z (w : World) :
    (convert 184 9 (.slice (some ⟨w.heap.size, 0, none⟩) 0 0)).run Tryz.prog (w.alloc (.cells (arr .u8 (fun _ => 0) 0) 5)) = .ok (.string ⟨#[]⟩) (w.alloc (.cells (arr .u8 (fun _ => 0) 0) 5)) := conv8 (fun _ => 0) 0 0 w (fun _ => by omega)
end Go.Proofs.YtlblfgbpogljoaaGreatDoor
namespace Go.Proofs.YtlblfgbpogljoaaGreatDoor
open Go Go.RowKit
open Vi
end Go.Proofs.YtlblfgbpogljoaaGreatDoor
namespace Go.Proofs.YtlblfgbpogljoaaGreatDoor
open Go Go.RowKit
open Vi
theorem Dl.lenForm {w : World} {v : Value} {n x : Nat} (h : Dl w v n x) : ∃ ao c, v = .slice ao n c := by
 rcases h.2 with ⟨rfl, rfl⟩ | ⟨g, c, rfl, _⟩
 ·exact ⟨_, _, rfl⟩
 ·exact ⟨_, _, rfl⟩
theorem d8_div (x p : Nat) : x / 256 ^ p = d8 x p + 256 * (x / 256 ^ (p + 1)) := by
 unfold d8
 rw [Nat.pow_succ, ← Nat.div_div_eq_div_mul]; omega
theorem cmp_lt_of (x y p : Nat) (h : x / 256 ^ (p + 1) = y / 256 ^ (p + 1)) (hd : d8 x p < d8 y p) : x < y := by
 have h1 := d8_div x p
 have h2 := d8_div y p
 have h3 : x / 256 ^ p < y / 256 ^ p := by omega
 apply Nat.lt_of_not_le
 intro hle
 have := Nat.div_le_div_right (c := 256 ^ p) hle
 omega
theorem cmpN_of_lt (x y : Nat) (h : x < y) : cmpN x y = -1 := by unfold cmpN; rw [if_pos h]
theorem cmpN_of_gt (x y : Nat) (h : y < x) : cmpN x y = 1 := by unfold cmpN; rw [if_neg (by omega), if_neg (by omega)]
theorem cmpN_of_eq (x y : Nat) (h : x = y) : cmpN x y = 0 := by unfold cmpN; rw [if_neg (by omega), if_pos h]
theorem div_step (x y q : Nat) (h : x / 256 ^ (q + 1) = y / 256 ^ (q + 1)) (hd : d8 x q = d8 y q) : x / 256 ^ q = y / 256 ^ q := by
 rw [d8_div x q, d8_div y q, h, hd]
end Go.Proofs.YtlblfgbpogljoaaGreatDoor
namespace Go.Proofs.YtlblfgbpogljoaaGreatDoor
open Go Go.RowKit
open Vi
def cr8 (x y k : Nat) : Nat := (x % 256 ^ k + y % 256 ^ k) / 256 ^ k
theorem mod_succ8 (x k : Nat) : x % 256 ^ (k + 1) = x % 256 ^ k + 256 ^ k * d8 x k := by
 unfold d8
 rw [Nat.pow_succ, Nat.mod_mul]
theorem cr8_zero (x y : Nat) : cr8 x y 0 = 0 := by unfold cr8; simp [Nat.mod_one]
theorem cr8_mid (x y k : Nat) : (x % 256 ^ (k + 1) + y % 256 ^ (k + 1)) / 256 ^ k = d8 x k + d8 y k + cr8 x y k := by
 have hp : 0 < 256 ^ k := Nat.pow_pos (by omega)
 unfold cr8
 rw [mod_succ8, mod_succ8]
 have e : x % 256 ^ k + 256 ^ k * d8 x k + (y % 256 ^ k + 256 ^ k * d8 y k) = (x % 256 ^ k + y % 256 ^ k) + (d8 x k + d8 y k) * 256 ^ k := by
  rw [Nat.add_mul, Nat.mul_comm (d8 x k), Nat.mul_comm (d8 y k)]; omega
 rw [e, Nat.add_mul_div_right _ _ hp]; omega
theorem cr8_succ (x y k : Nat) : cr8 x y (k + 1) = (d8 x k + d8 y k + cr8 x y k) / 256 := by
 rw [← cr8_mid, Nat.div_div_eq_div_mul, ← Nat.pow_succ]; rfl
theorem d8_add (x y k : Nat) : d8 (x + y) k = (d8 x k + d8 y k + cr8 x y k) % 256 := by
 rw [← cr8_mid]
 unfold d8
 have e : (x + y) % 256 ^ (k + 1) = (x % 256 ^ (k + 1) + y % 256 ^ (k + 1)) % 256 ^ (k + 1) := Nat.add_mod _ _ _
 have h1 : ∀ z : Nat, z / 256 ^ k % 256 = z % 256 ^ (k + 1) / 256 ^ k := fun z => by
  rw [Nat.pow_succ, Nat.mod_mul_right_div_self]
 rw [h1, h1, e]
theorem cr8_le (x y k : Nat) : cr8 x y k ≤ 1 := by
 unfold cr8
 have hp : 0 < 256 ^ k := Nat.pow_pos (by omega)
 have h1 := Nat.mod_lt x hp
 have h2 := Nat.mod_lt y hp
 have : (x % 256 ^ k + y % 256 ^ k) / 256 ^ k < 2 := by
  rw [Nat.div_lt_iff_lt_mul hp]; omega
 omega
theorem cr8_end (x y k : Nat) (hx : x < 256 ^ k) (hy : y < 256 ^ k) (h : cr8 x y k = 0) : x + y < 256 ^ k := by
 unfold cr8 at h
 rw [Nat.mod_eq_of_lt hx, Nat.mod_eq_of_lt hy] at h
 exact (Nat.div_eq_zero_iff_lt (Nat.pow_pos (by omega))).1 h
theorem cr8_big (x y k : Nat) (hx : x < 256 ^ k) (hy : y < 256 ^ k) : cr8 x y (k + 1) = 0 := by
 unfold cr8
 have h1 : (256 : Nat) ^ (k + 1) = 256 ^ k * 256 := Nat.pow_succ ..
 rw [Nat.mod_eq_of_lt (by omega), Nat.mod_eq_of_lt (by omega)]
 exact Nat.div_eq_of_lt (by omega)
theorem World.ownsRow.plus {w : World} {B : Nat} {e : TypeId} {size : Nat} {v : Value} {n : Nat} {xs : List Value} (h : w.ownsRow B e size v n xs) (u : World) : (w.plus u).ownsRow B e size v n xs :=
 h.kept (row := none) ⟨rfl, rfl, rfl, World.size_plus w u, fun k hk _ => World.heap_plus w u k hk⟩ (by cases hv : v.ownBlock <;> simp)
theorem cr8_sub (x y k : Nat) (h : y ≤ x) : d8 (x - y) k + d8 y k + cr8 (x - y) y k = d8 x k + 256 * cr8 (x - y) y (k + 1) := by
 have h1 := d8_add (x - y) y k
 rw [Nat.sub_add_cancel h] at h1
 have h2 := cr8_succ (x - y) y k
 omega
def DL (w : World) (v : Value) (M x : Nat) : Prop := ∃ N, N ≤ M ∧ Dl w v N x
theorem DL.below {w w' : World} {v : Value} {M x : Nat} (h : DL w v M x) (hb : Below w.heap.size w w') : DL w' v M x := by
 obtain ⟨N, h1, h2⟩ := h
 exact ⟨N, h1, h2.below hb⟩
theorem DL.more {w : World} {v : Value} {M M' x : Nat} (h : DL w v M x) (hm : M ≤ M') : DL w v M' x := by
 obtain ⟨N, h1, h2⟩ := h
 exact ⟨N, by omega, h2⟩
end Go.Proofs.YtlblfgbpogljoaaGreatDoor
namespace Go.Proofs.YtlblfgbpogljoaaGreatDoor
open Go Go.RowKit
open Vi
theorem d8_zero (i : Nat) : d8 0 i = 0 := by unfold d8; simp
def my8 (o d y i k : Nat) : Nat := (o % 256 ^ (i + k) + 256 ^ i * (d * (y % 256 ^ k))) / 256 ^ (i + k)
theorem my8_zero (o d y i : Nat) : my8 o d y i 0 = 0 := by
 unfold my8
 rw [Nat.pow_zero, Nat.mod_one, Nat.mul_zero, Nat.mul_zero, Nat.add_zero, Nat.add_zero]
 exact Nat.div_eq_of_lt (Nat.mod_lt _ (Nat.pow_pos (by omega)))
theorem my8_lt (o d y i k : Nat) (hd : d < 256) : my8 o d y i k < 256 := by
 unfold my8
 have hM : 0 < 256 ^ (i + k) := Nat.pow_pos (by omega)
 rw [Nat.div_lt_iff_lt_mul hM]
 have h1 := Nat.mod_lt o hM
 have h2 := Nat.mod_lt y (Nat.pow_pos (n := k) (show 0 < 256 by omega))
 have h3 : 256 ^ i * (d * (y % 256 ^ k)) ≤ 256 ^ i * (255 * 256 ^ k) :=
  Nat.mul_le_mul_left _ (Nat.mul_le_mul (by omega) (by omega))
 have h4 : 256 ^ i * (255 * 256 ^ k) = 255 * 256 ^ (i + k) := by
  rw [Nat.mul_left_comm, Nat.pow_add]
 omega
theorem my8_step (o d y i k : Nat) : my8 o d y i k + d8 o (i + k) + d * d8 y k = d8 (o + 256 ^ i * (d * y)) (i + k) + 256 * my8 o d y i (k + 1) := by
 have hM : 0 < 256 ^ (i + k) := Nat.pow_pos (by omega)
 have e1 : o % 256 ^ (i + (k + 1)) + 256 ^ i * (d * (y % 256 ^ (k + 1))) = (o % 256 ^ (i + k) + 256 ^ i * (d * (y % 256 ^ k))) + 256 ^ (i + k) * (d8 o (i + k) + d * d8 y k) := by
  rw [← Nat.add_assoc i k 1, mod_succ8 o, mod_succ8 y, Nat.pow_add 256 i k]
  simp only [Nat.mul_add]
  rw [Nat.mul_left_comm d (256 ^ k), Nat.mul_assoc (256 ^ i)  (256 ^ k) (d * d8 y k)]
  omega
 have e2 : (o % 256 ^ (i + (k + 1)) + 256 ^ i * (d * (y % 256 ^ (k + 1)))) / 256 ^ (i + k) = my8 o d y i k + (d8 o (i + k) + d * d8 y k) := by
  rw [e1, Nat.add_mul_div_left _ _ hM]; rfl
 have e3 : my8 o d y i (k + 1) = (my8 o d y i k + (d8 o (i + k) + d * d8 y k)) / 256 := by
  rw [← e2, Nat.div_div_eq_div_mul, ← Nat.pow_succ]; rfl
 have e4 : d8 (o + 256 ^ i * (d * y)) (i + k) = (my8 o d y i k + (d8 o (i + k) + d * d8 y k)) % 256 := by
  rw [← e2]
  unfold d8
  rw [← Nat.mod_mul_right_div_self, ← Nat.mod_mul_right_div_self (_ + _ : Nat), ← Nat.pow_succ]
  congr 1
  show _ = (o % 256 ^ (i + k + 1) + 256 ^ i * (d * (y % 256 ^ (k + 1)))) % 256 ^ (i + k + 1)
  have e5 : 256 ^ i * (d * y) = 256 ^ i * (d * (y % 256 ^ (k + 1))) + 256 ^ (i + k + 1) * (d * (y / 256 ^ (k + 1))) := by
   rw [Nat.add_assoc, Nat.pow_add 256 i (k + 1), Nat.mul_assoc, ← Nat.mul_add]
   congr 1
   rw [Nat.mul_left_comm, ← Nat.mul_add, Nat.mod_add_div]
  rw [e5, ← Nat.add_assoc, Nat.add_mul_mod_self_left, Nat.mod_add_mod]
 rw [e3, e4, Nat.mod_add_div]; omega
theorem d8_add_low (o i z p : Nat) (h : p < i) : d8 (o + 256 ^ i * z) p = d8 o p := by
 unfold d8
 rw [← Nat.mod_mul_right_div_self, ← Nat.mod_mul_right_div_self, ← Nat.pow_succ]
 congr 1
 obtain ⟨m, rfl⟩ : ∃ m, i = (p + 1) + m := ⟨i - (p + 1), by omega⟩
 rw [Nat.pow_add, Nat.mul_assoc, Nat.add_mul_mod_self_left]
def mulFn8 (o t i k : Nat) : Nat → Nat := fun p => if p < i + k then d8 t p else d8 o p
theorem mulFn8_zero (o z i n : Nat) : arr .i64 (d8 o) n = arr .i64 (mulFn8 o (o + 256 ^ i * z) i 0) n := by
 apply arr_congr; intro p _; unfold mulFn8
 split
 ·rw [d8_add_low _ _ _ _ (by omega)]
 ·rfl
theorem mulFn8_at (o t i k : Nat) : mulFn8 o t i k (i + k) = d8 o (i + k) := by unfold mulFn8; rw [if_neg (by omega)]
theorem mulFn8_succ (o t i k : Nat) : upd (mulFn8 o t i k) (i + k) (d8 t (i + k)) = mulFn8 o t i (k + 1) := by
 funext p
 unfold upd mulFn8
 by_cases h : p = i + k
 ·subst h; rw [if_pos rfl, if_pos (by omega)]
 ·rw [if_neg h]
  by_cases h2 : p < i + k
  ·rw [if_pos h2, if_pos (by omega)]
  ·rw [if_neg h2, if_neg (by omega)]
theorem row_lt8 (o d y i n : Nat) (ho : o < 256 ^ (i + n)) (hy : y < 256 ^ n) (hd : d < 256) : o + 256 ^ i * (d * y) < 256 ^ (i + n + 1) := by
 have h3 : 256 ^ i * (d * y) ≤ 256 ^ i * (255 * 256 ^ n) :=
  Nat.mul_le_mul_left _ (Nat.mul_le_mul (by omega) (by omega))
 have h4 : 256 ^ i * (255 * 256 ^ n) = 255 * 256 ^ (i + n) := by
  rw [Nat.mul_left_comm, Nat.pow_add]
 rw [Nat.pow_succ]
 omega
theorem my8_last (o d y i n : Nat) (ho : o < 256 ^ (i + n)) (hy : y < 256 ^ n) (hd : d < 256) : my8 o d y i n = d8 (o + 256 ^ i * (d * y)) (i + n) := by
 have h := row_lt8 o d y i n ho hy hd
 unfold my8 d8
 rw [Nat.mod_eq_of_lt ho, Nat.mod_eq_of_lt hy]
 symm
 apply Nat.mod_eq_of_lt
 rw [Nat.div_lt_iff_lt_mul (Nat.pow_pos (by omega)), show 256 * 256 ^ (i + n) = 256 ^ (i + n + 1) by rw [Nat.pow_succ, Nat.mul_comm]]
 exact h
theorem part_mul8 (x y i : Nat) : x % 256 ^ i * y + 256 ^ i * (d8 x i * y) = x % 256 ^ (i + 1) * y := by
 rw [mod_succ8, Nat.add_mul, Nat.mul_assoc]
theorem zero_row8 (n x y : Nat) : arr .i64 (fun _ => 0) n = arr .i64 (d8 (x % 256 ^ 0 * y)) n := by
 apply arr_congr; intro i _; rw [Nat.pow_zero, Nat.mod_one, Nat.zero_mul, d8_zero]
theorem prod_lt8 (x y nx ny : Nat) (hx : x < 256 ^ nx) (hy : y < 256 ^ ny) : x * y < 256 ^ (nx + ny + 1) := by
 have h1 : x * y ≤ 256 ^ nx * 256 ^ ny := Nat.mul_le_mul (by omega) (by omega)
 rw [← Nat.pow_add] at h1
 have h2 : 0 < 256 ^ (nx + ny) := Nat.pow_pos (by omega)
 rw [Nat.pow_succ]; omega
theorem part_lt8 (x y i n : Nat) (hy : y < 256 ^ n) : x % 256 ^ i * y < 256 ^ (i + n) := by
 rw [Nat.pow_add]
 have h1 := Nat.mod_lt x (Nat.pow_pos (n := i) (show 0 < 256 by omega))
 calc x % 256 ^ i * y ≤ x % 256 ^ i * 256 ^ n := Nat.mul_le_mul_left _ (by omega)
  _ < 256 ^ i * 256 ^ n := Nat.mul_lt_mul_of_pos_right h1 (Nat.pow_pos (by omega))
theorem makeInt (n : Nat) (w : World) (h : n ≤ 8589934592) : (Instr.makeSlice 136 (.int .i64 (n : Int)) (.int .i64 (n : Int))).run Tryz.prog w = .ok (.slice (some ⟨w.heap.size, 0, none⟩) n n) (w.alloc (.cells (arr .i64 (fun _ => 0) n) 3)) := by
 obtain ⟨i0, hi, hz0, hz1, hz2⟩ := info_parts info3
 have hr := run_make (P := Tryz.prog) w 136 3 i0 (.int .i64 0) (by kernel_rfl) hi hz0 .i64 .i64 n n (by omega) (Int.le_refl _) (by rw [hz2]; omega) (by omega)
 rw [hr, hz1]
 simp only [Int.toNat_natCast, Nat.mul_one, Value.cells]
 rw [madeCells_arr]
theorem makeIntT (n m : Nat) (w : World) (h : n + m ≤ 8589934591) : (Instr.makeSlice 136 (.int .i64 ((n : Int) + (m : Int) + 1)) (.int .i64 ((n : Int) + (m : Int) + 1))).run Tryz.prog w = .ok (.slice (some ⟨w.heap.size, 0, none⟩) (n + m + 1) (n + m + 1)) (w.alloc (.cells (arr .i64 (fun _ => 0) (n + m + 1)) 3)) :=
 makeInt (n + m + 1) w (by omega)
theorem mulFn8_end (o d y i n m : Nat) (ho : o < 256 ^ (i + n)) (hy : y < 256 ^ n) (hd : d < 256) :
    arr .i64 (mulFn8 o (o + 256 ^ i * (d * y)) i (n + 1)) m = arr .i64 (d8 (o + 256 ^ i * (d * y))) m := by
 have h := row_lt8 o d y i n ho hy hd
 apply arr_congr
 intro p _
 unfold mulFn8
 by_cases h2 : p < i + (n + 1)
 ·rw [if_pos h2]
 ·rw [if_neg h2, d8_big o (i + n) p ho (by omega), d8_big _ (i + n + 1) p h (by omega)]
theorem Dl.of_arr (g N c z : Nat) (w : World) (h : ∀ i, i < N → w.cell? ⟨g, i, none⟩ = some (.int .i64 (d8 z i : Nat))) (hg : g < w.heap.size) (hz : z < 256 ^ N) (hc : N ≤ c) (hm : c ≤ maxLen) : Dl w (.slice (some ⟨g, 0, none⟩) N c) N z :=
 ⟨hz, .inr ⟨g, c, rfl, hc, hm, hg, h⟩⟩
end Go.Proofs.YtlblfgbpogljoaaGreatDoor
namespace Go.Proofs.YtlblfgbpogljoaaGreatDoor
open Go Go.RowKit
open Vi
def DP (w : World) (v : Value) (M1 x1 M2 x2 : Nat) : Prop := ∃ q r, v = .tuple #[q, r] ∧ DL w q M1 x1 ∧ DL w r M2 x2
theorem DP.below {w w' : World} {v : Value} {M1 x1 M2 x2 : Nat} (h : DP w v M1 x1 M2 x2) (hb : Below w.heap.size w w') : DP w' v M1 x1 M2 x2 := by
 obtain ⟨q, r, h1, h2, h3⟩ := h
 exact ⟨q, r, h1, h2.below hb, h3.below hb⟩
end Go.Proofs.YtlblfgbpogljoaaGreatDoor
namespace Go.Proofs.YtlblfgbpogljoaaGreatDoor
open Go Go.RowKit
open Vi
theorem tmod256 (q : Nat) : (q : Int).tmod 256 = ((q % 256 : Nat) : Int) := by rw [Int.tmod_eq_emod_of_nonneg (by omega)]; omega
theorem tdiv256 (q : Nat) : (q : Int).tdiv 256 = ((q / 256 : Nat) : Int) := by rw [Int.tdiv_eq_ediv_of_nonneg (by omega)]; omega
theorem cur_zero (X k : Nat) (h : X / 256 ^ k = 0) : X < 256 ^ k := (Nat.div_eq_zero_iff_lt (Nat.pow_pos (by omega))).1 h
theorem cur_next (X k : Nat) : X / 256 ^ k / 256 = X / 256 ^ (k + 1) := by rw [Nat.div_div_eq_div_mul, ← Nat.pow_succ]
end Go.Proofs.YtlblfgbpogljoaaGreatDoor

end
section
/- No program in sight: a region that draws its order, one of whose stores may come ahead of reads: a relation between worlds that lets one block k turn into a known object takes the place of 'all old blocks alike'; the store is a step of its own. -/
namespace Go
open Go.RowKit
section
variable {P : Program} {ops : Array Oper}
def RSteps (P : Program) (ops : Array Oper) (Rel : World → World → Prop) (A : (Nat → Value) → Act) (C : World → Prop) (T : Nat → Value → World → Prop) : List Oper → Nat → Prop
 | [], _ => True
 | o :: l, i => (∀ xs w', C w' → (∀ j, (o.after.any fun e => Region.binds .any e && e.on == j) = true → T j (xs j) w') →
     wpList P ops (fun ex a' w'' => ex = .normal ∧ Rel w' w'' ∧ ∃ v, a' = A (fun j => if j = i then v else xs j) ∧ T i v w'') [o] (A xs) w') ∧ RSteps P ops Rel A C T l (i + 1)
theorem RSteps.at {Rel : World → World → Prop} {A : (Nat → Value) → Act} {C : World → Prop} {T : Nat → Value → World → Prop} : ∀ {l : List Oper} {k i : Nat} {o : Oper}, RSteps P ops Rel A C T l k → l[i]? = some o →
    ∀ xs w', C w' → (∀ j, (o.after.any fun e => Region.binds .any e && e.on == j) = true → T j (xs j) w') →
     wpList P ops (fun ex a' w'' => ex = .normal ∧ Rel w' w'' ∧ ∃ v, a' = A (fun j => if j = k + i then v else xs j) ∧ T (k + i) v w'') [o] (A xs) w'
 | [], _, _, _, _, h => by cases h
 | o :: l, k, 0, o', hs, h => by
  have e : o = o' := by simpa using h
  subst e
  exact hs.1
 | o :: l, k, i + 1, o', hs, h => by
  have := RSteps.at hs.2 (i := i) (o := o') (by simpa using h)
  rw [show k + 1 + i = k + (i + 1) by omega] at this
  exact this
theorem RSteps.cons {Rel : World → World → Prop} {A : (Nat → Value) → Act} {C : World → Prop} {T : Nat → Value → World → Prop} {o : Oper} {l : List Oper} {i : Nat}
    (h : ∀ xs w', C w' → (∀ j, (o.after.any fun e => Region.binds .any e && e.on == j) = true → T j (xs j) w') →
     wpList P ops (fun ex a' w'' => ex = .normal ∧ Rel w' w'' ∧ ∃ v, a' = A (fun j => if j = i then v else xs j) ∧ T i v w'') [o] (A xs) w') (t : RSteps P ops Rel A C T l (i + 1)) : RSteps P ops Rel A C T (o :: l) i := ⟨h, t⟩
end
def SR (k : Nat) (O : Obj) (w w' : World) : Prop := w'.os = w.os ∧ w'.tape = w.tape ∧ w'.output = w.output ∧ w.heap.size ≤ w'.heap.size ∧ (∀ j, j < w.heap.size → j ≠ k → w'.heap[j]? = w.heap[j]?) ∧ (k < w.heap.size → w'.heap[k]? = w.heap[k]? ∨ w'.heap[k]? = some O)
theorem SR.of_below {k : Nat} {O : Obj} {w w' : World} (h : Below w.heap.size w w') : SR k O w w' := ⟨h.os, h.tape, h.output, h.size, fun j hj _ => h.block j hj, fun hk => .inl (h.block k hk)⟩
theorem SR.refl (k : Nat) (O : Obj) (w : World) : SR k O w w := SR.of_below (Below.refl _ _)
theorem SR.trans {k : Nat} {O : Obj} {a b c : World} (h1 : SR k O a b) (h2 : SR k O b c) : SR k O a c := by
 obtain ⟨a1, a2, a3, a4, a5, a6⟩ := h1
 obtain ⟨b1, b2, b3, b4, b5, b6⟩ := h2
 refine ⟨b1.trans a1, b2.trans a2, b3.trans a3, Nat.le_trans a4 b4, fun j hj hne => (b5 j (by omega) hne).trans (a5 j hj hne), fun hk => ?_⟩
 rcases b6 (by omega) with h | h
 ·rcases a6 hk with h' | h'
  ·exact .inl (h.trans h')
  ·exact .inr (h.trans h')
 ·exact .inr h
theorem SR.split {k : Nat} {ty : TypeId} {c0 c1 : Array Value} {W w' : World} (hk : k < W.heap.size) (h : SR k (.cells c1 ty (0, 0)) (W.row k ty c0) w') : (∃ u, w' = (W.row k ty c0).plus u) ∨ (∃ u, w' = (W.row k ty c1).plus u) := by
 obtain ⟨a1, a2, a3, a4, a5, a6⟩ := h
 rw [World.size_row] at a4 a5 a6
 rcases a6 hk with h' | h'
 ·refine .inl (World.plus_of_below ⟨a1, a2, a3, by rw [World.size_row]; exact a4, fun j hj => ?_⟩)
  rw [World.size_row] at hj
  by_cases e : j = k
  ·subst e; exact h'
  ·exact a5 j hj e
 ·refine .inr (World.plus_of_below ⟨a1, a2, a3, by rw [World.size_row]; exact a4, fun j hj => ?_⟩)
  rw [World.size_row] at hj
  by_cases e : j = k
  ·subst e; rw [h', World.heap_row_same _ _ _ _ hk]
  ·rw [a5 j hj e, World.heap_row_other _ _ _ _ _ e, World.heap_row_other _ _ _ _ _ e]
theorem SR.store {k : Nat} {ty : TypeId} {c c1 : Array Value} {W u : World} (hk : k < W.heap.size) : SR k (.cells c1 ty (0, 0)) ((W.row k ty c).plus u) ((W.row k ty c1).plus u) ∧ ((W.row k ty c1).plus u).heap[k]? = some (.cells c1 ty (0, 0)) := by
 have hs : ∀ cs, ((W.row k ty cs).plus u).heap.size = (W.plus u).heap.size := fun cs => by
  show ((W.row k ty cs).heap ++ u.heap.extract (W.row k ty cs).heap.size u.heap.size).size = (W.heap ++ u.heap.extract W.heap.size u.heap.size).size
  rw [Array.size_append, Array.size_append, World.size_row]
 have hat : ((W.row k ty c1).plus u).heap[k]? = some (.cells c1 ty (0, 0)) := by rw [World.heap_plus _ _ _ (by rw [World.size_row]; exact hk), World.heap_row_same _ _ _ _ hk]
 refine ⟨⟨rfl, rfl, rfl, by rw [hs, hs]; exact Nat.le_refl _, fun j hj hne => ?_, fun _ => .inr hat⟩, hat⟩
 show ((W.row k ty c1).heap ++ u.heap.extract (W.row k ty c1).heap.size u.heap.size)[j]? = ((W.row k ty c).heap ++ u.heap.extract (W.row k ty c).heap.size u.heap.size)[j]?
 rw [World.size_row, World.size_row]
 by_cases hlt : j < W.heap.size
 ·rw [Array.getElem?_append_left (by rw [World.size_row]; exact hlt), Array.getElem?_append_left (by rw [World.size_row]; exact hlt), World.heap_row_other _ _ _ _ _ hne, World.heap_row_other _ _ _ _ _ hne]
 ·rw [Array.getElem?_append_right (by rw [World.size_row]; omega), Array.getElem?_append_right (by rw [World.size_row]; omega), World.size_row, World.size_row]
end Go

end
