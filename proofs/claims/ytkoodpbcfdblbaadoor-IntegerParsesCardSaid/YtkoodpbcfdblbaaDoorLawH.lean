import Derived.Test.YtkoodpbcfdblbaaDoorLawF
import Derived.Test.YtkoodpbcfdblbaaDoorLawB
import Derived.Test.YtkoodpbcfdblbaaDoorIntJ
set_option linter.unusedSimpArgs false
set_option linter.unusedVariables false
namespace Go.Proofs.YtkoodpbcfdblbaaDoor
open Go Go.RowKit
open Vi
theorem pow_lt8 (a : Int) (k : Nat) (h : a.natAbs < 256 ^ 8) : (a ^ k).natAbs < 256 ^ (8 * k + 1) := by
  rw [Int.natAbs_pow]
  have h1 : a.natAbs ^ k ≤ (256 ^ 8) ^ k := Nat.pow_le_pow_left (Nat.le_of_lt h) k
  rw [← Nat.pow_mul] at h1
  exact Nat.lt_of_le_of_lt h1 (Nat.pow_lt_pow_right (by omega) (by omega))
set_option maxRecDepth 100000 in
set_option maxHeartbeats 800000 in
theorem Pow_c (a : Int) (n : Nat) (w : World) (hn : n ≤ 64) (ha : a.natAbs < 256 ^ 8) : Calls Tryd.prog 30 #[.agg #[.bool (sg a), .string (mg a)], .int .i64 (n : Int)] w fun e w' => e = .returned (.tuple #[.agg #[.bool (sg (a ^ n)), .string (mg (a ^ n))], .int .i64 0]) ∧ Below w.heap.size w w' := by
  have v1 : (Value.agg #[.bool (sg 1), .string (mg 1)]) = .agg #[.bool false, .string ⟨#[1]⟩] := by
    rw [show sg 1 = false by decide, show mg 1 = ⟨#[1]⟩ by decide]
  have h1 : Hid (∀ w, Calls Tryd.prog 27 #[.int .i64 1] w fun e w' => e = .returned (.agg #[.bool (sg 1), .string (mg 1)]) ∧ Below w.heap.size w w') := Lib.hid fun w => FromInt_c 1 w (by omega) (by omega)
  have h2 : Hid (∀ (k : Nat) w, k ≤ 64 → ∃ z, z = a ^ (k + 1) ∧ Calls Tryd.prog 17 #[.agg #[.bool (sg (a ^ k)), .string (mg (a ^ k))], .agg #[.bool (sg a), .string (mg a)]] w fun e w' => e = .returned (.agg #[.bool (sg z), .string (mg z)]) ∧ Below w.heap.size w w') := Lib.hid fun k w hk => by
    refine ⟨_, rfl, ?_⟩
    rw [Int.pow_succ]
    exact Mul_c (a ^ k) a w (Nat.le_trans (mg_size _ _ (pow_lt8 a k ha)) (by omega)) (Nat.le_trans (mg_size _ _ ha) (by omega))
  have h0 : ¬ ((n : Int) < 0) := by omega
  have h64 : ¬ (64 < (n : Int)) := by omega
  have hd64 : decide ((64 : Int) < (n : Int)) = false := decide_eq_false h64
  have HA0 := Lib.hid (Int.pow_zero a)
  clear v1 ha
  go_enter Tryd.func30, Tryd.ntmps30
  go_wp2_with fail
  (go_wp2_with fail; refine (h1.out _).mono ?_; rintro e w' ⟨rfl, hb⟩; obtain ⟨u, rfl⟩ := World.plus_of_below hb; clear hb)
  revert u
  intro ub
  go_wp2_with fail
  go_loopw [16] (fun v wr => ∃ (k : Nat) (u' : World), k ≤ n ∧ v = .int .i64 (k : Int) ∧ wr = ((((w.alloc (.cells #[.bool (sg a), .string (mg a)] 23)).alloc (.cells #[.bool false, .string ⟨#[]⟩] 23)).plus ub).alloc (.cells #[.bool (sg (a ^ k)), .string (mg (a ^ k))] 23)).plus u') (fun v _ => n - (intOf v).toNat)
  case atStart =>
    obtain ⟨u', hu⟩ := World.plus_of_below (Below.refl _ ((((w.alloc (.cells #[.bool (sg a), .string (mg a)] 23)).alloc (.cells #[.bool false, .string ⟨#[]⟩] 23)).plus ub).alloc (.cells #[.bool (sg 1), .string (mg 1)] 23)))
    exact ⟨0, u', Nat.zero_le _, rfl, by rw [HA0.out]; exact hu⟩
  case round =>
    obtain ⟨k, u', hk, rfl, rfl⟩ := hrel
    by_cases hlt : k < n
    · have hkn : (k : Int) < (n : Int) := by omega
      obtain ⟨z, hz, hmul⟩ : ∃ z, z = a ^ (k + 1) ∧ ∀ w, Calls Tryd.prog 17 #[.agg #[.bool (sg (a ^ k)), .string (mg (a ^ k))], .agg #[.bool (sg a), .string (mg a)]] w fun e w' => e = .returned (.agg #[.bool (sg z), .string (mg z)]) ∧ Below w.heap.size w w' := ⟨_, rfl, fun w => by
        obtain ⟨z, hz, h⟩ := h2.out k w (by omega)
        rw [← hz]; exact h⟩
      have HM := Lib.hid hmul
      have HZ := Lib.hid hz
      clear hmul hz
      obtain ⟨x0, hx0⟩ : ∃ x, x = a ^ k := ⟨_, rfl⟩
      rw [← hx0] at HM ⊢
      clear hx0
      go_wp2_with fail
      (go_wp2_with fail; refine (HM.out _).mono ?_; rintro e w' ⟨rfl, hb⟩; (first | (with_reducible (have hb2 := World.plus_of_below ((World.below_plus _ _).trans (hb.mono (World.size_plus _ _)))); obtain ⟨u, rfl⟩ := hb2) | (obtain ⟨u, rfl⟩ := World.plus_of_below hb)); clear hb)
      go_wp2_with fail
      exact ⟨⟨k + 1, u, by omega, by go_num, by rw [← HZ.out]⟩, by simp [intOf]; omega⟩
    · have e : n = k := by omega
      subst e
      go_wp2_with fail
      refine bodyPost_ret (by simp [results, Tryd.results30, go_sem]; rfl) rfl ?_
      exact ⟨rfl, by (repeat' (first | (with_reducible exact Below.refl _ _) | (with_reducible assumption) | (with_reducible refine Below.plus0 ?_ _) | (with_reducible refine Below.alloc0 ?_ _) | (with_reducible refine Below.plus ?_ ?_ _) | (with_reducible refine Below.alloc ?_ ?_ _) | (with_reducible refine Below.drew ?_) | (with_reducible refine Below.drewN ?_ _) | (simp [go_sem]; done) | (simp [go_sem]; omega)))⟩
set_option maxRecDepth 100000 in
set_option maxHeartbeats 800000 in
theorem Pow_out (a : Int) (n : Int) (w : World) (h : n < 0 ∨ 64 < n) : Calls Tryd.prog 30 #[.agg #[.bool (sg a), .string (mg a)], .int .i64 n] w fun e w' => e = .returned (.tuple #[.agg #[.bool false, .string ⟨#[]⟩], .int .i64 2]) ∧ Below w.heap.size w w' := by
  by_cases h0 : n < 0
  · have hd0 : decide (n < 0) = true := decide_eq_true h0
    clear h
    go_enter Tryd.func30, Tryd.ntmps30
    go_wp2_with fail
    refine bodyPost_ret (by simp [results, Tryd.results30, go_sem]; rfl) rfl ?_
    exact ⟨rfl, by (repeat' (first | (with_reducible exact Below.refl _ _) | (with_reducible assumption) | (with_reducible refine Below.plus0 ?_ _) | (with_reducible refine Below.alloc0 ?_ _) | (with_reducible refine Below.plus ?_ ?_ _) | (with_reducible refine Below.alloc ?_ ?_ _) | (with_reducible refine Below.drew ?_) | (with_reducible refine Below.drewN ?_ _) | (simp [go_sem]; done) | (simp [go_sem]; omega)))⟩
  · have h64 : 64 < n := by omega
    have hd0 : decide (n < 0) = false := decide_eq_false h0
    have hd64 : decide ((64 : Int) < n) = true := decide_eq_true h64
    clear h
    go_enter Tryd.func30, Tryd.ntmps30
    go_wp2_with fail
    refine bodyPost_ret (by simp [results, Tryd.results30, go_sem]; rfl) rfl ?_
    exact ⟨rfl, by (repeat' (first | (with_reducible exact Below.refl _ _) | (with_reducible assumption) | (with_reducible refine Below.plus0 ?_ _) | (with_reducible refine Below.alloc0 ?_ _) | (with_reducible refine Below.plus ?_ ?_ _) | (with_reducible refine Below.alloc ?_ ?_ _) | (with_reducible refine Below.drew ?_) | (with_reducible refine Below.drewN ?_ _) | (simp [go_sem]; done) | (simp [go_sem]; omega)))⟩
set_option maxRecDepth 100000 in
set_option maxHeartbeats 1600000 in
theorem IntegerPowers_c (ba : Bool) (sa : ByteArray) (n : Int) (w : World) (ha : sa.size ≤ 9223372036854775807) (hn1 : -9223372036854775808 ≤ n) (hn2 : n ≤ 9223372036854775807) :
    Calls Tryd.prog 7 #[.agg #[.bool ba, .string sa], .int .i64 n] w fun e w' => e = .returned (.bool true) ∧ Below w.heap.size w w' := by
  obtain ⟨a, ea⟩ : ∃ x, x = canI ba sa 8 := ⟨_, rfl⟩
  have la : a.natAbs < 256 ^ 8 := ea ▸ canI_lt ba sa 8
  have h0 : Hid (∀ w, Calls Tryd.prog 29 #[.agg #[.bool ba, .string sa], .int .i64 8] w fun e w' => e = .returned (.agg #[.bool (sg a), .string (mg a)]) ∧ Below w.heap.size w w') := Lib.hid fun w => canK_e ba sa 8 a ea w ha (by omega)
  clear ea ha
  by_cases hr : n < 0 ∨ 64 < n
  · have h1 := Lib.hid fun w => Pow_out a n w hr
    by_cases hn0 : n < 0
    · have hd0 : decide (n < 0) = true := decide_eq_true hn0
      clear la hr
      go_enter Tryd.func7, Tryd.ntmps7
      go_wp2_with fail
      (go_wp2_with fail; refine (h0.out _).mono ?_; rintro e w' ⟨rfl, hb⟩; obtain ⟨u, rfl⟩ := World.plus_of_below hb; clear hb)
      go_wp2_with fail
      (go_wp2_with fail; refine (h1.out _).mono ?_; rintro e w' ⟨rfl, hb⟩; (first | (with_reducible (have hb2 := World.plus_of_below ((World.below_plus _ _).trans (hb.mono (World.size_plus _ _)))); obtain ⟨u, rfl⟩ := hb2) | (obtain ⟨u, rfl⟩ := World.plus_of_below hb)); clear hb)
      go_wp2_with fail
      (go_wp2_with fail; refine (known_c _).mono ?_; rintro e w' ⟨rfl, hb⟩; obtain ⟨u, rfl⟩ := World.plus_of_below hb; clear hb)
      go_wp2_with fail
      (go_wp2_with fail; refine (known_c _).mono ?_; rintro e w' ⟨rfl, hb⟩; (first | (with_reducible (have hb2 := World.plus_of_below ((World.below_plus _ _).trans (hb.mono (World.size_plus _ _)))); obtain ⟨u, rfl⟩ := hb2) | (obtain ⟨u, rfl⟩ := World.plus_of_below hb)); clear hb)
      go_wp2_with fail
      go_ret
      exact ⟨rfl, by (repeat' (first | (with_reducible exact Below.refl _ _) | (with_reducible assumption) | (with_reducible refine Below.plus0 ?_ _) | (with_reducible refine Below.alloc0 ?_ _) | (with_reducible refine Below.plus ?_ ?_ _) | (with_reducible refine Below.alloc ?_ ?_ _) | (with_reducible refine Below.drew ?_) | (with_reducible refine Below.drewN ?_ _) | (simp [go_sem]; done) | (simp [go_sem]; omega)))⟩
    · have hd0 : decide (n < 0) = false := decide_eq_false hn0
      have h64 : 64 < n := by omega
      have hd64 : decide ((64 : Int) < n) = true := decide_eq_true h64
      clear la hr
      go_enter Tryd.func7, Tryd.ntmps7
      go_wp2_with fail
      (go_wp2_with fail; refine (h0.out _).mono ?_; rintro e w' ⟨rfl, hb⟩; obtain ⟨u, rfl⟩ := World.plus_of_below hb; clear hb)
      go_wp2_with fail
      (go_wp2_with fail; refine (h1.out _).mono ?_; rintro e w' ⟨rfl, hb⟩; (first | (with_reducible (have hb2 := World.plus_of_below ((World.below_plus _ _).trans (hb.mono (World.size_plus _ _)))); obtain ⟨u, rfl⟩ := hb2) | (obtain ⟨u, rfl⟩ := World.plus_of_below hb)); clear hb)
      go_wp2_with fail
      (go_wp2_with fail; refine (known_c _).mono ?_; rintro e w' ⟨rfl, hb⟩; obtain ⟨u, rfl⟩ := World.plus_of_below hb; clear hb)
      go_wp2_with fail
      (go_wp2_with fail; refine (known_c _).mono ?_; rintro e w' ⟨rfl, hb⟩; (first | (with_reducible (have hb2 := World.plus_of_below ((World.below_plus _ _).trans (hb.mono (World.size_plus _ _)))); obtain ⟨u, rfl⟩ := hb2) | (obtain ⟨u, rfl⟩ := World.plus_of_below hb)); clear hb)
      go_wp2_with fail
      go_ret
      exact ⟨rfl, by (repeat' (first | (with_reducible exact Below.refl _ _) | (with_reducible assumption) | (with_reducible refine Below.plus0 ?_ _) | (with_reducible refine Below.alloc0 ?_ _) | (with_reducible refine Below.plus ?_ ?_ _) | (with_reducible refine Below.alloc ?_ ?_ _) | (with_reducible refine Below.drew ?_) | (with_reducible refine Below.drewN ?_ _) | (simp [go_sem]; done) | (simp [go_sem]; omega)))⟩
  · obtain ⟨m, hm⟩ : ∃ m : Nat, n = (m : Int) := ⟨n.toNat, by omega⟩
    have hm64 : m ≤ 64 := by omega
    subst hm
    have hd0 : decide ((m : Int) < 0) = false := decide_eq_false (by omega)
    have hd64 : decide ((64 : Int) < (m : Int)) = false := decide_eq_false (by omega)
    have hnn : ¬ ((m : Int) < 0) := by omega
    obtain ⟨p, ep⟩ : ∃ x, x = a ^ m := ⟨_, rfl⟩
    have h1 : Hid (∀ w, Calls Tryd.prog 30 #[.agg #[.bool (sg a), .string (mg a)], .int .i64 (m : Int)] w fun e w' => e = .returned (.tuple #[.agg #[.bool (sg p), .string (mg p)], .int .i64 0]) ∧ Below w.heap.size w w') := Lib.hid fun w => by rw [ep]; exact Pow_c a m w hm64 la
    have h2 : Hid (∀ w, Calls Tryd.prog 31 #[.int .i64 1] w fun e w' => e = .returned (.agg #[.bool (sg 1), .string (mg 1)]) ∧ Below w.heap.size w w') := Lib.hid fun w => rFromInt_c 1 w (by omega) (by omega)
    have h3 : Hid (∀ (k : Nat), k ≤ 64 → ∀ w z, z = a ^ (k + 1) → Calls Tryd.prog 18 #[.agg #[.bool (sg (a ^ k)), .string (mg (a ^ k))], .agg #[.bool (sg a), .string (mg a)]] w fun e w' => e = .returned (.agg #[.bool (sg z), .string (mg z)]) ∧ Below w.heap.size w w') := Lib.hid fun k hk w z hz => rMul_c (a ^ k) a z (by rw [hz, Int.pow_succ]) w (Nat.le_trans (mg_size _ _ (pow_lt8 a k la)) (by omega)) (Nat.le_trans (mg_size _ _ la) (by omega))
    have HP := Lib.hid ep
    have HA0 := Lib.hid (Int.pow_zero a)
    clear la hr ep hn1 hn2
    go_enter Tryd.func7, Tryd.ntmps7
    go_wp2_with fail
    (go_wp2_with fail; refine (h0.out _).mono ?_; rintro e w' ⟨rfl, hb⟩; obtain ⟨u, rfl⟩ := World.plus_of_below hb; clear hb)
    go_wp2_with fail
    (go_wp2_with fail; refine (h1.out _).mono ?_; rintro e w' ⟨rfl, hb⟩; (first | (with_reducible (have hb2 := World.plus_of_below ((World.below_plus _ _).trans (hb.mono (World.size_plus _ _)))); obtain ⟨u, rfl⟩ := hb2) | (obtain ⟨u, rfl⟩ := World.plus_of_below hb)); clear hb)
    revert u
    intro ua
    go_wp2_with fail
    (go_wp2_with fail; refine (known_c _).mono ?_; rintro e w' ⟨rfl, hb⟩; obtain ⟨u, rfl⟩ := World.plus_of_below hb; clear hb)
    go_wp2_with fail
    (go_wp2_with fail; refine (h2.out _).mono ?_; rintro e w' ⟨rfl, hb⟩; (first | (with_reducible (have hb2 := World.plus_of_below ((World.below_plus _ _).trans (hb.mono (World.size_plus _ _)))); obtain ⟨u, rfl⟩ := hb2) | (obtain ⟨u, rfl⟩ := World.plus_of_below hb)); clear hb)
    revert u
    intro ub
    go_wp2_with fail
    go_loopw [8] (fun v wr => ∃ (k : Nat) (u' : World), k ≤ m ∧ v = .int .i64 (k : Int) ∧ wr = (((((w.alloc (.cells #[.bool (sg a), .string (mg a)] 23)).plus ua).alloc (.cells #[.bool (sg p), .string (mg p)] 23)).plus ub).alloc (.cells #[.bool (sg (a ^ k)), .string (mg (a ^ k))] 23)).plus u') (fun v _ => m - (intOf v).toNat)
    case atStart =>
      obtain ⟨u', hu⟩ := World.plus_of_below (Below.refl _ (((((w.alloc (.cells #[.bool (sg a), .string (mg a)] 23)).plus ua).alloc (.cells #[.bool (sg p), .string (mg p)] 23)).plus ub).alloc (.cells #[.bool (sg 1), .string (mg 1)] 23)))
      exact ⟨0, u', Nat.zero_le _, rfl, by rw [HA0.out]; exact hu⟩
    case round =>
      obtain ⟨k, u', hk, rfl, rfl⟩ := hrel
      by_cases hlt : k < m
      · have hkn : (k : Int) < (m : Int) := by omega
        obtain ⟨z, hz⟩ : ∃ z, z = a ^ (k + 1) := ⟨_, rfl⟩
        have HM := Lib.hid (fun w => h3.out k (by omega) w z hz)
        have HZ := Lib.hid hz
        clear hz
        obtain ⟨x0, hx0⟩ : ∃ x, x = a ^ k := ⟨_, rfl⟩
        rw [← hx0] at HM ⊢
        clear hx0
        go_wp2_with fail
        (go_wp2_with fail; refine (HM.out _).mono ?_; rintro e w' ⟨rfl, hb⟩; (first | (with_reducible (have hb2 := World.plus_of_below ((World.below_plus _ _).trans (hb.mono (World.size_plus _ _)))); obtain ⟨u, rfl⟩ := hb2) | (obtain ⟨u, rfl⟩ := World.plus_of_below hb)); clear hb)
        go_wp2_with fail
        exact ⟨⟨k + 1, u, by omega, by go_num, by rw [← HZ.out]⟩, by simp [intOf]; omega⟩
      · have e : m = k := by omega
        subst e
        rw [← HP.out]
        go_wp2_with fail
        go_ret
        exact ⟨rfl, by (repeat' (first | (with_reducible exact Below.refl _ _) | (with_reducible assumption) | (with_reducible refine Below.plus0 ?_ _) | (with_reducible refine Below.alloc0 ?_ _) | (with_reducible refine Below.plus ?_ ?_ _) | (with_reducible refine Below.alloc ?_ ?_ _) | (with_reducible refine Below.drew ?_) | (with_reducible refine Below.drewN ?_ _) | (simp [go_sem]; done) | (simp [go_sem]; omega)))⟩
end Go.Proofs.YtkoodpbcfdblbaaDoor
