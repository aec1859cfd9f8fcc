import Derived.Test.YtkoodpbcfdblbaaDoorLawE
import Derived.Test.YtkoodpbcfdblbaaDoorRefF
set_option linter.unusedSimpArgs false
set_option linter.unusedVariables false
namespace Go.Proofs.YtkoodpbcfdblbaaDoor
open Go Go.RowKit
open Vi
theorem canK_e (b : Bool) (s : ByteArray) (k : Nat) (z : Int) (h : z = canI b s k) (w : World) (hs : s.size ≤ 9223372036854775807) (hk : k ≤ 4294967296) : Calls Tryd.prog 29 #[.agg #[.bool b, .string s], .int .i64 (k : Int)] w fun e w' => e = .returned (.agg #[.bool (sg z), .string (mg z)]) ∧ Below w.heap.size w w' := by
  subst h; exact Canonical_c b s k w hs hk
theorem mg_int (n : Int) (h1 : -9223372036854775808 ≤ n) (h2 : n ≤ 9223372036854775807) : (mg n).size ≤ 4294967290 := Nat.le_trans (mg_size n 8 (by rw [show (256 : Nat) ^ 8 = 18446744073709551616 from rfl]; omega)) (by omega)
theorem cmpI_le (x y : Int) : (cmpI x y ≤ 0) = (x ≤ y) := by
  unfold cmpI; rw [eq_iff_iff]; repeat' split
  all_goals omega
set_option maxRecDepth 100000 in
set_option maxHeartbeats 1600000 in
theorem IntegerConverts_c (n : Int) (ba : Bool) (sa : ByteArray) (w : World) (hn1 : -9223372036854775808 ≤ n) (hn2 : n ≤ 9223372036854775807) (ha : sa.size ≤ 9223372036854775807) :
    Calls Tryd.prog 8 #[.int .i64 n, .agg #[.bool ba, .string sa]] w fun e w' => e = .returned (.bool true) ∧ Below w.heap.size w w' := by
  obtain ⟨a, ea⟩ : ∃ x, x = canI ba sa 12 := ⟨_, rfl⟩
  have la : (mg a).size ≤ 4294967296 := Nat.le_trans (mg_size a 12 (ea ▸ canI_lt ba sa 12)) (by omega)
  have h0 : Hid (∀ w, Calls Tryd.prog 29 #[.agg #[.bool ba, .string sa], .int .i64 12] w fun e w' => e = .returned (.agg #[.bool (sg a), .string (mg a)]) ∧ Below w.heap.size w w') := Lib.hid fun w => canK_e ba sa 12 a ea w ha (by omega)
  have h1 := Lib.hid fun w => FromInt_c n w hn1 hn2
  have h2 : Hid (∀ w, Calls Tryd.prog 32 #[.agg #[.bool (sg n), .string (mg n)]] w fun e w' => e = .returned (.tuple #[.int .i64 n, .bool true]) ∧ Below w.heap.size w w') := Lib.hid fun w => by
    have := ToInt_c n w (Nat.le_trans (mg_int n hn1 hn2) (by omega))
    rw [show inI64 n = true by unfold inI64; simp; omega, if_pos rfl] at this
    exact this
  have h4 := Lib.hid fun w => rFromInt_c n w hn1 hn2
  have h5 := Lib.hid fun w => rFromInt_c (-9223372036854775808) w (by omega) (by omega)
  have h6 := Lib.hid fun w => rFromInt_c 9223372036854775807 w (by omega) (by omega)
  obtain ⟨lo, elo⟩ : ∃ x : Int, x = -9223372036854775808 := ⟨_, rfl⟩
  obtain ⟨hi, ehi⟩ : ∃ x : Int, x = 9223372036854775807 := ⟨_, rfl⟩
  obtain ⟨c1, ec1⟩ : ∃ x : Int, x = cmpI lo a := ⟨_, rfl⟩
  obtain ⟨c2, ec2⟩ : ∃ x : Int, x = cmpI a hi := ⟨_, rfl⟩
  have h7 : Hid (∀ w, Calls Tryd.prog 23 #[.agg #[.bool (sg lo), .string (mg lo)], .agg #[.bool (sg a), .string (mg a)]] w fun e w' => e = .returned (.int .i64 c1) ∧ Below w.heap.size w w') := Lib.hid fun w => by rw [ec1]; exact rCompare_c lo a w (Nat.le_trans (mg_int lo (by omega) (by omega)) (by omega)) la
  have h8 : Hid (∀ w, Calls Tryd.prog 23 #[.agg #[.bool (sg a), .string (mg a)], .agg #[.bool (sg hi), .string (mg hi)]] w fun e w' => e = .returned (.int .i64 c2) ∧ Below w.heap.size w w') := Lib.hid fun w => by rw [ec2]; exact rCompare_c a hi w la (Nat.le_trans (mg_int hi (by omega) (by omega)) (by omega))
  have k1 : (c1 ≤ 0) = (lo ≤ a) := by rw [ec1]; exact cmpI_le lo a
  have k2 : (c2 ≤ 0) = (a ≤ hi) := by rw [ec2]; exact cmpI_le a hi
  have h3 := fun w => ToInt_c a w la
  have h5' : Hid (∀ w, Calls Tryd.prog 31 #[.int .i64 (-9223372036854775808)] w fun e w' => e = .returned (.agg #[.bool (sg lo), .string (mg lo)]) ∧ Below w.heap.size w w') := Lib.hid fun w => by rw [elo]; exact h5.out w
  have h6' : Hid (∀ w, Calls Tryd.prog 31 #[.int .i64 9223372036854775807] w fun e w' => e = .returned (.agg #[.bool (sg hi), .string (mg hi)]) ∧ Below w.heap.size w w') := Lib.hid fun w => by rw [ehi]; exact h6.out w
  clear h5 h6
  by_cases hf : lo ≤ a ∧ a ≤ hi
  · have e : inI64 a = true := by unfold inI64; simp; omega
    rw [e, if_pos rfl] at h3
    have H3 := Lib.hid h3
    have H9 := Lib.hid fun w => rFromInt_c a w (by omega) (by omega)
    have p1 : c1 ≤ 0 := k1 ▸ hf.1
    have p2 : c2 ≤ 0 := k2 ▸ hf.2
    clear ea h3 elo ehi ec1 ec2 k1 k2 hf e hn1 hn2 ha la
    go_enter Tryd.func8, Tryd.ntmps8
    go_wp2_with fail
    (go_wp2_with fail; refine (h0.out _).mono ?_; rintro e w' ⟨rfl, hb⟩; obtain ⟨u, rfl⟩ := World.plus_of_below hb; clear hb)
    go_wp2_with fail
    (go_wp2_with fail; refine (h1.out _).mono ?_; rintro e w' ⟨rfl, hb⟩; obtain ⟨u, rfl⟩ := World.plus_of_below hb; clear hb)
    go_wp2_with fail
    (go_wp2_with fail; refine (h2.out _).mono ?_; rintro e w' ⟨rfl, hb⟩; obtain ⟨u, rfl⟩ := World.plus_of_below hb; clear hb)
    go_wp2_with fail
    (go_wp2_with fail; refine (H3.out _).mono ?_; rintro e w' ⟨rfl, hb⟩; (first | (with_reducible (have hb2 := World.plus_of_below ((World.below_plus _ _).trans (hb.mono (World.size_plus _ _)))); obtain ⟨u, rfl⟩ := hb2) | (obtain ⟨u, rfl⟩ := World.plus_of_below hb)); clear hb)
    go_wp2_with fail
    (go_wp2_with fail; refine (h5'.out _).mono ?_; rintro e w' ⟨rfl, hb⟩; (first | (with_reducible (have hb2 := World.plus_of_below ((World.below_plus _ _).trans (hb.mono (World.size_plus _ _)))); obtain ⟨u, rfl⟩ := hb2) | (obtain ⟨u, rfl⟩ := World.plus_of_below hb)); clear hb)
    go_wp2_with fail
    (go_wp2_with fail; refine (h6'.out _).mono ?_; rintro e w' ⟨rfl, hb⟩; (first | (with_reducible (have hb2 := World.plus_of_below ((World.below_plus _ _).trans (hb.mono (World.size_plus _ _)))); obtain ⟨u, rfl⟩ := hb2) | (obtain ⟨u, rfl⟩ := World.plus_of_below hb)); clear hb)
    go_wp2_with fail
    (go_wp2_with fail; refine (h7.out _).mono ?_; rintro e w' ⟨rfl, hb⟩; obtain ⟨u, rfl⟩ := World.plus_of_below hb; clear hb)
    go_wp2_with fail
    (go_wp2_with fail; refine (h8.out _).mono ?_; rintro e w' ⟨rfl, hb⟩; (first | (with_reducible (have hb2 := World.plus_of_below ((World.below_plus _ _).trans (hb.mono (World.size_plus _ _)))); obtain ⟨u, rfl⟩ := hb2) | (obtain ⟨u, rfl⟩ := World.plus_of_below hb)); clear hb)
    go_wp2_with fail
    ((first | (with_reducible refine wp_region_steady_plus (by kernel_rfl) (by kernel_rfl) ?_) | refine wp_region_steady (by kernel_rfl) (by kernel_rfl) ?_); repeat go_big_quiet_step (first | (go_at_call 16; refine Calls.steady (known_c _)) | (go_at_call 31; first | (with_reducible refine Calls.steady (h4.out _)) | (with_reducible refine Calls.steady (H9.out _))))); (refine wpQuiet_nil ?_; rintro _ ⟨u, rfl⟩)
    go_wp2_with fail
    go_ret
    exact ⟨rfl, by (repeat' (first | (with_reducible exact Below.refl _ _) | (with_reducible assumption) | (with_reducible refine Below.plus0 ?_ _) | (with_reducible refine Below.alloc0 ?_ _) | (with_reducible refine Below.plus ?_ ?_ _) | (with_reducible refine Below.alloc ?_ ?_ _) | (with_reducible refine Below.drew ?_) | (with_reducible refine Below.drewN ?_ _) | (simp [go_sem]; done) | (simp [go_sem]; omega)))⟩
  · have e : inI64 a = false := by unfold inI64; simp; omega
    rw [e, if_neg (by simp)] at h3
    have H3 := Lib.hid h3
    by_cases hq : lo ≤ a
    · have p1 : c1 ≤ 0 := k1 ▸ hq
      have p2 : ¬ c2 ≤ 0 := by rw [k2]; omega
      have pd : decide (c2 ≤ 0) = false := by simp; omega
      clear ea h3 elo ehi ec1 ec2 k1 k2 hf e hn1 hn2 ha la hq
      go_enter Tryd.func8, Tryd.ntmps8
      go_wp2_with fail
      (go_wp2_with fail; refine (h0.out _).mono ?_; rintro e w' ⟨rfl, hb⟩; obtain ⟨u, rfl⟩ := World.plus_of_below hb; clear hb)
      go_wp2_with fail
      (go_wp2_with fail; refine (h1.out _).mono ?_; rintro e w' ⟨rfl, hb⟩; obtain ⟨u, rfl⟩ := World.plus_of_below hb; clear hb)
      go_wp2_with fail
      (go_wp2_with fail; refine (h2.out _).mono ?_; rintro e w' ⟨rfl, hb⟩; obtain ⟨u, rfl⟩ := World.plus_of_below hb; clear hb)
      go_wp2_with fail
      (go_wp2_with fail; refine (H3.out _).mono ?_; rintro e w' ⟨rfl, hb⟩; (first | (with_reducible (have hb2 := World.plus_of_below ((World.below_plus _ _).trans (hb.mono (World.size_plus _ _)))); obtain ⟨u, rfl⟩ := hb2) | (obtain ⟨u, rfl⟩ := World.plus_of_below hb)); clear hb)
      go_wp2_with fail
      (go_wp2_with fail; refine (h5'.out _).mono ?_; rintro e w' ⟨rfl, hb⟩; (first | (with_reducible (have hb2 := World.plus_of_below ((World.below_plus _ _).trans (hb.mono (World.size_plus _ _)))); obtain ⟨u, rfl⟩ := hb2) | (obtain ⟨u, rfl⟩ := World.plus_of_below hb)); clear hb)
      go_wp2_with fail
      (go_wp2_with fail; refine (h6'.out _).mono ?_; rintro e w' ⟨rfl, hb⟩; (first | (with_reducible (have hb2 := World.plus_of_below ((World.below_plus _ _).trans (hb.mono (World.size_plus _ _)))); obtain ⟨u, rfl⟩ := hb2) | (obtain ⟨u, rfl⟩ := World.plus_of_below hb)); clear hb)
      go_wp2_with fail
      (go_wp2_with fail; refine (h7.out _).mono ?_; rintro e w' ⟨rfl, hb⟩; obtain ⟨u, rfl⟩ := World.plus_of_below hb; clear hb)
      go_wp2_with fail
      (go_wp2_with fail; refine (h8.out _).mono ?_; rintro e w' ⟨rfl, hb⟩; (first | (with_reducible (have hb2 := World.plus_of_below ((World.below_plus _ _).trans (hb.mono (World.size_plus _ _)))); obtain ⟨u, rfl⟩ := hb2) | (obtain ⟨u, rfl⟩ := World.plus_of_below hb)); clear hb)
      go_wp2_with fail
      ((first | (with_reducible refine wp_region_steady_plus (by kernel_rfl) (by kernel_rfl) ?_) | refine wp_region_steady (by kernel_rfl) (by kernel_rfl) ?_); repeat go_big_quiet_step (first | (go_at_call 16; refine Calls.steady (known_c _)) | (go_at_call 31; (with_reducible refine Calls.steady (h4.out _))))); (refine wpQuiet_nil ?_; rintro _ ⟨u, rfl⟩)
      go_wp2_with fail
      go_ret
      exact ⟨rfl, by (repeat' (first | (with_reducible exact Below.refl _ _) | (with_reducible assumption) | (with_reducible refine Below.plus0 ?_ _) | (with_reducible refine Below.alloc0 ?_ _) | (with_reducible refine Below.plus ?_ ?_ _) | (with_reducible refine Below.alloc ?_ ?_ _) | (with_reducible refine Below.drew ?_) | (with_reducible refine Below.drewN ?_ _) | (simp [go_sem]; done) | (simp [go_sem]; omega)))⟩
    · have p1 : ¬ c1 ≤ 0 := by rw [k1]; exact hq
      have pd : decide (c1 ≤ 0) = false := by simp; omega
      clear ea h3 elo ehi ec1 ec2 k1 k2 hf e hn1 hn2 ha la hq
      go_enter Tryd.func8, Tryd.ntmps8
      go_wp2_with fail
      (go_wp2_with fail; refine (h0.out _).mono ?_; rintro e w' ⟨rfl, hb⟩; obtain ⟨u, rfl⟩ := World.plus_of_below hb; clear hb)
      go_wp2_with fail
      (go_wp2_with fail; refine (h1.out _).mono ?_; rintro e w' ⟨rfl, hb⟩; obtain ⟨u, rfl⟩ := World.plus_of_below hb; clear hb)
      go_wp2_with fail
      (go_wp2_with fail; refine (h2.out _).mono ?_; rintro e w' ⟨rfl, hb⟩; obtain ⟨u, rfl⟩ := World.plus_of_below hb; clear hb)
      go_wp2_with fail
      (go_wp2_with fail; refine (H3.out _).mono ?_; rintro e w' ⟨rfl, hb⟩; (first | (with_reducible (have hb2 := World.plus_of_below ((World.below_plus _ _).trans (hb.mono (World.size_plus _ _)))); obtain ⟨u, rfl⟩ := hb2) | (obtain ⟨u, rfl⟩ := World.plus_of_below hb)); clear hb)
      go_wp2_with fail
      (go_wp2_with fail; refine (h5'.out _).mono ?_; rintro e w' ⟨rfl, hb⟩; (first | (with_reducible (have hb2 := World.plus_of_below ((World.below_plus _ _).trans (hb.mono (World.size_plus _ _)))); obtain ⟨u, rfl⟩ := hb2) | (obtain ⟨u, rfl⟩ := World.plus_of_below hb)); clear hb)
      go_wp2_with fail
      (go_wp2_with fail; refine (h6'.out _).mono ?_; rintro e w' ⟨rfl, hb⟩; (first | (with_reducible (have hb2 := World.plus_of_below ((World.below_plus _ _).trans (hb.mono (World.size_plus _ _)))); obtain ⟨u, rfl⟩ := hb2) | (obtain ⟨u, rfl⟩ := World.plus_of_below hb)); clear hb)
      go_wp2_with fail
      (go_wp2_with fail; refine (h7.out _).mono ?_; rintro e w' ⟨rfl, hb⟩; obtain ⟨u, rfl⟩ := World.plus_of_below hb; clear hb)
      go_wp2_with fail
      ((first | (with_reducible refine wp_region_steady_plus (by kernel_rfl) (by kernel_rfl) ?_) | refine wp_region_steady (by kernel_rfl) (by kernel_rfl) ?_); repeat go_big_quiet_step (first | (go_at_call 16; refine Calls.steady (known_c _)) | (go_at_call 31; (with_reducible refine Calls.steady (h4.out _))))); (refine wpQuiet_nil ?_; rintro _ ⟨u, rfl⟩)
      go_wp2_with fail
      go_ret
      exact ⟨rfl, by (repeat' (first | (with_reducible exact Below.refl _ _) | (with_reducible assumption) | (with_reducible refine Below.plus0 ?_ _) | (with_reducible refine Below.alloc0 ?_ _) | (with_reducible refine Below.plus ?_ ?_ _) | (with_reducible refine Below.alloc ?_ ?_ _) | (with_reducible refine Below.drew ?_) | (with_reducible refine Below.drewN ?_ _) | (simp [go_sem]; done) | (simp [go_sem]; omega)))⟩
end Go.Proofs.YtkoodpbcfdblbaaDoor
