import Derived.Test.YtkoodpbcfdblbaaDoorLawF
import Derived.Test.YtkoodpbcfdblbaaDoorLawB
import Derived.Test.YtkoodpbcfdblbaaDoorIntJ
set_option linter.unusedSimpArgs false
set_option linter.unusedVariables false
namespace Go.Proofs.YtkoodpbcfdblbaaDoor
open Go Go.RowKit
open Vi
theorem okInt_mg (z : Int) : okInt (sg z) (mg z) = true := by
  unfold okInt
  by_cases h : z = 0
  · subst h; rw [mg_empty_of 0 rfl, if_pos rfl]; rfl
  · rw [mg_empty_not z h, if_neg (by simp)]
    have hc := can_mag z.natAbs
    unfold Vi.Can at hc
    have : ¬ ((mg z).data.toList.head? = some 0) := hc
    simpa using this
theorem ediv_lt (a b : Int) (k : Nat) (h : a.natAbs < 256 ^ k) (hb : b ≠ 0) : (a / b).natAbs < 256 ^ (k + 1) := by
  have h1 : (a / b).natAbs ≤ a.natAbs + 1 := by
    have h2 := Int.natAbs_ediv_le_natAbs a b
    omega
  have h2 : (256 : Nat) ^ (k + 1) = 256 ^ k * 256 := Nat.pow_succ ..
  omega
set_option maxRecDepth 100000 in
set_option maxHeartbeats 1600000 in
theorem IntegerDivides_c (ba : Bool) (sa : ByteArray) (bb : Bool) (sb : ByteArray) (w : World) (ha : sa.size ≤ 9223372036854775807) (hb : sb.size ≤ 9223372036854775807) :
    Calls Tryd.prog 4 #[.agg #[.bool ba, .string sa], .agg #[.bool bb, .string sb]] w fun e w' => e = .returned (.bool true) ∧ Below w.heap.size w w' := by
  obtain ⟨a, ea⟩ : ∃ x, x = canI ba sa 40 := ⟨_, rfl⟩
  obtain ⟨b, eb⟩ : ∃ x, x = canI bb sb 40 := ⟨_, rfl⟩
  have la0 := ea ▸ canI_lt ba sa 40
  have lb0 := eb ▸ canI_lt bb sb 40
  have la : (mg a).size ≤ 40 := mg_size a 40 la0
  have lb : (mg b).size ≤ 40 := mg_size b 40 lb0
  have ina := Lib.hid fun w => in_e ba sa a ea w ha
  have inb := Lib.hid fun w => in_e bb sb b eb w hb
  have h1 : Hid (∀ w, Calls Tryd.prog 20 #[.agg #[.bool (sg b), .string (mg b)]] w fun e w' => e = .returned (.int .i64 (cmpI b 0)) ∧ Below w.heap.size w w') := Lib.hid fun w => rSign_c b w (by omega)
  clear ea eb ha hb
  by_cases h0 : b = 0
  · subst h0
    have h2 := Lib.hid fun w => DivMod_zero a w
    have v0 : sg 0 = false := by decide
    have v1 : mg 0 = ⟨#[]⟩ := by decide
    have v2 : cmpI 0 0 = 0 := rfl
    rw [v0, v1] at h2 inb
    rw [v0, v1, v2] at h1
    clear la lb la0 lb0 v0 v1 v2
    go_enter Tryd.func4, Tryd.ntmps4
    go_wp2_with fail
    ((first | (with_reducible refine wp_region_steady_plus_t 4 (by kernel_rfl) (by kernel_rfl) ?_) | refine wp_region_steady_t 4 (by kernel_rfl) (by kernel_rfl) ?_); simp only [List.take_succ_cons, List.take_zero, List.drop_succ_cons, List.drop_zero]; repeat go_big_quiet_step (first | (go_at_call 15; first | (with_reducible refine Calls.steady (ina.out _)) | (with_reducible refine Calls.steady (inb.out _))))); (refine wpQuiet_nil ?_; rintro _ ⟨u, rfl⟩)
    (go_wp2_with fail; refine (h2.out _).mono ?_; rintro e w' ⟨rfl, hb⟩; (first | (with_reducible (have hb2 := World.plus_of_below ((World.below_plus _ _).trans (hb.mono (World.size_plus _ _)))); obtain ⟨u, rfl⟩ := hb2) | (obtain ⟨u, rfl⟩ := World.plus_of_below hb)); clear hb)
    go_wp2_with fail
    (go_wp2_with fail; refine (known_c _).mono ?_; rintro e w' ⟨rfl, hb⟩; obtain ⟨u, rfl⟩ := World.plus_of_below hb; clear hb)
    go_wp2_with fail
    (go_wp2_with fail; refine (h1.out _).mono ?_; rintro e w' ⟨rfl, hb⟩; (first | (with_reducible (have hb2 := World.plus_of_below ((World.below_plus _ _).trans (hb.mono (World.size_plus _ _)))); obtain ⟨u, rfl⟩ := hb2) | (obtain ⟨u, rfl⟩ := World.plus_of_below hb)); clear hb)
    go_wp2_with fail
    (go_wp2_with fail; refine (known_c _).mono ?_; rintro e w' ⟨rfl, hb⟩; (first | (with_reducible (have hb2 := World.plus_of_below ((World.below_plus _ _).trans (hb.mono (World.size_plus _ _)))); obtain ⟨u, rfl⟩ := hb2) | (obtain ⟨u, rfl⟩ := World.plus_of_below hb)); clear hb)
    go_wp2_with fail
    go_ret
    exact ⟨rfl, by (repeat' (first | (with_reducible exact Below.refl _ _) | (with_reducible assumption) | (with_reducible refine Below.plus0 ?_ _) | (with_reducible refine Below.alloc0 ?_ _) | (with_reducible refine Below.plus ?_ ?_ _) | (with_reducible refine Below.alloc ?_ ?_ _) | (with_reducible refine Below.drew ?_) | (with_reducible refine Below.drewN ?_ _) | (simp [go_sem]; done) | (simp [go_sem]; omega)))⟩
  · obtain ⟨q, eq⟩ : ∃ x, x = a / b := ⟨_, rfl⟩
    obtain ⟨r, er⟩ : ∃ x, x = a % b := ⟨_, rfl⟩
    obtain ⟨s, es⟩ : ∃ x, x = cmpI b 0 := ⟨_, rfl⟩
    rw [← es] at h1
    have hs : (s == 0) = false := by rw [es]; unfold cmpI; rw [beq_eq_false_iff_ne]; split <;> (try split) <;> omega
    have h2 : Hid (∀ w, Calls Tryd.prog 19 #[.agg #[.bool (sg a), .string (mg a)], .agg #[.bool (sg b), .string (mg b)]] w fun e w' => e = .returned (.tuple #[.agg #[.bool (sg q), .string (mg q)], .agg #[.bool (sg r), .string (mg r)], .int .i64 0]) ∧ Below w.heap.size w w') := Lib.hid fun w => by
      rw [eq, er]; exact DivMod_c a b w h0 (by omega) (by omega)
    have lq0 : q.natAbs < 256 ^ 41 := by rw [eq]; exact ediv_lt a b 40 la0 h0
    have hr0 : 0 ≤ r := by rw [er]; exact Int.emod_nonneg a h0
    have hrb : r < b.natAbs := by rw [er]; exact Int.emod_lt a h0
    have lr0 : r.natAbs < 256 ^ 40 := by omega
    have lq := mg_size q 41 lq0
    have lr := mg_size r 40 lr0
    obtain ⟨p, ep⟩ : ∃ x, x = q * b := ⟨_, rfl⟩
    have lp := mg_size p 81 (ep ▸ natAbs_mul_lt q b 41 40 lq0 lb0)
    have esum : a = p + r := by rw [ep, eq, er, Int.mul_comm]; exact (Int.mul_ediv_add_emod a b).symm
    obtain ⟨v, ev⟩ : ∃ x : Int, x = (b.natAbs : Nat) := ⟨_, rfl⟩
    have lv : (mg v).size ≤ 40 := by have : mg v = mg b := by (unfold mg; rw [ev, Int.natAbs_natCast])
                                     rw [this]; exact lb
    obtain ⟨c1, ec1⟩ : ∃ x, x = cmpI r 0 := ⟨_, rfl⟩
    have hc1 : 0 ≤ c1 := by rw [ec1]; unfold cmpI; split <;> (try split) <;> omega
    have h3 : Hid (∀ w, Calls Tryd.prog 21 #[.agg #[.bool (sg q), .string (mg q)]] w fun e w' => e = .returned (.bool true) ∧ Below w.heap.size w w') := Lib.hid fun w => by
      have := Valid_c (sg q) (mg q) w (by omega)
      rwa [okInt_mg] at this
    have h4 : Hid (∀ w, Calls Tryd.prog 21 #[.agg #[.bool (sg r), .string (mg r)]] w fun e w' => e = .returned (.bool true) ∧ Below w.heap.size w w') := Lib.hid fun w => by
      have := Valid_c (sg r) (mg r) w (by omega)
      rwa [okInt_mg] at this
    have h5 := Lib.hid fun w => rMul_c q b p ep w (by omega) (by omega)
    have h6 := Lib.hid fun w => rAdd_c p r a esum w (by omega) (by omega)
    have h7 : Hid (∀ w, Calls Tryd.prog 20 #[.agg #[.bool (sg r), .string (mg r)]] w fun e w' => e = .returned (.int .i64 c1) ∧ Below w.heap.size w w') := Lib.hid fun w => by rw [ec1]; exact rSign_c r w (by omega)
    have h8 := Lib.hid fun w => rAbs_c b v ev w
    have h9 : Hid (∀ w, Calls Tryd.prog 23 #[.agg #[.bool (sg r), .string (mg r)], .agg #[.bool (sg v), .string (mg v)]] w fun e w' => e = .returned (.int .i64 (-1)) ∧ Below w.heap.size w w') := Lib.hid fun w => by
      have := rCompare_c r v w (by omega) (by omega)
      rwa [show cmpI r v = -1 by unfold cmpI; rw [if_pos (by omega)]] at this
    clear la lb la0 lb0 eq er es lq0 hr0 hrb lr0 lq lr ep lp esum ev lv ec1 h0
    go_enter Tryd.func4, Tryd.ntmps4
    go_wp2_with fail
    ((first | (with_reducible refine wp_region_steady_plus_t 4 (by kernel_rfl) (by kernel_rfl) ?_) | refine wp_region_steady_t 4 (by kernel_rfl) (by kernel_rfl) ?_); simp only [List.take_succ_cons, List.take_zero, List.drop_succ_cons, List.drop_zero]; repeat go_big_quiet_step (first | (go_at_call 15; first | (with_reducible refine Calls.steady (ina.out _)) | (with_reducible refine Calls.steady (inb.out _))))); (refine wpQuiet_nil ?_; rintro _ ⟨u, rfl⟩)
    (go_wp2_with fail; refine (h2.out _).mono ?_; rintro e w' ⟨rfl, hb⟩; (first | (with_reducible (have hb2 := World.plus_of_below ((World.below_plus _ _).trans (hb.mono (World.size_plus _ _)))); obtain ⟨u, rfl⟩ := hb2) | (obtain ⟨u, rfl⟩ := World.plus_of_below hb)); clear hb)
    go_wp2_with fail
    (go_wp2_with fail; refine (known_c _).mono ?_; rintro e w' ⟨rfl, hb⟩; obtain ⟨u, rfl⟩ := World.plus_of_below hb; clear hb)
    go_wp2_with fail
    (go_wp2_with fail; refine (h1.out _).mono ?_; rintro e w' ⟨rfl, hb⟩; (first | (with_reducible (have hb2 := World.plus_of_below ((World.below_plus _ _).trans (hb.mono (World.size_plus _ _)))); obtain ⟨u, rfl⟩ := hb2) | (obtain ⟨u, rfl⟩ := World.plus_of_below hb)); clear hb)
    go_wp2_with fail
    ((first | (with_reducible refine wp_region_steady_plus (by kernel_rfl) (by kernel_rfl) ?_) | refine wp_region_steady (by kernel_rfl) (by kernel_rfl) ?_); repeat go_big_quiet_step (first | (go_at_call 21; first | (with_reducible refine Calls.steady (h3.out _)) | (with_reducible refine Calls.steady (h4.out _))) | (go_at_call 18; with_reducible refine Calls.steady (h5.out _)) | (go_at_call 22; with_reducible refine Calls.steady (h6.out _)) | (go_at_call 20; with_reducible refine Calls.steady (h7.out _)) | (go_at_call 24; with_reducible refine Calls.steady (h8.out _)) | (go_at_call 23; with_reducible refine Calls.steady (h9.out _)))); (refine wpQuiet_nil ?_; rintro _ ⟨u, rfl⟩)
    go_wp2_with fail
    go_ret
    exact ⟨rfl, by (repeat' (first | (with_reducible exact Below.refl _ _) | (with_reducible assumption) | (with_reducible refine Below.plus0 ?_ _) | (with_reducible refine Below.alloc0 ?_ _) | (with_reducible refine Below.plus ?_ ?_ _) | (with_reducible refine Below.alloc ?_ ?_ _) | (with_reducible refine Below.drew ?_) | (with_reducible refine Below.drewN ?_ _) | (simp [go_sem]; done) | (simp [go_sem]; omega)))⟩
end Go.Proofs.YtkoodpbcfdblbaaDoor
