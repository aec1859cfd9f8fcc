import Derived.Test.YtkoodpbcfdblbaaDoorProg
import Derived.Test.YtkoodpbcfdblbaaDoorShelf
import Derived.Test.YtkoodpbcfdblbaaDoorKnown
import Derived.Test.YtkoodpbcfdblbaaDoorRefB
import Derived.Test.YtkoodpbcfdblbaaDoorKinds
import Derived.Test.YtkoodpbcfdblbaaDoorRefC
import Derived.Test.YtkoodpbcfdblbaaDoorLawA
set_option linter.unusedSimpArgs false
set_option linter.unusedVariables false
namespace Go.Proofs.YtkoodpbcfdblbaaDoor
open Go Go.RowKit
open Vi
theorem cmpI_neg (x y : Int) : cmpI y x = - cmpI x y := by unfold cmpI; repeat' split
                                                           all_goals omega
theorem cmpI_self (x : Int) : cmpI x x = 0 := by unfold cmpI; rw [if_neg (by omega), if_pos rfl]
theorem cmpI_sub (x y : Int) : cmpI (x - y) 0 = cmpI x y := by unfold cmpI; repeat' split
                                                               all_goals omega
theorem wrap_neg_cmpI (x y : Int) : IntKind.i64.wrap (-cmpI x y) = -cmpI x y := by
  unfold cmpI; repeat' split
  all_goals rfl
set_option maxRecDepth 100000 in
set_option maxHeartbeats 1600000 in
theorem IntegerCompares_c (ba : Bool) (sa : ByteArray) (bb : Bool) (sb : ByteArray) (w : World) (ha : sa.size ≤ 9223372036854775807) (hb : sb.size ≤ 9223372036854775807) :
    Calls Tryd.prog 11 #[.agg #[.bool ba, .string sa], .agg #[.bool bb, .string sb]] w fun e w' => e = .returned (.bool true) ∧ Below w.heap.size w w' := by
  obtain ⟨a, ea⟩ : ∃ x, x = canI ba sa 40 := ⟨_, rfl⟩
  obtain ⟨b, eb⟩ : ∃ x, x = canI bb sb 40 := ⟨_, rfl⟩
  have la : (mg a).size ≤ 4294967296 := Nat.le_trans (mg_size a 40 (ea ▸ canI_lt ba sa 40)) (by omega)
  have lb : (mg b).size ≤ 4294967296 := Nat.le_trans (mg_size b 40 (eb ▸ canI_lt bb sb 40)) (by omega)
  have ina := Lib.hid fun w => in_e ba sa a ea w ha
  have inb := Lib.hid fun w => in_e bb sb b eb w hb
  obtain ⟨c, ec⟩ : ∃ c, c = cmpI a b := ⟨_, rfl⟩
  obtain ⟨d, ed⟩ : ∃ d, d = a - b := ⟨_, rfl⟩
  obtain ⟨s, es⟩ : ∃ s, s = cmpI a 0 := ⟨_, rfl⟩
  obtain ⟨k, ek⟩ : ∃ k, k = ((nd 2 a.natAbs : Nat) : Int) := ⟨_, rfl⟩
  have hw : IntKind.i64.wrap (-c) = -c := by rw [ec]; exact wrap_neg_cmpI a b
  have h1 : Hid (∀ w, Calls Tryd.prog 23 #[.agg #[.bool (sg a), .string (mg a)], .agg #[.bool (sg b), .string (mg b)]] w fun e w' => e = .returned (.int .i64 c) ∧ Below w.heap.size w w') := Lib.hid fun w => by rw [ec]; exact rCompare_c a b w la lb
  have h2 : Hid (∀ w, Calls Tryd.prog 39 #[.agg #[.bool (sg a), .string (mg a)], .agg #[.bool (sg b), .string (mg b)]] w fun e w' => e = .returned (.int .i64 c) ∧ Below w.heap.size w w') := Lib.hid fun w => by rw [ec]; exact Compare_c a b w la lb
  have h3 : Hid (∀ w, Calls Tryd.prog 39 #[.agg #[.bool (sg b), .string (mg b)], .agg #[.bool (sg a), .string (mg a)]] w fun e w' => e = .returned (.int .i64 (-c)) ∧ Below w.heap.size w w') := Lib.hid fun w => by rw [ec, ← cmpI_neg]; exact Compare_c b a w lb la
  have h4 : Hid (∀ w, Calls Tryd.prog 39 #[.agg #[.bool (sg a), .string (mg a)], .agg #[.bool (sg a), .string (mg a)]] w fun e w' => e = .returned (.int .i64 0) ∧ Below w.heap.size w w') := Lib.hid fun w => by
    have := Compare_c a a w la la
    rw [cmpI_self] at this; exact this
  have h5 : Hid (∀ w, Calls Tryd.prog 40 #[.agg #[.bool (sg a), .string (mg a)]] w fun e w' => e = .returned (.int .i64 s) ∧ Below w.heap.size w w') := Lib.hid fun w => by rw [es]; exact Sign_c a w
  have h6 : Hid (∀ w, Calls Tryd.prog 20 #[.agg #[.bool (sg a), .string (mg a)]] w fun e w' => e = .returned (.int .i64 s) ∧ Below w.heap.size w w') := Lib.hid fun w => by rw [es]; exact rSign_c a w la
  have h7 : Hid (∀ w, Calls Tryd.prog 41 #[.agg #[.bool (sg a), .string (mg a)]] w fun e w' => e = .returned (.int .i64 k) ∧ Below w.heap.size w w') := Lib.hid fun w => by rw [ek]; exact Bits_c a w la
  have h8 : Hid (∀ w, Calls Tryd.prog 42 #[.agg #[.bool (sg a), .string (mg a)]] w fun e w' => e = .returned (.int .i64 k) ∧ Below w.heap.size w w') := Lib.hid fun w => by rw [ek]; exact rBits_c a w la
  have h9 : Hid (∀ w, Calls Tryd.prog 33 #[.agg #[.bool (sg a), .string (mg a)], .agg #[.bool (sg b), .string (mg b)]] w fun e w' => e = .returned (.agg #[.bool (sg d), .string (mg d)]) ∧ Below w.heap.size w w') := Lib.hid fun w => by rw [ed]; exact Sub_c a b w la lb
  have h10 : Hid (∀ w, Calls Tryd.prog 40 #[.agg #[.bool (sg d), .string (mg d)]] w fun e w' => e = .returned (.int .i64 c) ∧ Below w.heap.size w w') := Lib.hid fun w => by
    have := Sign_c d w
    rw [ed, cmpI_sub, ← ec, ← ed] at this; exact this
  clear ea eb ec ed es ek la lb ha hb
  go_enter Tryd.func11, Tryd.ntmps11
  go_wp2_with fail
  ((first | (with_reducible refine wp_region_steady_plus_t 4 (by kernel_rfl) (by kernel_rfl) ?_) | refine wp_region_steady_t 4 (by kernel_rfl) (by kernel_rfl) ?_); simp only [List.take_succ_cons, List.take_zero, List.drop_succ_cons, List.drop_zero]; repeat go_big_quiet_step (first | (go_at_call 15; first | (with_reducible refine Calls.steady (ina.out _)) | (with_reducible refine Calls.steady (inb.out _))))); (refine wpQuiet_nil ?_; rintro _ ⟨u, rfl⟩)
  (go_wp2_with fail; refine (h1.out _).mono ?_; rintro e w' ⟨rfl, hb⟩; (first | (with_reducible (have hb2 := World.plus_of_below ((World.below_plus _ _).trans (hb.mono (World.size_plus _ _)))); obtain ⟨u, rfl⟩ := hb2) | (obtain ⟨u, rfl⟩ := World.plus_of_below hb)); clear hb)
  go_wp2_with fail
  ((first | (with_reducible refine wp_region_steady_plus (by kernel_rfl) (by kernel_rfl) ?_) | refine wp_region_steady (by kernel_rfl) (by kernel_rfl) ?_); repeat go_big_quiet_step (first | (go_at_call 16; refine Calls.steady (known_c _)) | (go_at_call 39; first | (with_reducible refine Calls.steady (h2.out _)) | (with_reducible refine Calls.steady (h3.out _)) | (with_reducible refine Calls.steady (h4.out _))) | (go_at_call 40; first | (with_reducible refine Calls.steady (h5.out _)) | (with_reducible refine Calls.steady (h10.out _))) | (go_at_call 20; with_reducible refine Calls.steady (h6.out _)) | (go_at_call 41; with_reducible refine Calls.steady (h7.out _)) | (go_at_call 42; with_reducible refine Calls.steady (h8.out _)) | (go_at_call 33; with_reducible refine Calls.steady (h9.out _)))); (refine wpQuiet_nil ?_; rintro _ ⟨u, rfl⟩)
  go_wp2_with fail
  go_ret
  exact ⟨rfl, by (repeat' (first | (with_reducible exact Below.refl _ _) | (with_reducible assumption) | (with_reducible refine Below.plus0 ?_ _) | (with_reducible refine Below.alloc0 ?_ _) | (with_reducible refine Below.plus ?_ ?_ _) | (with_reducible refine Below.alloc ?_ ?_ _) | (with_reducible refine Below.drew ?_) | (with_reducible refine Below.drewN ?_ _) | (simp [go_sem]; done) | (simp [go_sem]; omega)))⟩
end Go.Proofs.YtkoodpbcfdblbaaDoor
