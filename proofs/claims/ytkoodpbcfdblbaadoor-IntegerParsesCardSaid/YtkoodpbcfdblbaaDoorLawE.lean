import Derived.Test.YtkoodpbcfdblbaaDoorLawD
import Derived.Test.YtkoodpbcfdblbaaDoorRefE
set_option linter.unusedSimpArgs false
set_option linter.unusedVariables false
namespace Go.Proofs.YtkoodpbcfdblbaaDoor
open Go Go.RowKit
open Vi
set_option maxRecDepth 100000 in
set_option maxHeartbeats 1600000 in
theorem IntegerMultiplies_c (ba : Bool) (sa : ByteArray) (bb : Bool) (sb : ByteArray) (w : World) (ha : sa.size ≤ 9223372036854775807) (hb : sb.size ≤ 9223372036854775807) :
    Calls Tryd.prog 3 #[.agg #[.bool ba, .string sa], .agg #[.bool bb, .string sb]] w fun e w' => e = .returned (.bool true) ∧ Below w.heap.size w w' := by
  obtain ⟨a, ea⟩ : ∃ x, x = canI ba sa 40 := ⟨_, rfl⟩
  obtain ⟨b, eb⟩ : ∃ x, x = canI bb sb 40 := ⟨_, rfl⟩
  have la : (mg a).size ≤ 40 := mg_size a 40 (ea ▸ canI_lt ba sa 40)
  have lb : (mg b).size ≤ 40 := mg_size b 40 (eb ▸ canI_lt bb sb 40)
  have ina := Lib.hid fun w => in_e ba sa a ea w ha
  have inb := Lib.hid fun w => in_e bb sb b eb w hb
  obtain ⟨s, es⟩ : ∃ x, x = a * b := ⟨_, rfl⟩
  have h1 : Hid (∀ w, Calls Tryd.prog 17 #[.agg #[.bool (sg a), .string (mg a)], .agg #[.bool (sg b), .string (mg b)]] w fun e w' => e = .returned (.agg #[.bool (sg s), .string (mg s)]) ∧ Below w.heap.size w w') := Lib.hid fun w => by rw [es]; exact Mul_c a b w (by omega) (by omega)
  have h2 := Lib.hid fun w => rMul_c a b s es w (by omega) (by omega)
  clear ea eb es la lb ha hb
  go_enter Tryd.func3, Tryd.ntmps3
  go_wp2_with fail
  ((first | (with_reducible refine wp_region_steady_plus_t 4 (by kernel_rfl) (by kernel_rfl) ?_) | refine wp_region_steady_t 4 (by kernel_rfl) (by kernel_rfl) ?_); simp only [List.take_succ_cons, List.take_zero, List.drop_succ_cons, List.drop_zero]; repeat go_big_quiet_step (first | (go_at_call 15; first | (with_reducible refine Calls.steady (ina.out _)) | (with_reducible refine Calls.steady (inb.out _))))); (refine wpQuiet_nil ?_; rintro _ ⟨u, rfl⟩)
  go_wp2_with fail
  ((first | (with_reducible refine wp_region_steady_plus (by kernel_rfl) (by kernel_rfl) ?_) | refine wp_region_steady (by kernel_rfl) (by kernel_rfl) ?_); repeat go_big_quiet_step (first | (go_at_call 16; refine Calls.steady (known_c _)) | (go_at_call 17; with_reducible refine Calls.steady (h1.out _)) | (go_at_call 18; with_reducible refine Calls.steady (h2.out _)))); (refine wpQuiet_nil ?_; rintro _ ⟨u, rfl⟩)
  go_wp2_with fail
  go_ret
  exact ⟨rfl, by (repeat' (first | (with_reducible exact Below.refl _ _) | (with_reducible assumption) | (with_reducible refine Below.plus0 ?_ _) | (with_reducible refine Below.alloc0 ?_ _) | (with_reducible refine Below.plus ?_ ?_ _) | (with_reducible refine Below.alloc ?_ ?_ _) | (with_reducible refine Below.drew ?_) | (with_reducible refine Below.drewN ?_ _) | (simp [go_sem]; done) | (simp [go_sem]; omega)))⟩
end Go.Proofs.YtkoodpbcfdblbaaDoor
