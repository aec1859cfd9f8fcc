import Derived.Test.YtkoodpbcfdblbaaDoorLawC
import Derived.Test.YtkoodpbcfdblbaaDoorRefD
set_option linter.unusedSimpArgs false
set_option linter.unusedVariables false
namespace Go.Proofs.YtkoodpbcfdblbaaDoor
open Go Go.RowKit
open Vi
set_option maxRecDepth 100000 in
set_option maxHeartbeats 1600000 in
theorem IntegerAdds_c (ba : Bool) (sa : ByteArray) (bb : Bool) (sb : ByteArray) (w : World) (ha : sa.size ≤ 9223372036854775807) (hb : sb.size ≤ 9223372036854775807) :
    Calls Tryd.prog 9 #[.agg #[.bool ba, .string sa], .agg #[.bool bb, .string sb]] w fun e w' => e = .returned (.bool true) ∧ Below w.heap.size w w' := by
  obtain ⟨a, ea⟩ : ∃ x, x = canI ba sa 40 := ⟨_, rfl⟩
  obtain ⟨b, eb⟩ : ∃ x, x = canI bb sb 40 := ⟨_, rfl⟩
  have la : (mg a).size ≤ 4294967296 := Nat.le_trans (mg_size a 40 (ea ▸ canI_lt ba sa 40)) (by omega)
  have lb : (mg b).size ≤ 4294967296 := Nat.le_trans (mg_size b 40 (eb ▸ canI_lt bb sb 40)) (by omega)
  have ina := Lib.hid fun w => in_e ba sa a ea w ha
  have inb := Lib.hid fun w => in_e bb sb b eb w hb
  obtain ⟨s, es⟩ : ∃ x, x = a + b := ⟨_, rfl⟩
  obtain ⟨d, ed⟩ : ∃ x, x = a - b := ⟨_, rfl⟩
  obtain ⟨n, en⟩ : ∃ x, x = -a := ⟨_, rfl⟩
  obtain ⟨v, ev⟩ : ∃ x : Int, x = (a.natAbs : Nat) := ⟨_, rfl⟩
  have h1 : Hid (∀ w, Calls Tryd.prog 26 #[.agg #[.bool (sg a), .string (mg a)], .agg #[.bool (sg b), .string (mg b)]] w fun e w' => e = .returned (.agg #[.bool (sg s), .string (mg s)]) ∧ Below w.heap.size w w') := Lib.hid fun w => by rw [es]; exact Add_c a b w la lb
  have h2 := Lib.hid fun w => rAdd_c a b s es w la lb
  have h3 : Hid (∀ w, Calls Tryd.prog 33 #[.agg #[.bool (sg a), .string (mg a)], .agg #[.bool (sg b), .string (mg b)]] w fun e w' => e = .returned (.agg #[.bool (sg d), .string (mg d)]) ∧ Below w.heap.size w w') := Lib.hid fun w => by rw [ed]; exact Sub_c a b w la lb
  have h4 := Lib.hid fun w => rSub_c a b d ed w la lb
  have h5 : Hid (∀ w, Calls Tryd.prog 28 #[.agg #[.bool (sg a), .string (mg a)]] w fun e w' => e = .returned (.agg #[.bool (sg n), .string (mg n)]) ∧ Below w.heap.size w w') := Lib.hid fun w => Negate_e a n en w
  have h6 := Lib.hid fun w => rNegate_c a n en w
  have h7 : Hid (∀ w, Calls Tryd.prog 36 #[.agg #[.bool (sg a), .string (mg a)]] w fun e w' => e = .returned (.agg #[.bool (sg v), .string (mg v)]) ∧ Below w.heap.size w w') := Lib.hid fun w => by
    have := Abs_c (sg a) a.natAbs w
    rw [ev]
    exact this
  have h8 := Lib.hid fun w => rAbs_c a v ev w
  clear ea eb es ed en ev la lb ha hb
  go_enter Tryd.func9, Tryd.ntmps9
  go_wp2_with fail
  ((first | (with_reducible refine wp_region_steady_plus_t 4 (by kernel_rfl) (by kernel_rfl) ?_) | refine wp_region_steady_t 4 (by kernel_rfl) (by kernel_rfl) ?_); simp only [List.take_succ_cons, List.take_zero, List.drop_succ_cons, List.drop_zero]; repeat go_big_quiet_step (first | (go_at_call 15; first | (with_reducible refine Calls.steady (ina.out _)) | (with_reducible refine Calls.steady (inb.out _))))); (refine wpQuiet_nil ?_; rintro _ ⟨u, rfl⟩)
  go_wp2_with fail
  ((first | (with_reducible refine wp_region_steady_plus (by kernel_rfl) (by kernel_rfl) ?_) | refine wp_region_steady (by kernel_rfl) (by kernel_rfl) ?_); repeat go_big_quiet_step (first | (go_at_call 16; refine Calls.steady (known_c _)) | (go_at_call 26; with_reducible refine Calls.steady (h1.out _)) | (go_at_call 22; with_reducible refine Calls.steady (h2.out _)) | (go_at_call 33; with_reducible refine Calls.steady (h3.out _)) | (go_at_call 34; with_reducible refine Calls.steady (h4.out _)) | (go_at_call 28; with_reducible refine Calls.steady (h5.out _)) | (go_at_call 35; with_reducible refine Calls.steady (h6.out _)) | (go_at_call 36; with_reducible refine Calls.steady (h7.out _)) | (go_at_call 24; with_reducible refine Calls.steady (h8.out _)))); (refine wpQuiet_nil ?_; rintro _ ⟨u, rfl⟩)
  go_wp2_with fail
  go_ret
  exact ⟨rfl, by (repeat' (first | (with_reducible exact Below.refl _ _) | (with_reducible assumption) | (with_reducible refine Below.plus0 ?_ _) | (with_reducible refine Below.alloc0 ?_ _) | (with_reducible refine Below.plus ?_ ?_ _) | (with_reducible refine Below.alloc ?_ ?_ _) | (with_reducible refine Below.drew ?_) | (with_reducible refine Below.drewN ?_ _) | (simp [go_sem]; done) | (simp [go_sem]; omega)))⟩
end Go.Proofs.YtkoodpbcfdblbaaDoor
