import Derived.Test.YtkoodpbcfdblbaaDoorLawH
import Derived.Test.YtkoodpbcfdblbaaDoorIntK
import Derived.Test.YtkoodpbcfdblbaaDoorRefI
set_option linter.unusedSimpArgs false
set_option linter.unusedVariables false
namespace Go.Proofs.YtkoodpbcfdblbaaDoor
open Go Go.RowKit
open Vi
set_option maxRecDepth 100000 in
set_option maxHeartbeats 1600000 in
theorem IntegerGcds_c (ba : Bool) (sa : ByteArray) (bb : Bool) (sb : ByteArray) (bc : Bool) (sc : ByteArray) (w : World) (ha : sa.size ≤ 9223372036854775807) (hb : sb.size ≤ 9223372036854775807) (hc : sc.size ≤ 9223372036854775807) :
    Calls Tryd.prog 10 #[.agg #[.bool ba, .string sa], .agg #[.bool bb, .string sb], .agg #[.bool bc, .string sc]] w fun e w' => e = .returned (.bool true) ∧ Below w.heap.size w w' := by
  obtain ⟨a, ea⟩ : ∃ x, x = canI ba sa 24 := ⟨_, rfl⟩
  obtain ⟨b, eb⟩ : ∃ x, x = canI bb sb 24 := ⟨_, rfl⟩
  obtain ⟨c, ec⟩ : ∃ x, x = canI bc sc 4 := ⟨_, rfl⟩
  have la0 := ea ▸ canI_lt ba sa 24
  have lb0 := eb ▸ canI_lt bb sb 24
  have lc0 := ec ▸ canI_lt bc sc 4
  have la := mg_size a 24 la0
  have lb := mg_size b 24 lb0
  have lc := mg_size c 4 lc0
  have ina : Hid (∀ w, Calls Tryd.prog 29 #[.agg #[.bool ba, .string sa], .int .i64 24] w fun e w' => e = .returned (.agg #[.bool (sg a), .string (mg a)]) ∧ Below w.heap.size w w') := Lib.hid fun w => canK_e ba sa 24 a ea w ha (by omega)
  have inb : Hid (∀ w, Calls Tryd.prog 29 #[.agg #[.bool bb, .string sb], .int .i64 24] w fun e w' => e = .returned (.agg #[.bool (sg b), .string (mg b)]) ∧ Below w.heap.size w w') := Lib.hid fun w => canK_e bb sb 24 b eb w hb (by omega)
  have inc : Hid (∀ w, Calls Tryd.prog 29 #[.agg #[.bool bc, .string sc], .int .i64 4] w fun e w' => e = .returned (.agg #[.bool (sg c), .string (mg c)]) ∧ Below w.heap.size w w') := Lib.hid fun w => canK_e bc sc 4 c ec w hc (by omega)
  obtain ⟨g, eg⟩ : ∃ x : Int, x = (Nat.gcd a.natAbs b.natAbs : Nat) := ⟨_, rfl⟩
  obtain ⟨ac, eac⟩ : ∃ x, x = a * c := ⟨_, rfl⟩
  obtain ⟨bc1, ebc⟩ : ∃ x, x = b * c := ⟨_, rfl⟩
  obtain ⟨v, ev⟩ : ∃ x : Int, x = (c.natAbs : Nat) := ⟨_, rfl⟩
  obtain ⟨gv, egv⟩ : ∃ x, x = g * v := ⟨_, rfl⟩
  have hgl : g.natAbs ≤ a.natAbs + b.natAbs := by
    rw [eg, Int.natAbs_natCast]
    rcases Nat.eq_zero_or_pos a.natAbs with h | h
    · rw [h, Nat.gcd_zero_left]; omega
    · have := Nat.gcd_le_left b.natAbs h; omega
  have lg0 : g.natAbs < 256 ^ 25 := by
    have e : (256 : Nat) ^ 25 = 256 ^ 24 * 256 := Nat.pow_succ ..
    omega
  have lg := mg_size g 25 lg0
  have lac := mg_size ac 28 (eac ▸ natAbs_mul_lt a c 24 4 la0 lc0)
  have lbc := mg_size bc1 28 (ebc ▸ natAbs_mul_lt b c 24 4 lb0 lc0)
  have lv : (mg v).size ≤ 4 := by
    have : mg v = mg c := by unfold mg; rw [ev, Int.natAbs_natCast]
    rw [this]; exact lc
  have hgv : gv = (Nat.gcd ac.natAbs bc1.natAbs : Nat) := by
    rw [egv, eac, ebc, Int.natAbs_mul, Int.natAbs_mul, Nat.gcd_mul_right, eg, ev, Int.natCast_mul]
  have h1 := Lib.hid fun w => Gcd_c a b g eg w (by omega) (by omega)
  have h2 := Lib.hid fun w => rGcd_c a b g eg w (by omega) (by omega)
  have h3 := Lib.hid fun w => Gcd_c b a g (by rw [eg, Nat.gcd_comm]) w (by omega) (by omega)
  have h4 := Lib.hid fun w => Gcd_c ac bc1 gv hgv w (by omega) (by omega)
  have h5 : Hid (∀ w, Calls Tryd.prog 17 #[.agg #[.bool (sg a), .string (mg a)], .agg #[.bool (sg c), .string (mg c)]] w fun e w' => e = .returned (.agg #[.bool (sg ac), .string (mg ac)]) ∧ Below w.heap.size w w') := Lib.hid fun w => by rw [eac]; exact Mul_c a c w (by omega) (by omega)
  have h6 : Hid (∀ w, Calls Tryd.prog 17 #[.agg #[.bool (sg b), .string (mg b)], .agg #[.bool (sg c), .string (mg c)]] w fun e w' => e = .returned (.agg #[.bool (sg bc1), .string (mg bc1)]) ∧ Below w.heap.size w w') := Lib.hid fun w => by rw [ebc]; exact Mul_c b c w (by omega) (by omega)
  have h7 : Hid (∀ w, Calls Tryd.prog 17 #[.agg #[.bool (sg g), .string (mg g)], .agg #[.bool (sg v), .string (mg v)]] w fun e w' => e = .returned (.agg #[.bool (sg gv), .string (mg gv)]) ∧ Below w.heap.size w w') := Lib.hid fun w => by rw [egv]; exact Mul_c g v w (by omega) (by omega)
  have h8 : Hid (∀ w, Calls Tryd.prog 36 #[.agg #[.bool (sg c), .string (mg c)]] w fun e w' => e = .returned (.agg #[.bool (sg v), .string (mg v)]) ∧ Below w.heap.size w w') := Lib.hid fun w => by
    have := Abs_c (sg c) c.natAbs w
    rw [ev]
    exact this
  clear ea eb ec eg eac ebc ev egv la0 lb0 lc0 la lb lc hgl lg0 lg lac lbc lv hgv ha hb hc
  go_enter Tryd.func10, Tryd.ntmps10
  go_wp2_with fail
  ((first | (with_reducible refine wp_region_steady_plus_t 6 (by kernel_rfl) (by kernel_rfl) ?_) | refine wp_region_steady_t 6 (by kernel_rfl) (by kernel_rfl) ?_); simp only [List.take_succ_cons, List.take_zero, List.drop_succ_cons, List.drop_zero]; repeat go_big_quiet_step (first | (go_at_call 29; first | (with_reducible refine Calls.steady (ina.out _)) | (with_reducible refine Calls.steady (inb.out _)) | (with_reducible refine Calls.steady (inc.out _))))); (refine wpQuiet_nil ?_; rintro _ ⟨u, rfl⟩)
  (go_wp2_with fail; refine (h1.out _).mono ?_; rintro e w' ⟨rfl, hb⟩; (first | (with_reducible (have hb2 := World.plus_of_below ((World.below_plus _ _).trans (hb.mono (World.size_plus _ _)))); obtain ⟨u, rfl⟩ := hb2) | (obtain ⟨u, rfl⟩ := World.plus_of_below hb)); clear hb)
  go_wp2_with fail
  ((first | (with_reducible refine wp_region_steady_plus (by kernel_rfl) (by kernel_rfl) ?_) | refine wp_region_steady (by kernel_rfl) (by kernel_rfl) ?_); repeat go_big_quiet_step (first | (go_at_call 16; refine Calls.steady (known_c _)) | (go_at_call 37; first | (with_reducible refine Calls.steady (h3.out _)) | (with_reducible refine Calls.steady (h4.out _))) | (go_at_call 38; with_reducible refine Calls.steady (h2.out _)) | (go_at_call 17; first | (with_reducible refine Calls.steady (h5.out _)) | (with_reducible refine Calls.steady (h6.out _)) | (with_reducible refine Calls.steady (h7.out _))) | (go_at_call 36; with_reducible refine Calls.steady (h8.out _)))); (refine wpQuiet_nil ?_; rintro _ ⟨u, rfl⟩)
  go_wp2_with fail
  go_ret
  exact ⟨rfl, by (repeat' (first | (with_reducible exact Below.refl _ _) | (with_reducible assumption) | (with_reducible refine Below.plus0 ?_ _) | (with_reducible refine Below.alloc0 ?_ _) | (with_reducible refine Below.plus ?_ ?_ _) | (with_reducible refine Below.alloc ?_ ?_ _) | (with_reducible refine Below.drew ?_) | (with_reducible refine Below.drewN ?_ _) | (simp [go_sem]; done) | (simp [go_sem]; omega)))⟩
end Go.Proofs.YtkoodpbcfdblbaaDoor
