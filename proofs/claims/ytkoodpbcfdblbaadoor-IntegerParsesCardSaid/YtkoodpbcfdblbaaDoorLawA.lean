import Derived.Test.YtkoodpbcfdblbaaDoorProg
import Derived.Test.YtkoodpbcfdblbaaDoorShelf
import Derived.Test.YtkoodpbcfdblbaaDoorKnown
import Derived.Test.YtkoodpbcfdblbaaDoorRefB
set_option linter.unusedSimpArgs false
set_option linter.unusedVariables false
namespace Go.Proofs.YtkoodpbcfdblbaaDoor
open Go Go.RowKit
open Vi
theorem natAbs_add_lt (x y : Int) (k m : Nat) (hx : x.natAbs < 256 ^ k) (hy : y.natAbs < 256 ^ m) : (x + y).natAbs < 256 ^ (k + m + 1) := by
  have h := Int.natAbs_add_le x y
  have h1 : (256 : Nat) ^ k ≤ 256 ^ (k + m) := Nat.pow_le_pow_right (by omega) (by omega)
  have h2 : (256 : Nat) ^ m ≤ 256 ^ (k + m) := Nat.pow_le_pow_right (by omega) (by omega)
  rw [Nat.pow_succ]; omega
theorem natAbs_mul_lt (x y : Int) (k m : Nat) (hx : x.natAbs < 256 ^ k) (hy : y.natAbs < 256 ^ m) : (x * y).natAbs < 256 ^ (k + m) := by
  rw [Int.natAbs_mul, Nat.pow_add]
  exact Nat.mul_lt_mul'' hx hy
abbrev IV (x : Int) : Value := .agg #[.bool (sg x), .string (mg x)]
theorem Add_e (x y z : Int) (h : z = x + y) (k : Nat) (hk : k ≤ 4294967296) (hx : x.natAbs < 256 ^ k) (hy : y.natAbs < 256 ^ k) (w : World) : Calls Tryd.prog 26 #[.agg #[.bool (sg x), .string (mg x)], .agg #[.bool (sg y), .string (mg y)]] w fun e w' => e = .returned (.agg #[.bool (sg z), .string (mg z)]) ∧ Below w.heap.size w w' := by
  subst h
  exact Add_c x y w (Nat.le_trans (mg_size x k hx) hk) (Nat.le_trans (mg_size y k hy) hk)
theorem Mul_e (x y z : Int) (h : z = x * y) (k : Nat) (hk : k ≤ 4294967296) (hx : x.natAbs < 256 ^ k) (hy : y.natAbs < 256 ^ k) (w : World) : Calls Tryd.prog 17 #[.agg #[.bool (sg x), .string (mg x)], .agg #[.bool (sg y), .string (mg y)]] w fun e w' => e = .returned (.agg #[.bool (sg z), .string (mg z)]) ∧ Below w.heap.size w w' := by
  subst h
  exact Mul_c x y w (Nat.le_trans (mg_size x k hx) hk) (Nat.le_trans (mg_size y k hy) hk)
theorem Negate_e (x z : Int) (h : z = -x) (w : World) : Calls Tryd.prog 28 #[.agg #[.bool (sg x), .string (mg x)]] w fun e w' => e = .returned (.agg #[.bool (sg z), .string (mg z)]) ∧ Below w.heap.size w w' := by
  subst h; exact Negate_c x w
theorem in_e (b : Bool) (s : ByteArray) (z : Int) (h : z = canI b s 40) (w : World) (hs : s.size ≤ 9223372036854775807) : Calls Tryd.prog 15 #[.agg #[.bool b, .string s]] w fun e w' => e = .returned (.agg #[.bool (sg z), .string (mg z)]) ∧ Below w.heap.size w w' := by
  subst h; exact in_c b s w hs
theorem lt_more (x : Int) (k m : Nat) (h : x.natAbs < 256 ^ k) (hm : k ≤ m) : x.natAbs < 256 ^ m := Nat.lt_of_lt_of_le h (Nat.pow_le_pow_right (by omega) hm)
set_option maxRecDepth 100000 in
set_option maxHeartbeats 1600000 in
theorem IntegerRings_c (ba : Bool) (sa : ByteArray) (bb : Bool) (sb : ByteArray) (bc : Bool) (sc : ByteArray) (w : World) (ha : sa.size ≤ 9223372036854775807) (hb : sb.size ≤ 9223372036854775807) (hc : sc.size ≤ 9223372036854775807) :
    Calls Tryd.prog 6 #[.agg #[.bool ba, .string sa], .agg #[.bool bb, .string sb], .agg #[.bool bc, .string sc]] w fun e w' => e = .returned (.bool true) ∧ Below w.heap.size w w' := by
  obtain ⟨a, ea⟩ : ∃ x, x = canI ba sa 40 := ⟨_, rfl⟩
  obtain ⟨b, eb⟩ : ∃ x, x = canI bb sb 40 := ⟨_, rfl⟩
  obtain ⟨c, ec⟩ : ∃ x, x = canI bc sc 40 := ⟨_, rfl⟩
  have la : a.natAbs < 256 ^ 200 := lt_more _ 40 _ (ea ▸ canI_lt ba sa 40) (by omega)
  have la0 : a.natAbs < 256 ^ 40 := ea ▸ canI_lt ba sa 40
  have lb0 : b.natAbs < 256 ^ 40 := eb ▸ canI_lt bb sb 40
  have lc0 : c.natAbs < 256 ^ 40 := ec ▸ canI_lt bc sc 40
  have lb : b.natAbs < 256 ^ 200 := lt_more _ 40 _ lb0 (by omega)
  have lc : c.natAbs < 256 ^ 200 := lt_more _ 40 _ lc0 (by omega)
  have ina := Lib.hid fun w => in_e ba sa a ea w ha
  have inb := Lib.hid fun w => in_e bb sb b eb w hb
  have inc := Lib.hid fun w => in_e bc sc c ec w hc
  obtain ⟨ab, eab⟩ : ∃ x, x = a + b := ⟨_, rfl⟩
  obtain ⟨abc, eabc⟩ : ∃ x, x = ab + c := ⟨_, rfl⟩
  obtain ⟨bc1, ebc⟩ : ∃ x, x = b + c := ⟨_, rfl⟩
  obtain ⟨mab, emab⟩ : ∃ x, x = a * b := ⟨_, rfl⟩
  obtain ⟨mabc, emabc⟩ : ∃ x, x = mab * c := ⟨_, rfl⟩
  obtain ⟨mbc, embc⟩ : ∃ x, x = b * c := ⟨_, rfl⟩
  obtain ⟨mac, emac⟩ : ∃ x, x = a * c := ⟨_, rfl⟩
  obtain ⟨t, et⟩ : ∃ x, x = a * bc1 := ⟨_, rfl⟩
  obtain ⟨na, ena⟩ : ∃ x, x = -a := ⟨_, rfl⟩
  have lab : ab.natAbs < 256 ^ 200 := lt_more _ 81 _ (eab ▸ natAbs_add_lt a b 40 40 la0 lb0) (by omega)
  have lbc : bc1.natAbs < 256 ^ 200 := lt_more _ 81 _ (ebc ▸ natAbs_add_lt b c 40 40 lb0 lc0) (by omega)
  have lmab : mab.natAbs < 256 ^ 200 := lt_more _ 80 _ (emab ▸ natAbs_mul_lt a b 40 40 la0 lb0) (by omega)
  have lmbc : mbc.natAbs < 256 ^ 200 := lt_more _ 80 _ (embc ▸ natAbs_mul_lt b c 40 40 lb0 lc0) (by omega)
  have lmac : mac.natAbs < 256 ^ 200 := lt_more _ 80 _ (emac ▸ natAbs_mul_lt a c 40 40 la0 lc0) (by omega)
  have lna : na.natAbs < 256 ^ 200 := by rw [ena, Int.natAbs_neg]; exact la
  have l1 : (1 : Int).natAbs < 256 ^ 200 := Nat.lt_of_lt_of_le (show 1 < 256 ^ 1 by decide) (Nat.pow_le_pow_right (by omega) (by omega))
  have v1b : (Value.agg #[.bool (sg 1), .string (mg 1)]) = .agg #[.bool false, .string ⟨#[1]⟩] := by
    rw [show sg 1 = false by decide, show mg 1 = ⟨#[1]⟩ by decide]
  have v0b : (Value.agg #[.bool (sg 0), .string (mg 0)]) = .agg #[.bool false, .string ⟨#[]⟩] := by
    rw [show sg 0 = false by decide, show mg 0 = ⟨#[]⟩ by decide]
  have c1 := Lib.hid (Add_e a b ab eab 200 (by omega) la lb)
  have c2 := Lib.hid (Add_e b a ab (by rw [eab, Int.add_comm]) 200 (by omega) lb la)
  have c3 := Lib.hid (Add_e ab c abc eabc 200 (by omega) lab lc)
  have c4 := Lib.hid (Add_e b c bc1 ebc 200 (by omega) lb lc)
  have c5 := Lib.hid (Add_e a bc1 abc (by rw [eabc, eab, ebc, Int.add_assoc]) 200 (by omega) la lbc)
  have m1 := Lib.hid (Mul_e a b mab emab 200 (by omega) la lb)
  have m2 := Lib.hid (Mul_e b a mab (by rw [emab, Int.mul_comm]) 200 (by omega) lb la)
  have m3 := Lib.hid (Mul_e mab c mabc emabc 200 (by omega) lmab lc)
  have m4 := Lib.hid (Mul_e b c mbc embc 200 (by omega) lb lc)
  have m5 := Lib.hid (Mul_e a mbc mabc (by rw [emabc, emab, embc, Int.mul_assoc]) 200 (by omega) la lmbc)
  have m6 := Lib.hid (Mul_e a bc1 t et 200 (by omega) la lbc)
  have m7 := Lib.hid (Mul_e a c mac emac 200 (by omega) la lc)
  have c6 := Lib.hid (Add_e mab mac t (by rw [et, emab, emac, ebc, Int.mul_add]) 200 (by omega) lmab lmac)
  have m8 : Hid (∀ w, Calls Tryd.prog 17 #[.agg #[.bool (sg a), .string (mg a)], .agg #[.bool false, .string ⟨#[1]⟩]] w fun e w' => e = .returned (.agg #[.bool (sg a), .string (mg a)]) ∧ Below w.heap.size w w') := by
    refine Lib.hid fun w => ?_
    rw [← v1b]; exact Mul_e a 1 a (by rw [Int.mul_one]) 200 (by omega) la l1 w
  have f1 : Hid (∀ w, Calls Tryd.prog 27 #[.int .i64 1] w fun e w' => e = .returned (.agg #[.bool false, .string ⟨#[1]⟩]) ∧ Below w.heap.size w w') := by
    refine Lib.hid fun w => ?_
    rw [← v1b]; exact FromInt_c 1 w (by omega) (by omega)
  have n1 := Lib.hid (Negate_e a na ena)
  have c7 : Hid (∀ w, Calls Tryd.prog 26 #[.agg #[.bool (sg a), .string (mg a)], .agg #[.bool (sg na), .string (mg na)]] w fun e w' => e = .returned (.agg #[.bool false, .string ⟨#[]⟩]) ∧ Below w.heap.size w w') := by
    refine Lib.hid fun w => ?_
    rw [← v0b]; exact Add_e a na 0 (by rw [ena]; omega) 200 (by omega) la lna w
  clear ea eb ec eab eabc ebc emab emabc embc emac et ena la lb lc la0 lb0 lc0 lab lbc lmab lmbc lmac lna l1 v1b v0b ha hb hc
  go_enter Tryd.func6, Tryd.ntmps6
  go_wp2_with fail
  ((first | (with_reducible refine wp_region_steady_plus_t 6 (by kernel_rfl) (by kernel_rfl) ?_) | refine wp_region_steady_t 6 (by kernel_rfl) (by kernel_rfl) ?_); simp only [List.take_succ_cons, List.take_zero, List.drop_succ_cons, List.drop_zero]; repeat go_big_quiet_step (first | (go_at_call 15; first | (with_reducible refine Calls.steady (ina.out _)) | (with_reducible refine Calls.steady (inb.out _)) | (with_reducible refine Calls.steady (inc.out _))))); (refine wpQuiet_nil ?_; rintro _ ⟨u, rfl⟩)
  go_wp2_with fail
  ((first | (with_reducible refine wp_region_steady_plus (by kernel_rfl) (by kernel_rfl) ?_) | refine wp_region_steady (by kernel_rfl) (by kernel_rfl) ?_); repeat go_big_quiet_step (first | (go_at_call 16; refine Calls.steady (known_c _)) | (go_at_call 26; first | (with_reducible refine Calls.steady (c1.out _)) | (with_reducible refine Calls.steady (c2.out _))) | (go_at_call 17; first | (with_reducible refine Calls.steady (m1.out _)) | (with_reducible refine Calls.steady (m2.out _))))); (refine wpQuiet_nil ?_; rintro _ ⟨u, rfl⟩)
  (go_wp2_with fail; refine (f1.out _).mono ?_; rintro e w' ⟨rfl, hb⟩; (first | (with_reducible (have hb2 := World.plus_of_below ((World.below_plus _ _).trans (hb.mono (World.size_plus _ _)))); obtain ⟨u, rfl⟩ := hb2) | (obtain ⟨u, rfl⟩ := World.plus_of_below hb)); clear hb)
  go_wp2_with fail
  ((first | (with_reducible refine wp_region_steady_plus (by kernel_rfl) (by kernel_rfl) ?_) | refine wp_region_steady (by kernel_rfl) (by kernel_rfl) ?_); repeat go_big_quiet_step (first | (go_at_call 26; first | (with_reducible refine Calls.steady (c1.out _)) | (with_reducible refine Calls.steady (c2.out _)) | (with_reducible refine Calls.steady (c3.out _)) | (with_reducible refine Calls.steady (c4.out _)) | (with_reducible refine Calls.steady (c5.out _)) | (with_reducible refine Calls.steady (c6.out _)) | (with_reducible refine Calls.steady (c7.out _))) | (go_at_call 17; first | (with_reducible refine Calls.steady (m1.out _)) | (with_reducible refine Calls.steady (m3.out _)) | (with_reducible refine Calls.steady (m4.out _)) | (with_reducible refine Calls.steady (m5.out _)) | (with_reducible refine Calls.steady (m6.out _)) | (with_reducible refine Calls.steady (m7.out _)) | (with_reducible refine Calls.steady (m8.out _))) | (go_at_call 28; with_reducible refine Calls.steady (n1.out _)))); (refine wpQuiet_nil ?_; rintro _ ⟨u, rfl⟩)
  go_wp2_with fail
  go_ret
  exact ⟨rfl, by (repeat' (first | (with_reducible exact Below.refl _ _) | (with_reducible assumption) | (with_reducible refine Below.plus0 ?_ _) | (with_reducible refine Below.alloc0 ?_ _) | (with_reducible refine Below.plus ?_ ?_ _) | (with_reducible refine Below.alloc ?_ ?_ _) | (with_reducible refine Below.drew ?_) | (with_reducible refine Below.drewN ?_ _) | (simp [go_sem]; done) | (simp [go_sem]; omega)))⟩
end Go.Proofs.YtkoodpbcfdblbaaDoor
