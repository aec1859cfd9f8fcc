import Derived.Test.YthdaimoankaciaaGreatDoorIntJ
set_option linter.unusedSimpArgs false
set_option linter.unusedVariables false
namespace Go.Proofs.YthdaimoankaciaaGreatDoor
open Go Go.RowKit
open Vi
def strOf : Value → ByteArray | .string s => s | _ => ⟨#[]⟩
theorem mag_nonempty (y : Nat) (h : y ≠ 0) : (mag y).toList.isEmpty = false := mag_empty_not y h
set_option maxRecDepth 100000 in
set_option maxHeartbeats 1600000 in
theorem Gcd_c (a b : Int) (g : Int) (hg : g = (Nat.gcd a.natAbs b.natAbs : Nat)) (w : World) (ha : (mg a).size ≤ 4294967290) (hb : (mg b).size ≤ 4294967290) : Calls Tryz.prog 162 #[.agg #[.bool (sg a), .string (mg a)], .agg #[.bool (sg b), .string (mg b)]] w fun e w' => e = .returned (.agg #[.bool (sg g), .string (mg g)]) ∧ Below w.heap.size w w' := by
 obtain ⟨G, hG⟩ : ∃ G, G = Nat.gcd a.natAbs b.natAbs := ⟨_, rfl⟩
 rw [← hG] at hg
 have ea : mg a = mag a.natAbs := rfl
 have eb : mg b = mag b.natAbs := rfl
 obtain ⟨X0, hX0⟩ : ∃ X, X = a.natAbs := ⟨_, rfl⟩
 obtain ⟨Y0, hY0⟩ : ∃ X, X = b.natAbs := ⟨_, rfl⟩
 rw [← hX0] at ea hG
 rw [← hY0] at eb hG
 rw [ea] at ha ⊢
 rw [eb] at hb ⊢
 have HG := Lib.hid hG
 have HM : Hid (∀ w, Calls Tryz.prog 146 #[.bool false, .string (mag G)] w fun e w' => e = .returned (.agg #[.bool (sg g), .string (mg g)]) ∧ Below w.heap.size w w') := Lib.hid fun w => made_c false g G (by rw [hg]; rfl) w
 clear ea eb hX0 hY0 hG hg
 obtain ⟨sa, hsa⟩ : ∃ s, s = sg a := ⟨_, rfl⟩
 obtain ⟨sb, hsb⟩ : ∃ s, s = sg b := ⟨_, rfl⟩
 rw [← hsa, ← hsb]
 clear hsa hsb
 go_enter Tryz.func162, Tryz.ntmps162
 go_wp2_with fail
 (refine wp_region_exact (by kernel_rfl) (by kernel_rfl) ?_; repeat go_big_quiet_step (fail)); (refine wpQuiet_nil ?_; rintro _ rfl)
 go_wp2_with fail
 go_loopw [5, 6] (fun x y wr => ∃ (X Y : Nat) (u' : World), Hid (Nat.gcd X Y = G) ∧ (mag X).size ≤ 4294967290 ∧ (mag Y).size ≤ 4294967290 ∧ x = .string (mag X) ∧ y = .string (mag Y) ∧ wr = (((w.alloc (.cells #[.bool sa, .string (mag X0)] 23)).alloc (.cells #[.bool sb, .string (mag Y0)] 23)).alloc (.cells #[.bool false, .string ⟨#[]⟩] 23)).plus u') (fun _ y _ => num (strOf y))
 case atStart =>
  obtain ⟨u', hu⟩ := World.plus_of_below (w := (((w.alloc (.cells #[.bool sa, .string (mag X0)] 23)).alloc (.cells #[.bool sb, .string (mag Y0)] 23)).alloc (.cells #[.bool false, .string ⟨#[]⟩] 23))) (w' := (((w.alloc (.cells #[.bool sa, .string (mag X0)] 23)).alloc (.cells #[.bool sb, .string (mag Y0)] 23)).alloc (.cells #[.bool false, .string ⟨#[]⟩] 23)).drew) ((Below.refl _ _).drew)
  exact ⟨X0, Y0, u', Lib.hid HG.out.symm, ha, hb, rfl, rfl, hu⟩
 case round =>
  obtain ⟨X, Y, u', HX, hx, hy, rfl, rfl, rfl⟩ := hrel
  by_cases h0 : Y = 0
  ·subst h0
   have e : X = G := by rw [← HX.out, Nat.gcd_zero_right]
   rw [e, mag_zero]
   go_wp2_with fail
   (go_wp2_with fail; refine (HM.out _).mono ?_; rintro e w' ⟨rfl, hb⟩; (first | (with_reducible (have hb2 := World.plus_of_below ((World.below_plus _ _).trans (hb.mono (World.size_plus _ _)))); obtain ⟨u, rfl⟩ := hb2) | (obtain ⟨u, rfl⟩ := World.plus_of_below hb)); clear hb)
   go_wp2_with fail
   refine bodyPost_ret (by simp [results, Tryz.results162, go_sem]; rfl) rfl ?_
   exact ⟨rfl, by (repeat' (first | (with_reducible first | exact Below.refl _ _ | assumption | refine Below.plus0 ?_ _ | refine Below.alloc0 ?_ _ | refine Below.plus ?_ ?_ _ | refine Below.alloc ?_ ?_ _ | refine Below.drew ?_ | refine Below.drewN ?_ _) | (simp [go_sem]; done) | (simp [go_sem]; omega)))⟩
  ·have hne : (mag Y).toList.isEmpty = false := mag_empty_not Y h0
   have hw := fun w => words_c X Y w (by omega) (by omega)
   by_cases hf : (fits8 X && fits8 Y) = true
   ·rw [hf] at hw
    rw [Bool.and_eq_true] at hf
    rw [wv_of X hf.1, wv_of Y hf.2] at hw
    have H := Lib.hid hw
    have lX : X < 18446744073709551616 := by have := fits8_iff X; rw [hf.1] at this; simpa using this.symm
    have lY : Y < 18446744073709551616 := by have := fits8_iff Y; rw [hf.2] at this; simpa using this.symm
    clear hw hf
    go_wp2_with fail
    (refine (H.out _).mono ?_; rintro e w' ⟨rfl, rfl⟩)
    go_wp2_with fail
    go_loopw [7, 8] (fun p q wr => ∃ (u v : Nat) (u' : World), Hid (Nat.gcd u v = G) ∧ u < 18446744073709551616 ∧ v < 18446744073709551616 ∧ p = .int .u64 (u : Int) ∧ q = .int .u64 (v : Int) ∧ wr = (((w.alloc (.cells #[.bool sa, .string (mag X0)] 23)).alloc (.cells #[.bool sb, .string (mag Y0)] 23)).alloc (.cells #[.bool false, .string ⟨#[]⟩] 23)).plus u') (fun _ q _ => (intOf q).toNat)
    case atStart => exact ⟨X, Y, u', HX, lX, lY, rfl, rfl, rfl⟩
    case round =>
     obtain ⟨u, v, u2, HU, lu, lv, rfl, rfl, rfl⟩ := hrel
     by_cases hv : v = 0
     ·subst hv
      have e : u = G := by rw [← HU.out, Nat.gcd_zero_right]
      rw [show ((0 : Nat) : Int) = 0 from rfl, e]
      rw [e] at lu
      have HMG := Lib.hid (fun w => magnitude_c G w lu)
      clear e HU
      go_wp2_with fail
      (go_wp2_with fail; refine (HMG.out _).mono ?_; rintro e w' ⟨rfl, hb⟩; (first | (with_reducible (have hb2 := World.plus_of_below ((World.below_plus _ _).trans (hb.mono (World.size_plus _ _)))); obtain ⟨u, rfl⟩ := hb2) | (obtain ⟨u, rfl⟩ := World.plus_of_below hb)); clear hb)
      go_wp2_with fail
      (go_wp2_with fail; refine (HM.out _).mono ?_; rintro e w' ⟨rfl, hb⟩; (first | (with_reducible (have hb2 := World.plus_of_below ((World.below_plus _ _).trans (hb.mono (World.size_plus _ _)))); obtain ⟨u, rfl⟩ := hb2) | (obtain ⟨u, rfl⟩ := World.plus_of_below hb)); clear hb)
      go_wp2_with fail
      refine bodyPost_ret (by simp [results, Tryz.results162, go_sem]; rfl) rfl ?_
      exact ⟨rfl, by (repeat' (first | (with_reducible first | exact Below.refl _ _ | assumption | refine Below.plus0 ?_ _ | refine Below.alloc0 ?_ _ | refine Below.plus ?_ ?_ _ | refine Below.alloc ?_ ?_ _ | refine Below.drew ?_ | refine Below.drewN ?_ _) | (simp [go_sem]; done) | (simp [go_sem]; omega)))⟩
     ·obtain ⟨r, hr⟩ : ∃ z, z = u % v := ⟨_, rfl⟩
      have HN : Hid (Nat.gcd v r = G) := Lib.hid (by rw [hr, ← HU.out, Nat.gcd_comm u v, Nat.gcd_rec v u, Nat.gcd_comm])
      have hrl : r < v := by rw [hr]; exact Nat.mod_lt _ (by omega)
      have HRL := Lib.hid hrl
      have e1 : (u : Int).tmod (v : Int) = (r : Int) := by rw [hr]; exact Int.ofNat_tmod u v
      have e2 : ((v : Int) == 0) = false := by rw [beq_eq_false_iff_ne]; omega
      have e3 : IntKind.u64.wrap (r : Int) = (r : Int) := u64_of_nat r (by omega)
      have lr : r < 18446744073709551616 := by omega
      clear hr hrl
      go_wp2_with fail
      ((first | (with_reducible refine wp_region_steady_plus (by kernel_rfl) (by kernel_rfl) ?_) | refine wp_region_steady (by kernel_rfl) (by kernel_rfl) ?_); repeat go_big_quiet_step (fail)); (refine wpQuiet_nil ?_; rintro _ ⟨u, rfl⟩)
      clear e1
      go_wp2_with fail
      exact ⟨⟨v, r, _, HN, lv, lr, rfl, rfl, rfl⟩, by have := HRL.out; simp [intOf]; omega⟩
   ·have hf2 : (fits8 X && fits8 Y) = false := by simpa using hf
    rw [hf2] at hw
    have H := Lib.hid hw
    have hd := div_ok X Y (by omega) (by omega) (by omega)
    obtain ⟨q, hq⟩ : ∃ z, z = X / Y := ⟨_, rfl⟩
    obtain ⟨r, hr⟩ : ∃ z, z = X % Y := ⟨_, rfl⟩
    have HD : Hid (∀ w, Calls Tryz.prog 153 #[.string (mag X), .string (mag Y)] w fun e w' => e = .returned (.tuple #[.string (mag q), .string (mag r)]) ∧ Below w.heap.size w w') := Lib.hid fun w => by rw [hq, hr]; exact hd w
    have HN : Hid (Nat.gcd Y r = G) := Lib.hid (by rw [hr, ← HX.out, Nat.gcd_comm X Y, Nat.gcd_rec Y X, Nat.gcd_comm])
    have hrl : r < Y := by rw [hr]; exact Nat.mod_lt _ (by omega)
    have hrs : (mag r).size ≤ 4294967290 := Nat.le_trans (size_mag_mono r Y (by omega)) hy
    have HRL := Lib.hid hrl
    clear hw hf hf2 hd hq hr hrl
    go_wp2_with fail
    (refine (H.out _).mono ?_; rintro e w' ⟨rfl, rfl⟩)
    go_wp2_with fail
    (go_wp2_with fail; refine (HD.out _).mono ?_; rintro e w' ⟨rfl, hb⟩; (first | (with_reducible (have hb2 := World.plus_of_below ((World.below_plus _ _).trans (hb.mono (World.size_plus _ _)))); obtain ⟨u, rfl⟩ := hb2) | (obtain ⟨u, rfl⟩ := World.plus_of_below hb)); clear hb)
    go_wp2_with fail
    exact ⟨⟨Y, r, u, HN, hy, hrs, rfl, rfl, rfl⟩, by show num (mag r) < num (mag Y); rw [num_mag, num_mag]; exact HRL.out⟩
end Go.Proofs.YthdaimoankaciaaGreatDoor
