import Derived.Test.YthdaimoankaciaaGreatDoorProg
import Derived.Test.YthdaimoankaciaaGreatDoorShelf
import Derived.Test.YthdaimoankaciaaGreatDoorIntA
import Derived.Test.YthdaimoankaciaaGreatDoorIntE
/- The package integer: division by one digit, and shifts by less than a digit. -/
set_option linter.unusedSimpArgs false
set_option linter.unusedVariables false
namespace Go.Proofs.YthdaimoankaciaaGreatDoor
open Go Go.RowKit
open Vi
theorem short_r (x b i : Nat) : (x / 4294967296 ^ (i + 1) % b * 4294967296 + dg x i) % b = x / 4294967296 ^ i % b := by
 rw [div_succ x i, Nat.add_mod, Nat.mul_mod, Nat.mod_mod, ← Nat.mul_mod, ← Nat.add_mod]
 congr 1
 rw [Nat.mul_comm]; omega
theorem short_q (x b i : Nat) (hb : 0 < b) : (x / 4294967296 ^ (i + 1) % b * 4294967296 + dg x i) / b = dg (x / b) i := by
 have hr := Nat.mod_lt (x / 4294967296 ^ (i + 1)) hb
 have hd := dg_lt x i
 have e1 : x / b / 4294967296 ^ i = x / 4294967296 ^ i / b := by rw [Nat.div_div_eq_div_mul, Nat.div_div_eq_div_mul, Nat.mul_comm]
 have e2 : x / 4294967296 ^ i = b * (4294967296 * (x / 4294967296 ^ (i + 1) / b)) + (x / 4294967296 ^ (i + 1) % b * 4294967296 + dg x i) := by
  have h1 := div_succ x i
  have h2 := Nat.div_add_mod (x / 4294967296 ^ (i + 1)) b
  generalize x / 4294967296 ^ (i + 1) = y at *
  rw [h1, Nat.mul_left_comm]
  have h3 : 4294967296 * y = 4294967296 * (b * (y / b)) + 4294967296 * (y % b) := by rw [← Nat.mul_add, h2]
  omega
 have h3 : (x / 4294967296 ^ (i + 1) % b * 4294967296 + dg x i) / b < 4294967296 := by
  rw [Nat.div_lt_iff_lt_mul hb]
  have : (x / 4294967296 ^ (i + 1) % b + 1) * 4294967296 ≤ b * 4294967296 := Nat.mul_le_mul_right _ hr
  rw [Nat.add_mul] at this
  rw [Nat.mul_comm 4294967296 b]; omega
 generalize x / 4294967296 ^ (i + 1) % b * 4294967296 + dg x i = cur at *
 show cur / b = x / b / 4294967296 ^ i % 4294967296
 rw [e1, e2, Nat.mul_add_div hb, Nat.mul_add_mod, Nat.mod_eq_of_lt h3]
theorem or_shl32 (a b : Nat) (ha : a < 4294967296) (hb : b < 4294967296) : bits BinOp.or .u64 ((a : Int) * 4294967296) (b : Int) = ((a * 4294967296 + b : Nat) : Int) := by
 have e1 : (a : Int) * 4294967296 = ((a * 4294967296 : Nat) : Int) := by omega
 rw [e1, u64_or_nat _ _ (by omega) (by omega), nat_join 32 (a * 4294967296) b (by omega) (by omega)]
def shortFn (x b j : Nat) : Nat → Nat := fun p => if p < j then dg x p else dg (x / b) p
theorem shortFn_top (x b n m : Nat) (hx : x < 4294967296 ^ n) : arr .u32 (dg x) m = arr .u32 (shortFn x b n) m := by
 apply arr_congr; intro i _; unfold shortFn
 split
 ·rfl
 ·rw [dg_big x n i hx (by omega), dg_big (x / b) n i (Nat.lt_of_le_of_lt (Nat.div_le_self x b) hx) (by omega)]
theorem shortFn_at (x b i : Nat) : shortFn x b (i + 1) i = dg x i := by unfold shortFn; rw [if_pos (by omega)]
theorem shortFn_succ (x b i : Nat) : upd (shortFn x b (i + 1)) i (dg (x / b) i) = shortFn x b i := by
 funext k
 unfold upd shortFn
 by_cases h : k = i
 ·subst h; rw [if_pos rfl, if_neg (by omega)]
 ·rw [if_neg h]
  by_cases h2 : k < i
  ·rw [if_pos h2, if_pos (by omega)]
  ·rw [if_neg h2, if_neg (by omega)]
theorem shortFn_zero (x b m : Nat) : arr .u32 (shortFn x b 0) m = arr .u32 (dg (x / b)) m := by
 apply arr_congr; intro i _; unfold shortFn; rw [if_neg (by omega)]
def restD (x b j : Nat) : Nat := x / 4294967296 ^ j % b
theorem restD_top (x b n : Nat) (hx : x < 4294967296 ^ n) : restD x b n = 0 := by unfold restD; rw [Nat.div_eq_of_lt hx]; simp
theorem restD_zero (x b : Nat) : restD x b 0 = x % b := by unfold restD; rw [Nat.pow_zero, Nat.div_one]
def pre (j : Nat) : Int := (j : Int) - 1
set_option maxRecDepth 100000 in
set_option maxHeartbeats 800000 in
theorem short_c (x b n m c g : Nat) (w : World) (hx : x < 4294967296 ^ n) (hn : n ≤ 8589934592) (hnm : n ≤ m) (hg : w.heap[g]? = some (.cells (arr .u32 (dg x) m) 162 (0, 0))) (hb0 : 0 < b) (hb1 : b < 4294967296) :
    Calls Tryz.prog 167 #[.slice (some ⟨g, 0, none⟩) n c, .int .u32 (b : Int)] w fun e w' => e = .returned (.int .u32 ((x % b : Nat) : Int)) ∧ ∃ k, w' = (w.row g 162 (arr .u32 (dg (x / b)) m)).drewN k := by
 have hgl : g < w.heap.size := (Array.getElem?_eq_some_iff.1 hg).1
 have HS := Lib.hid (World.row_self w g 162 _ hg)
 have HT := Lib.hid (shortFn_top x b n m hx)
 have HR := Lib.hid (restD_top x b n hx)
 have hbi : (1 : Int) ≤ (b : Int) := by omega
 clear hg hx
 go_enter Tryz.func167, Tryz.ntmps167
 go_wp2_with fail
 go_loopw [5, 6] (fun r v wr => ∃ j k : Nat, j ≤ n ∧ v = .int .i64 (pre j) ∧ r = .int .u64 (restD x b j : Int) ∧ wr = (w.row g 162 (arr .u32 (shortFn x b j) m)).drewN k) (fun _ v _ => (intOf v + 1).toNat)
 case atStart => exact ⟨n, 0, Nat.le_refl _, rfl, by rw [HR.out]; rfl, by rw [← HT.out, HS.out]; rfl⟩
 case round =>
  obtain ⟨j, k, hj, rfl, rfl, rfl⟩ := hrel
  cases j with
  | zero =>
   have e : pre 0 = -1 := rfl
   have HZ := Lib.hid (shortFn_zero x b m)
   have HZ2 := Lib.hid (restD_zero x b)
   have hlt : restD x b 0 < b := Nat.mod_lt _ hb0
   rw [e]
   clear e
   go_wp2_with fail
   go_ret
   refine ⟨?_, k, by rw [HZ.out]⟩
   rw [← HZ2.out]; rfl
  | succ i =>
   have e : pre (i + 1) = (i : Int) := by unfold pre; omega
   rw [e]
   clear e
   have hlt : restD x b (i + 1) < b := Nat.mod_lt _ hb0
   have hd := dg_lt x i
   have hget := arr_get .u32 (shortFn x b (i + 1)) m i (by omega)
   rw [shortFn_at] at hget
   have hor := or_shl32 (restD x b (i + 1)) (dg x i) (by omega) hd
   obtain ⟨z, hz⟩ : ∃ z, z = restD x b (i + 1) * 4294967296 + dg x i := ⟨_, rfl⟩
   rw [← hz] at hor
   have hq : z / b = dg (x / b) i := by rw [hz]; exact short_q x b i hb0
   have hr : z % b = restD x b i := by rw [hz]; exact short_r x b i
   have HQ := Lib.hid hq
   have HRR := Lib.hid hr
   have HS3 := Lib.hid (shortFn_succ x b i)
   have hzb : z < 18446744073709551616 := by omega
   have hq1 : (z : Int).tdiv (b : Int) = (dg (x / b) i : Int) := by rw [← hq]; exact Int.ofNat_tdiv z b
   have hr1 : (z : Int).tmod (b : Int) = (restD x b i : Int) := by rw [← hr]; exact Int.ofNat_tmod z b
   have hq2 : (z : Int) / (b : Int) = (dg (x / b) i : Int) := by rw [← hq]; rfl
   have hr2 : (z : Int) % (b : Int) = (restD x b i : Int) := by rw [← hr]; rfl
   have hb2 : ((b : Int) == 0) = false := by rw [beq_eq_false_iff_ne]; omega
   have hdq := dg_lt (x / b) i
   clear hz hq hr
   go_wp2_with fail
   go_region
   go_wp2_with fail
   exact ⟨⟨i, k + 1, by omega, rfl, rfl, by rw [arr_set, HS3.out]⟩, by simp [intOf]⟩
def shl (x s i : Nat) : Nat := x % 4294967296 ^ i * 2 ^ s
theorem shl_succ (x s i : Nat) : shl x s (i + 1) = shl x s i + 4294967296 ^ i * (dg x i * 2 ^ s) := by
 unfold shl
 rw [mod_succ, Nat.add_mul, Nat.mul_assoc]
theorem pow_s (s : Nat) (h : s < 32) : ∃ r, 2 ^ s * r = 4294967296 ∧ 0 < r := by
 refine ⟨2 ^ (32 - s), ?_, Nat.pow_pos (by omega)⟩
 rw [← Nat.pow_add, show s + (32 - s) = 32 by omega]
theorem shl_top (x s i : Nat) (h : s < 32) : shl x s i / 4294967296 ^ i < 2 ^ s := by
 unfold shl
 rw [Nat.div_lt_iff_lt_mul (Nat.pow_pos (by omega)), Nat.mul_comm]
 exact Nat.mul_lt_mul_of_pos_left (Nat.mod_lt _ (Nat.pow_pos (by omega))) (Nat.pow_pos (by omega))
theorem shl_join (x s i : Nat) (h : s < 32) : shl x s i / 4294967296 ^ i + dg x i * 2 ^ s % 4294967296 < 4294967296 ∧ dg x i * 2 ^ s % 4294967296 % 2 ^ s = 0 := by
 obtain ⟨r, hr, hr0⟩ := pow_s s h
 have h1 := shl_top x s i h
 have h2 : dg x i * 2 ^ s % 4294967296 = dg x i % r * 2 ^ s := by
  rw [← hr, Nat.mul_comm (2 ^ s) r, Nat.mul_mod_mul_right]
 rw [h2, Nat.mul_mod_left]
 refine ⟨?_, rfl⟩
 have h3 := Nat.mod_lt (dg x i) hr0
 have h4 : (dg x i % r + 1) * 2 ^ s ≤ r * 2 ^ s := Nat.mul_le_mul_right _ h3
 rw [Nat.add_mul, Nat.mul_comm r, hr] at h4
 omega
theorem shl_at (x s i : Nat) (h : s < 32) : dg (shl x s i) i = shl x s i / 4294967296 ^ i := by
 have h1 := (shl_join x s i h).1
 unfold dg
 exact Nat.mod_eq_of_lt (by omega)
theorem shl_dg (x s i : Nat) (h : s < 32) : dg (shl x s (i + 1)) i = dg (shl x s i) i + dg x i * 2 ^ s % 4294967296 := by
 have h1 := (shl_join x s i h).1
 rw [shl_at x s i h, shl_succ]
 unfold dg
 rw [Nat.add_mul_div_left _ _ (Nat.pow_pos (by omega)), ← Nat.add_mod_mod]
 exact Nat.mod_eq_of_lt h1
theorem shl_dg1 (x s i : Nat) (h : s < 32) : dg (shl x s (i + 1)) (i + 1) = dg x i * 2 ^ s / 4294967296 := by
 have h1 := (shl_join x s i h).1
 have hd := dg_lt x i
 have h2 : (2 : Nat) ^ s < 4294967296 := by
  have : (2 : Nat) ^ s < 2 ^ 32 := Nat.pow_lt_pow_right (by omega) h
  omega
 rw [shl_at x s (i + 1) h, shl_succ, Nat.pow_succ, ← Nat.div_div_eq_div_mul, Nat.add_mul_div_left _ _ (Nat.pow_pos (by omega))]
 generalize dg x i * 2 ^ s = z at *
 generalize shl x s i / 4294967296 ^ i = y at *
 omega
theorem shl_other (x s i k : Nat) (h : s < 32) (h1 : k ≠ i) (h2 : k ≠ i + 1) : dg (shl x s (i + 1)) k = dg (shl x s i) k := by
 rcases Nat.lt_or_gt_of_ne h1 with h3 | h3
 ·rw [shl_succ, dg_add_low _ _ _ _ h3]
 ·have e : ∀ j, j ≤ i + 1 → dg (shl x s j) k = 0 := by
    intro j hj
    have h4 : shl x s j < 4294967296 ^ (j + 1) := by
     have h5 := shl_top x s j h
     rw [Nat.div_lt_iff_lt_mul (Nat.pow_pos (by omega))] at h5
     have h6 : (2 : Nat) ^ s ≤ 4294967296 := by
      have : (2 : Nat) ^ s ≤ 2 ^ 32 := Nat.pow_le_pow_right (by omega) (by omega)
      omega
     rw [Nat.pow_succ, Nat.mul_comm]
     exact Nat.lt_of_lt_of_le h5 (Nat.mul_le_mul_right _ h6)
    exact dg_big _ (j + 1) k h4 (by omega)
  rw [e _ (Nat.le_refl _), e _ (by omega)]
theorem shl_rows (x s i n : Nat) (h : s < 32) : arr .u32 (upd (upd (dg (shl x s i)) i (dg (shl x s i) i + dg x i * 2 ^ s % 4294967296)) (i + 1) (dg x i * 2 ^ s / 4294967296)) n = arr .u32 (dg (shl x s (i + 1))) n := by
 apply arr_congr
 intro k _
 unfold upd
 by_cases h2 : k = i + 1
 ·subst h2; rw [if_pos rfl, shl_dg1 x s i h]
 ·rw [if_neg h2]
  by_cases h1 : k = i
  ·subst h1; rw [if_pos rfl, shl_dg x s k h]
  ·rw [if_neg h1, shl_other x s i k h h1 h2]
theorem shl_zero (x s n : Nat) : arr .u32 (fun _ => 0) n = arr .u32 (dg (shl x s 0)) n := by
 apply arr_congr; intro k _; unfold shl; rw [Nat.pow_zero, Nat.mod_one, Nat.zero_mul, dg_zero]
theorem shl_all (x s n : Nat) (hx : x < 4294967296 ^ n) : shl x s n = x * 2 ^ s := by unfold shl; rw [Nat.mod_eq_of_lt hx]
theorem or_low (a b s : Nat) (h : a + b < 4294967296) (ha : a < 2 ^ s) (hb : b % 2 ^ s = 0) : bits BinOp.or .u32 (a : Int) (b : Int) = ((a + b : Nat) : Int) := by
 rw [u32_or_nat _ _ (by omega) (by omega), Nat.or_comm, nat_join s b a hb ha, Nat.add_comm]
set_option maxRecDepth 100000 in
set_option maxHeartbeats 800000 in
theorem shifted_c (x s n c g : Nat) (w : World) (hx : x < 4294967296 ^ n) (hn : n ≤ 4294967296) (hr : Row32 w g n (dg x)) (hg : g < w.heap.size) (hs : s < 32) :
    Calls Tryz.prog 185 #[.slice (some ⟨g, 0, none⟩) n c, .int .i64 (s : Int)] w fun e w' => e = .returned (.slice (some ⟨w.heap.size, 0, none⟩) (n + 1) (n + 1)) ∧ ∃ k, w' = (w.alloc (.cells (arr .u32 (dg (x * 2 ^ s)) (n + 1)) 162)).drewN k := by
 have HMK := Lib.hid (make32s n · (by omega))
 have HZ := Lib.hid (shl_zero x s (n + 1))
 have HA := Lib.hid (shl_all x s n hx)
 have HR := Lib.hid hr
 clear hr hx
 go_enter Tryz.func185, Tryz.ntmps185
 go_wp2_with fail
 have hmk := HMK.out
 simp only [hmk]
 clear hmk
 go_wp2_with fail
 go_loopw [15] (fun v wr => ∃ i : Nat, i ≤ n ∧ v = .int .i64 i ∧ wr = w.alloc (.cells (arr .u32 (dg (shl x s i)) (n + 1)) 162)) (fun v _ => n - (intOf v).toNat)
 case atStart => exact ⟨0, Nat.zero_le _, rfl, by rw [HZ.out]⟩
 case round =>
  obtain ⟨i, hi, rfl, rfl⟩ := hrel
  by_cases hlt : i < n
  ·have hcell := HR.out i hlt
   have hget := arr_get .u32 (dg (shl x s i)) (n + 1) i (by omega)
   have hd := dg_lt x i
   obtain ⟨z, hz⟩ : ∃ z, z = dg x i * 2 ^ s := ⟨_, rfl⟩
   have hz63 : z < 9223372036854775808 := by
    have h1 : (2 : Nat) ^ s ≤ 2 ^ 31 := Nat.pow_le_pow_right (by omega) (by omega)
    rw [hz]
    calc dg x i * 2 ^ s ≤ 4294967295 * 2 ^ 31 := Nat.mul_le_mul (by omega) h1
     _ < 9223372036854775808 := by omega
   have hjn := shl_join x s i hs
   have hor := or_low (dg (shl x s i) i) (z % 4294967296) s (by rw [shl_at x s i hs, hz]; exact hjn.1) (by rw [shl_at x s i hs]; exact shl_top x s i hs) (by rw [hz]; exact hjn.2)
   have HRW := Lib.hid (shl_rows x s i (n + 1) hs)
   rw [← hz] at HRW
   have ez : IntKind.u64.wrap ((dg x i : Int) * 2 ^ s) = (z : Int) := by
    rw [IntKind.wrap_u64, hz, show (2 : Int) ^ s = ((2 ^ s : Nat) : Int) by rw [Int.natCast_pow]; rfl, ← Int.natCast_mul, ← hz]
    omega
   have hget1 := arr_get .u32 (dg (shl x s i)) (n + 1) (i + 1) (by omega)
   clear hjn hz
   go_wp2_with fail
   refine ⟨⟨i + 1, by omega, by go_num, ?_⟩, by simp [intOf]; omega⟩
   have e1 : (z : Int) % 4294967296 = ((z % 4294967296 : Nat) : Int) := rfl
   have e2 : (z : Int) / 4294967296 = ((z / 4294967296 : Nat) : Int) := rfl
   rw [e1, hor, arr_set, e2, arr_set, HRW.out]
  ·have e : i = n := by omega
   subst e
   go_wp2_with fail
   go_ret
   exact ⟨rfl, 0, by rw [HA.out]; rfl⟩
end Go.Proofs.YthdaimoankaciaaGreatDoor
