import Derived.Test.YthdaimoankaciaaGreatDoorProg
import Derived.Test.YthdaimoankaciaaGreatDoorShelf
import Derived.Test.YthdaimoankaciaaGreatDoorIntA
import Derived.Test.YthdaimoankaciaaGreatDoorRow
/- The package integer: digits to the base 2^32, sums, differences and products of magnitudes. -/
set_option linter.unusedSimpArgs false
set_option linter.unusedVariables false
namespace Go.Proofs.YthdaimoankaciaaGreatDoor
open Go Go.RowKit
open Vi
theorem make32 (n : Nat) (w : World) (h : n ≤ 8589934592) : (Instr.makeSlice 159 (.int .i64 (n : Int)) (.int .i64 (n : Int))).run Tryz.prog w = .ok (.slice (some ⟨w.heap.size, 0, none⟩) n n) (w.alloc (.cells (arr .u32 (fun _ => 0) n) 162)) := by
 have hinfo : (Tryz.prog.info? 162).map (fun i => (i.zero, i.size, i.bytes)) = some (some (.int .u32 0), 1, 4) := by kernel_rfl
 obtain ⟨i0, hi, hz0, hz1, hz2⟩ := info_parts hinfo
 have hr := run_make (P := Tryz.prog) w 159 162 i0 (.int .u32 0) (by kernel_rfl) hi hz0 .i64 .i64 n n (by omega) (Int.le_refl _) (by rw [hz2]; omega) (by omega)
 rw [hr, hz1]
 simp only [Int.toNat_natCast, Nat.mul_one, Value.cells]
 rw [madeCells_arr]
def up4 (n : Nat) : Nat := (n + 3) / 4
theorem up4_nd (x : Nat) : up4 (mag x).size = nd 4294967296 x := by
 rw [size_mag]
 unfold up4
 by_cases h : x = 0
 ·subst h; rfl
 ·have h0 : 0 < x := by omega
  have h1 := pow_nd_le 256 (by omega) x h0
  have h2 := lt_pow_nd 256 (by omega) x
  have h3 := nd_pos 256 (by omega) x h0
  have e : (nd 256 x + 3) / 4 = (nd 256 x - 1) / 4 + 1 := by omega
  rw [e]
  symm
  apply nd_of_bounds 4294967296 (by omega)
  ·have h4 : (4294967296 : Nat) ^ ((nd 256 x - 1) / 4) ≤ 256 ^ (nd 256 x - 1) := by
     rw [show (4294967296 : Nat) = 256 ^ 4 from rfl, ← Nat.pow_mul]
     exact Nat.pow_le_pow_right (by omega) (by omega)
   exact Nat.le_trans h4 h1
  ·have h4 : 256 ^ nd 256 x ≤ (4294967296 : Nat) ^ ((nd 256 x - 1) / 4 + 1) := by
     rw [show (4294967296 : Nat) = 256 ^ 4 from rfl, ← Nat.pow_mul]
     exact Nat.pow_le_pow_right (by omega) (by omega)
   exact Nat.lt_of_lt_of_le h2 h4
def digPart (x j : Nat) : Nat → Nat := fun k => dg (x % 256 ^ j) k
theorem digPart_zero (x n : Nat) : arr .u32 (digPart x 0) n = arr .u32 (fun _ => 0) n := by
 apply arr_congr; intro i _; unfold digPart; rw [Nat.pow_zero, Nat.mod_one, dg_zero]
theorem pow256 (q r : Nat) : 256 ^ (4 * q + r) = 4294967296 ^ q * 256 ^ r := by
 rw [Nat.pow_add, Nat.pow_mul]
theorem mod256_succ (x j : Nat) : x % 256 ^ (j + 1) = x % 256 ^ j + 256 ^ j * (x / 256 ^ j % 256) := by
 rw [Nat.pow_succ, Nat.mod_mul]
theorem pow_r (r : Nat) (h : r < 4) : 256 ^ (r + 1) ≤ 4294967296 := by
 have : (256 : Nat) ^ (r + 1) ≤ 256 ^ 4 := Nat.pow_le_pow_right (by omega) (by omega)
 omega
theorem part_at (x q r : Nat) (h : r < 4) : dg (x % 256 ^ (4 * q + r)) q = x / 4294967296 ^ q % 256 ^ r := by
 unfold dg
 rw [pow256, Nat.mod_mul_right_div_self, Nat.mod_eq_of_lt]
 have h1 := Nat.mod_lt (x / 4294967296 ^ q) (show 0 < 256 ^ r from Nat.pow_pos (by omega))
 have h2 := pow_r r h
 have h3 : (256 : Nat) ^ r ≤ 256 ^ (r + 1) := Nat.pow_le_pow_right (by omega) (by omega)
 omega
theorem part_step (x q r : Nat) (h : r < 4) : dg (x % 256 ^ (4 * q + r + 1)) q = dg (x % 256 ^ (4 * q + r)) q + x / 256 ^ (4 * q + r) % 256 * 256 ^ r := by
 rw [part_at x q r h]
 have e : dg (x % 256 ^ (4 * q + r + 1)) q = x / 4294967296 ^ q % 256 ^ (r + 1) := by
  unfold dg
  rw [Nat.add_assoc, pow256, Nat.mod_mul_right_div_self, Nat.mod_eq_of_lt]
  have h1 := Nat.mod_lt (x / 4294967296 ^ q) (show 0 < 256 ^ (r + 1) from Nat.pow_pos (by omega))
  have h2 := pow_r r h
  omega
 rw [e, mod256_succ, pow256, ← Nat.div_div_eq_div_mul, Nat.mul_comm (256 ^ r)]
theorem part_other (x q r k : Nat) (h : r < 4) (hk : k ≠ q) : dg (x % 256 ^ (4 * q + r + 1)) k = dg (x % 256 ^ (4 * q + r)) k := by
 rcases Nat.lt_or_gt_of_ne hk with h1 | h1
 ·have e : ∀ n, 4 * (k + 1) ≤ n → dg (x % 256 ^ n) k = dg x k := by
    intro n hn
    have e1 : dg (x % 256 ^ n) k = x % 256 ^ n % 4294967296 ^ (k + 1) / 4294967296 ^ k := by
     rw [Nat.pow_succ, Nat.mod_mul_right_div_self]; rfl
    have e2 : dg x k = x % 4294967296 ^ (k + 1) / 4294967296 ^ k := by
     rw [Nat.pow_succ, Nat.mod_mul_right_div_self]; rfl
    rw [e1, e2]
    congr 1
    obtain ⟨m, rfl⟩ : ∃ m, n = 4 * (k + 1) + m := ⟨n - 4 * (k + 1), by omega⟩
    rw [pow256, Nat.mod_mul_right_mod]
  rw [e _ (by omega), e _ (by omega)]
 ·have e : ∀ n, n ≤ 4 * k → dg (x % 256 ^ n) k = 0 := by
    intro n hn
    unfold dg
    have h2 := Nat.mod_lt x (show 0 < 256 ^ n from Nat.pow_pos (by omega))
    have h3 : (256 : Nat) ^ n ≤ 256 ^ (4 * k) := Nat.pow_le_pow_right (by omega) hn
    have h4 : (256 : Nat) ^ (4 * k) = 4294967296 ^ k := by rw [Nat.pow_mul]
    rw [Nat.div_eq_of_lt (by omega)]
  rw [e _ (by omega), e _ (by omega)]
theorem or_byte (a d r : Nat) (h : r < 4) (ha : a < 256 ^ r) (hd : d < 256) : bits BinOp.or IntKind.u32 (a : Int) ((d : Int) % 4294967296 * 2 ^ (8 * r) % 4294967296) = ((a + d * 256 ^ r : Nat) : Int) := by
 have h1 := pow_r r h
 have h2 : d * 256 ^ r < 4294967296 := by
  have : (d + 1) * 256 ^ r ≤ 256 * 256 ^ r := Nat.mul_le_mul_right _ hd
  rw [Nat.pow_succ] at h1
  have h3 : 0 < 256 ^ r := Nat.pow_pos (by omega)
  rw [Nat.add_mul] at this
  omega
 have e : (d : Int) % 4294967296 * 2 ^ (8 * r) % 4294967296 = ((d * 256 ^ r : Nat) : Int) := by
  rw [show (2 : Int) ^ (8 * r) = ((256 ^ r : Nat) : Int) by rw [Int.pow_mul, Int.natCast_pow]; rfl]
  rw [show (d : Int) % 4294967296 = (d : Int) by omega, ← Int.natCast_mul]
  omega
 have h3 : (256 : Nat) ^ r ≤ 256 ^ (r + 1) := Nat.pow_le_pow_right (by omega) (by omega)
 have e2 : (256 : Nat) ^ r = 2 ^ (8 * r) := by rw [show (256 : Nat) = 2 ^ 8 from rfl, ← Nat.pow_mul]
 rw [e, u32_or_nat _ _ (by omega) h2, Nat.or_comm, nat_join (8 * r) (d * 256 ^ r) a (by rw [e2, Nat.mul_mod_left]) (by rw [← e2]; exact ha), Nat.add_comm]
theorem digPart_succ (x j n : Nat) (hj : j / 4 < n) : (arr .u32 (digPart x j) n).setIfInBounds (j / 4) (.int .u32 (bits BinOp.or IntKind.u32 (digPart x j (j / 4) : Int) (((x / 256 ^ j % 256 : Nat) : Int) % 4294967296 * 2 ^ (8 * (j % 4)) % 4294967296))) = arr .u32 (digPart x (j + 1)) n := by
 obtain ⟨q, r, hr, rfl⟩ : ∃ q r, r < 4 ∧ j = 4 * q + r := ⟨j / 4, j % 4, by omega, by omega⟩
 have e1 : (4 * q + r) / 4 = q := by omega
 have e2 : (4 * q + r) % 4 = r := by omega
 rw [e1, e2]
 have hd := Nat.mod_lt (x / 256 ^ (4 * q + r)) (show 0 < 256 by omega)
 have ha : digPart x (4 * q + r) q < 256 ^ r := by
  show dg _ _ < _
  rw [part_at x q r hr]
  exact Nat.mod_lt _ (Nat.pow_pos (by omega))
 rw [or_byte _ _ r hr ha hd, arr_set]
 apply arr_congr
 intro k _
 unfold upd
 by_cases hk : k = q
 ·subst hk
  rw [if_pos rfl]
  exact (part_step x k r hr).symm
 ·rw [if_neg hk]
  exact (part_other x q r k hr hk).symm
theorem digPart_all (x n : Nat) : arr .u32 (digPart x (mag x).size) n = arr .u32 (dg x) n := by
 apply arr_congr
 intro i _
 unfold digPart
 rw [Nat.mod_eq_of_lt (lt_of_size_mag x _ (Nat.le_refl _))]
set_option maxHeartbeats 400000 in
theorem digits_c (x : Nat) (w : World) (hx : (mag x).size ≤ 4294967296) : Calls Tryz.prog 165 #[.string (mag x)] w fun e w' => e = .returned (.slice (some ⟨w.heap.size, 0, none⟩) (nd 4294967296 x) (nd 4294967296 x)) ∧ ∃ k, w' = (w.alloc (.cells (arr .u32 (dg x) (nd 4294967296 x)) 162)).drewN k := by
 have hm := make32 (up4 (mag x).size) w (by unfold up4; omega)
 have e4 : (((mag x).size : Int) + 3) / 4 = (up4 (mag x).size : Int) := by unfold up4; omega
 go_enter Tryz.func165, Tryz.ntmps165
 go_wp2_with fail
 have H0 := Lib.hid (digPart_zero x (up4 (mag x).size))
 have hn : (mag x).size ≤ 4 * up4 (mag x).size := by unfold up4; omega
 clear e4 hm
 go_loopw [13] (fun k wr => ∃ j : Nat, j ≤ (mag x).size ∧ k = .int .i64 j ∧ wr = (w.alloc (.cells (arr .u32 (digPart x j) (up4 (mag x).size)) 162)).drewN j) (fun k _ => (mag x).size - (intOf k).toNat)
 case atStart => exact ⟨0, Nat.zero_le _, rfl, by rw [H0.out]; rfl⟩
 case round =>
  obtain ⟨j, hj, rfl, rfl⟩ := hrel
  by_cases hlt : j < (mag x).size
  ·have hg := arr_get .u32 (digPart x j) (up4 (mag x).size) (j / 4) (by omega)
   obtain ⟨p, hp⟩ : ∃ p : Nat, p + 1 + j = (mag x).size := ⟨(mag x).size - 1 - j, by omega⟩
   have hb : p < (mag x).size := by omega
   have hget := get_mag x p hb
   rw [show (mag x).size - 1 - p = j by omega] at hget
   have e5 : ((mag x).size : Int) - 1 - (j : Int) = (p : Int) := by omega
   have H1 := Lib.hid hget
   have H2 := Lib.hid hp
   clear hget hp
   go_wp2_with fail
   (refine wp_region_exact_t 15 (by kernel_rfl) (by kernel_rfl) ?_; simp only [List.take_succ_cons, List.take_zero, List.drop_succ_cons, List.drop_zero]; repeat go_big_quiet_step (fail)); (refine wpQuiet_nil ?_; rintro _ rfl)
   go_wp2_with fail
   refine ⟨⟨j + 1, by omega, by go_num, ?_⟩, by simp [intOf]; omega⟩
   rw [H1.out, digPart_succ x j _ (by omega)]
  ·have e : j = (mag x).size := by omega
   subst e
   have H3 := Lib.hid (digPart_all x (up4 (mag x).size))
   have H4 := Lib.hid (up4_nd x)
   go_wp2_with fail
   go_ret
   refine ⟨?_, (mag x).size, ?_⟩
   ·show Ending.returned (.slice _ _ _) = _
    rw [H4.out]
   ·rw [H3.out, H4.out]
def Row32 (w : World) (g n : Nat) (f : Nat → Nat) : Prop := ∀ i, i < n → w.cell? ⟨g, i, none⟩ = some (.int .u32 (f i : Int))
def lenOfS : Value → Nat | .slice _ n _ => n | _ => 0
theorem nd_top (x m : Nat) (h1 : nd 4294967296 x ≤ m + 1) (h : dg x m ≠ 0) : nd 4294967296 x = m + 1 := by
 apply Decidable.byContradiction
 intro h2
 have h3 := lt_pow_nd 4294967296 (by omega) x
 exact h (dg_big x _ m h3 (by omega))
theorem nd_low (x m : Nat) (h1 : nd 4294967296 x ≤ m + 1) (h : dg x m = 0) : nd 4294967296 x ≤ m := by
 apply nd_le 4294967296 (by omega)
 apply nd_le_of_dg x m _ h
 have h3 := lt_pow_nd 4294967296 (by omega) x
 exact Nat.lt_of_lt_of_le h3 (Nat.pow_le_pow_right (by omega) h1)
set_option maxHeartbeats 400000 in
theorem trim_c (x n c g : Nat) (w : World) (hx : x < 4294967296 ^ n) (hn : n ≤ 8589934592) (hc : n ≤ c) (hr : Row32 w g n (dg x)) : Calls Tryz.prog 166 #[.slice (some ⟨g, 0, none⟩) n c] w fun e w' => e = .returned (.slice (some ⟨g, 0, none⟩) (nd 4294967296 x) c) ∧ w = w' := by
 have hle := nd_le 4294967296 (by omega) x n hx
 go_enter Tryz.func166, Tryz.ntmps166
 go_wp2_with fail
 go_loop [0] (fun v => ∃ j : Nat, nd 4294967296 x ≤ j ∧ j ≤ n ∧ v = .slice (some ⟨g, 0, none⟩) j c) (fun v => lenOfS v)
 case atStart => exact ⟨n, hle, Nat.le_refl _, rfl⟩
 case round =>
  obtain ⟨j, h1, h2, rfl⟩ := hrel
  cases j with
  | zero =>
   have e : nd 4294967296 x = 0 := by omega
   have H := Lib.hid e
   clear e
   go_wp2_with fail
   go_ret
   exact ⟨by rw [H.out]; rfl, rfl⟩
  | succ m =>
   have hcell := hr m (by omega)
   have e1 : ((m + 1 : Nat) : Int) = (m : Int) + 1 := by omega
   by_cases h0 : dg x m = 0
   ·have hb : ((dg x m : Int) == 0) = true := by rw [h0]; rfl
    have H := Lib.hid (nd_low x m h1 h0)
    clear h0
    go_wp2_with fail
    exact ⟨⟨m, H.out, by omega, rfl⟩, by simp [lenOfS]⟩
   ·have hb : ((dg x m : Int) == 0) = false := by rw [beq_eq_false_iff_ne]; omega
    have H := Lib.hid (nd_top x m h1 h0)
    clear h0
    go_wp2_with fail
    go_ret
    exact ⟨by rw [H.out]; rfl, rfl⟩
theorem make8 (n : Nat) (w : World) (h : n ≤ 8589934592 * 4) : (Instr.makeSlice 157 (.int .i64 (n : Int)) (.int .i64 (n : Int))).run Tryz.prog w = .ok (.slice (some ⟨w.heap.size, 0, none⟩) n n) (w.alloc (.cells (arr .u8 (fun _ => 0) n) 5)) := by
 have hinfo : (Tryz.prog.info? 5).map (fun i => (i.zero, i.size, i.bytes)) = some (some (.int .u8 0), 1, 1) := by kernel_rfl
 obtain ⟨i0, hi, hz0, hz1, hz2⟩ := info_parts hinfo
 have hr := run_make (P := Tryz.prog) w 157 5 i0 (.int .u8 0) (by kernel_rfl) hi hz0 .i64 .i64 n n (by omega) (Int.le_refl _) (by rw [hz2]; omega) (by omega)
 rw [hr, hz1]
 simp only [Int.toNat_natCast, Nat.mul_one, Value.cells]
 rw [madeCells_arr]
def byteFn (x N c : Nat) : Nat → Nat := fun p => if p < 4 * N ∧ 4 * N - 1 - p < c then x / 256 ^ (4 * N - 1 - p) % 256 else 0
theorem byteFn_zero (x N n : Nat) : arr .u8 (byteFn x N 0) n = arr .u8 (fun _ => 0) n := by
 apply arr_congr; intro i _; unfold byteFn; rw [if_neg (by omega)]
theorem byteFn_succ (x N c p : Nat) (hp : p + 1 + c = 4 * N) : upd (byteFn x N c) p (x / 256 ^ c % 256) = byteFn x N (c + 1) := by
 funext k
 unfold upd byteFn
 by_cases h : k = p
 ·subst h
  rw [if_pos rfl, show 4 * N - 1 - k = c by omega, if_pos (by omega)]
 ·rw [if_neg h]
  by_cases h2 : k < 4 * N ∧ 4 * N - 1 - k < c
  ·rw [if_pos h2, if_pos (by omega)]
  ·rw [if_neg h2, if_neg (by omega)]
theorem byteFn_lt (x N c p : Nat) : byteFn x N c p < 256 := by
 unfold byteFn; split
 ·exact Nat.mod_lt _ (by omega)
 ·omega
theorem dg_byte (x i k : Nat) (h : k < 4) : dg x i / 256 ^ k % 256 = x / 256 ^ (4 * i + k) % 256 := by
 unfold dg
 rw [pow256, ← Nat.div_div_eq_div_mul]
 generalize x / 4294967296 ^ i = y
 have e : (4294967296 : Nat) = 256 ^ k * 256 ^ (4 - k) := by
  rw [← Nat.pow_add, show k + (4 - k) = 4 by omega]
 rw [e, Nat.mod_mul_right_div_self]
 have e2 : (256 : Nat) ^ (4 - k) = 256 * 256 ^ (3 - k) := by
  rw [show 4 - k = 3 - k + 1 by omega, Nat.pow_succ, Nat.mul_comm]
 rw [e2, Nat.mod_mul_right_mod]
theorem byte_int (x i k : Nat) (h : k < 4) : (dg x i : Int) / 2 ^ (8 * k) % 256 = ((x / 256 ^ (4 * i + k) % 256 : Nat) : Int) := by
 rw [← dg_byte x i k h, show (2 : Int) ^ (8 * k) = ((256 ^ k : Nat) : Int) by rw [Int.pow_mul, Int.natCast_pow]; rfl]
 rfl
def strFn (f : Nat → Nat) (n : Nat) : ByteArray := ⟨((List.range n).map fun i => UInt8.ofNat (f i)).toArray⟩
theorem conv8 (f : Nat → Nat) (n c : Nat) (w : World) (hf : ∀ i, f i < 256) :
    (convert 157 9 (.slice (some ⟨w.heap.size, 0, none⟩) n c)).run Tryz.prog (w.alloc (.cells (arr .u8 f n) 5)) = .ok (.string (strFn f n)) (w.alloc (.cells (arr .u8 f n) 5)) := by
 have hlen : ((List.range n).map fun i => (f i : Int)).length = n := by simp
 have := run_convert_bytes_arg (P := Tryz.prog) (w.alloc (.cells (arr .u8 f n) 5)) 157 5 Tryz.underlying157 Tryz.underlying5 w.heap.size 0 n c ((List.range n).map fun i => (f i : Int)) hlen (fun i hi => by
  rw [Nat.zero_add, World.cell?_alloc_at _ _ _ _ rfl, arr_get .u8 f n i hi]
  simp [hi]) 9 Tryz.underlying9
 rw [this]
 have e : strOfNums ((List.range n).map fun i => (f i : Int)) = strFn f n := by
  unfold strOfNums strFn
  rw [List.map_map]; rfl
 rw [e]
theorem val_range (x n : Nat) : val 256 ((List.range n).map fun k => x / 256 ^ k % 256) = x % 256 ^ n := by
 induction n with
 | zero => simp [val, Nat.mod_one]
 | succ n ih =>
  rw [List.range_succ, List.map_append, List.map_cons, List.map_nil, val_snoc, ih, List.length_map, List.length_range, mod256_succ]
theorem dropWhile_zero (l : List UInt8) : val 256 ((l.dropWhile (· == 0)).map UInt8.toNat).reverse = val 256 (l.map UInt8.toNat).reverse := by
 induction l with
 | nil => rfl
 | cons b l ih =>
  by_cases h : b = 0
  ·subst h
   rw [List.dropWhile_cons_of_pos (by rfl), ih, List.map_cons, val_reverse_cons]
   simp
  ·rw [List.dropWhile_cons_of_neg (by simpa using h)]
theorem strip_mag (s : ByteArray) : (⟨(Lib.trimLeftB s.data.toList 0).toArray⟩ : ByteArray) = mag (num s) := by
 have e : Lib.trimLeftB s.data.toList 0 = s.data.toList.dropWhile (· == 0) := rfl
 rw [e]
 have h1 : num ⟨(s.data.toList.dropWhile (· == 0)).toArray⟩ = num s := dropWhile_zero s.data.toList
 have h2 : Vi.Can ⟨(s.data.toList.dropWhile (· == 0)).toArray⟩ := by
  unfold Vi.Can
  intro h
  have h3 := List.head?_dropWhile_not (fun b : UInt8 => b == 0) s.data.toList
  rw [show (s.data.toList.dropWhile (· == 0)).head? = some 0 from h] at h3
  simp at h3
 rw [← h1, mag_num _ h2]
theorem bytes_mag (x N : Nat) (h : x < 4294967296 ^ N) : (⟨(Lib.trimLeftB (strFn (byteFn x N (4 * N)) (4 * N)).data.toList 0).toArray⟩ : ByteArray) = mag x := by
 rw [strip_mag]
 congr 1
 have e : low (strFn (byteFn x N (4 * N)) (4 * N)) = (List.range (4 * N)).map fun k => x / 256 ^ k % 256 := by
  unfold low strFn
  apply List.ext_getElem?
  intro i
  by_cases hi : i < 4 * N
  ·rw [List.getElem?_reverse (by simpa using hi)]
   simp only [List.map_map, List.getElem?_map, List.length_map, List.length_range]
   rw [List.getElem?_range (by omega), List.getElem?_range hi]
   simp only [Option.map_some, Function.comp_apply]
   have hb := byteFn_lt x N (4 * N) (4 * N - 1 - i)
   rw [UInt8.toNat_ofNat', Nat.mod_eq_of_lt hb]
   unfold byteFn
   rw [if_pos (by omega), show 4 * N - 1 - (4 * N - 1 - i) = i by omega]
  ·rw [List.getElem?_eq_none (by simp; omega), List.getElem?_eq_none (by simp; omega)]
 unfold num
 rw [e, val_range]
 apply Nat.mod_eq_of_lt
 rw [Nat.pow_mul]; exact h
set_option maxRecDepth 100000 in
set_option maxHeartbeats 400000 in
theorem bytes_c (x n c g : Nat) (w : World) (hx : x < 4294967296 ^ n) (hn : n ≤ 8589934592) (hc : n ≤ c) (hr : Row32 w g n (dg x)) (hg : g < w.heap.size) : Calls Tryz.prog 178 #[.slice (some ⟨g, 0, none⟩) n c] w fun e w' => e = .returned (.string (mag x)) ∧ Below w.heap.size w w' := by
 have ht := trim_c x n c g w hx hn hc hr
 have hle := nd_le 4294967296 (by omega) x n hx
 obtain ⟨N, hN⟩ : ∃ N, nd 4294967296 x = N := ⟨_, rfl⟩
 rw [hN] at ht hle
 have HN := Lib.hid hN
 have HT := Lib.hid ht
 clear hN ht
 cases N with
 | zero =>
  go_enter Tryz.func178, Tryz.ntmps178
  go_wp2_with fail
  (refine (HT.out).mono ?_; rintro e w' ⟨rfl, rfl⟩)
  go_wp2_with fail
  go_ret
  refine ⟨?_, by (repeat' (first | (with_reducible first | exact Below.refl _ _ | assumption | refine Below.plus0 ?_ _ | refine Below.alloc0 ?_ _ | refine Below.plus ?_ ?_ _ | refine Below.alloc ?_ ?_ _ | refine Below.drew ?_ | refine Below.drewN ?_ _) | (simp [go_sem]; done) | (simp [go_sem]; omega)))⟩
  have e0 : x = 0 := by
   have := lt_pow_nd 4294967296 (by omega) x
   rw [HN.out, Nat.pow_zero] at this; omega
  rw [e0]; rfl
 | succ M =>
  obtain ⟨N, hM⟩ : ∃ N, N = M + 1 := ⟨_, rfl⟩
  rw [← hM] at HT HN hle
  have hN1 : 0 < N := by omega
  clear hM
  have hb : ((N : Int) == 0) = false := by rw [beq_eq_false_iff_ne]; omega
  have hm := make8 (4 * N) w (by omega)
  have e4 : (4 * (N : Int)) = ((4 * N : Nat) : Int) := by omega
  rw [← e4] at hm
  clear e4
  have H0 := Lib.hid (byteFn_zero x N (4 * N))
  go_enter Tryz.func178, Tryz.ntmps178
  go_wp2_with fail
  (refine (HT.out).mono ?_; rintro e w' ⟨rfl, rfl⟩)
  go_wp2_with fail
  go_loopw [18] (fun v wr => ∃ i : Nat, i ≤ N ∧ v = .int .i64 i ∧ wr = w.alloc (.cells (arr .u8 (byteFn x N (4 * i)) (4 * N)) 5)) (fun v _ => N - (intOf v).toNat)
  case atStart => exact ⟨0, Nat.zero_le _, rfl, by rw [Nat.mul_zero, H0.out]⟩
  case round =>
   obtain ⟨i, hi, rfl, rfl⟩ := hrel
   by_cases hlt : i < N
   ·have hcell := hr i (by omega)
    go_wp2_with fail
    go_loopw [23] (fun v wr => ∃ k : Nat, k ≤ 4 ∧ v = .int .i64 k ∧ wr = w.alloc (.cells (arr .u8 (byteFn x N (4 * i + k)) (4 * N)) 5)) (fun v _ => 4 - (intOf v).toNat)
    case atStart => exact ⟨0, by omega, rfl, rfl⟩
    case round =>
     obtain ⟨k, hk, rfl, rfl⟩ := hrel
     by_cases hlt2 : k < 4
     ·obtain ⟨p, hp⟩ : ∃ p : Nat, p + 1 + (4 * i + k) = 4 * N := ⟨4 * N - 1 - (4 * i + k), by omega⟩
      have e5 : 4 * (N : Int) - 1 - 4 * (i : Int) - (k : Int) = (p : Int) := by omega
      have hpl : p < 4 * N := by omega
      have hget := arr_get .u8 (byteFn x N (4 * i + k)) (4 * N) p hpl
      have H1 := Lib.hid (byteFn_succ x N (4 * i + k) p hp)
      have H2 := Lib.hid (dg_byte x i k hlt2)
      clear hp
      go_wp2_with fail
      refine ⟨⟨k + 1, by omega, by go_num, ?_⟩, by simp [intOf]; omega⟩
      rw [show 4 * i + (k + 1) = 4 * i + k + 1 by omega, ← H1.out, byte_int x i k hlt2, arr_set]
     ·have e : k = 4 := by omega
      subst e
      go_wp2_with fail
      refine ⟨⟨i + 1, by omega, by go_num, ?_⟩, by simp [intOf]; omega⟩
      rw [show 4 * (i + 1) = 4 * i + 4 by omega]
   ·have e : i = N := by omega
    subst e
    have hcv := conv8 (byteFn x i (4 * i)) (4 * i) (4 * i) w (byteFn_lt x i (4 * i))
    have H5 := Lib.hid (bytes_mag x i (by rw [← HN.out]; exact lt_pow_nd _ (by omega) x))
    go_wp2_with fail
    refine (Tryz.strings_TrimLeft_one _ 0 (by decide) _).mono ?_
    rintro e w' ⟨rfl, rfl⟩
    go_wp2_with fail
    go_ret
    refine ⟨?_, by (repeat' (first | (with_reducible first | exact Below.refl _ _ | assumption | refine Below.plus0 ?_ _ | refine Below.alloc0 ?_ _ | refine Below.plus ?_ ?_ _ | refine Below.alloc ?_ ?_ _ | refine Below.drew ?_ | refine Below.drewN ?_ _) | (simp [go_sem]; done) | (simp [go_sem]; omega)))⟩
    rw [← H5.out]; rfl
end Go.Proofs.YthdaimoankaciaaGreatDoor
