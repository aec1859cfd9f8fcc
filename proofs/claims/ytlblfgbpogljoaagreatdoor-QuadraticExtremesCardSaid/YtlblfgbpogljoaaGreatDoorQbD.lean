/- Part 4 of the proof; what it holds is said text by text. -/
import Derived.Test.YtlblfgbpogljoaaGreatDoorProg
import Derived.Test.YtlblfgbpogljoaaGreatDoorQbC
set_option linter.unusedSimpArgs false
set_option linter.unusedVariables false
section
/- The package integer: digits to the base 2^32, sums, differences and products of magnitudes. -/
namespace Go.Proofs.YtlblfgbpogljoaaGreatDoor
open Go Go.RowKit
open Vi
theorem make32 (n : Nat) (w : World) (h : n ≤ 8589934592) : (Instr.makeSlice 226 (.int .i64 (n : Int)) (.int .i64 (n : Int))).run Tryz.prog w = .ok (.slice (some ⟨w.heap.size, 0, none⟩) n n) (w.alloc (.cells (arr .u32 (fun _ => 0) n) 228)) := by
 have hinfo : (Tryz.prog.info? 228).map (fun i => (i.zero, i.size, i.bytes)) = some (some (.int .u32 0), 1, 4) := by kernel_rfl
 obtain ⟨i0, hi, hz0, hz1, hz2⟩ := info_parts hinfo
 have hr := run_make (P := Tryz.prog) w 226 228 i0 (.int .u32 0) (by kernel_rfl) hi hz0 .i64 .i64 n n (by omega) (Int.le_refl _) (by rw [hz2]; omega) (by omega)
 rw [hr, hz1]
 simp only [Int.toNat_natCast, Nat.mul_one, Value.cells]
 rw [madeCells_arr]
def up4 (n : Nat) : Nat := (n + 3) / 4
theorem up4_nd (x : Nat) : up4 (mag x).size = nd 4294967296 x := by
 rw [size_mag]
 unfold up4
 by_cases h : x = 0
 ·subst h; rfl
 ·have h0 : 0 < x := by omega
  have h1 := pow_nd_le 256 (by omega) x h0
  have h2 := lt_pow_nd 256 (by omega) x
  have h3 := nd_pos 256 (by omega) x h0
  have e : (nd 256 x + 3) / 4 = (nd 256 x - 1) / 4 + 1 := by omega
  rw [e]
  symm
  apply nd_of_bounds 4294967296 (by omega)
  ·have h4 : (4294967296 : Nat) ^ ((nd 256 x - 1) / 4) ≤ 256 ^ (nd 256 x - 1) := by
     rw [show (4294967296 : Nat) = 256 ^ 4 from rfl, ← Nat.pow_mul]
     exact Nat.pow_le_pow_right (by omega) (by omega)
   exact Nat.le_trans h4 h1
  ·have h4 : 256 ^ nd 256 x ≤ (4294967296 : Nat) ^ ((nd 256 x - 1) / 4 + 1) := by
     rw [show (4294967296 : Nat) = 256 ^ 4 from rfl, ← Nat.pow_mul]
     exact Nat.pow_le_pow_right (by omega) (by omega)
   exact Nat.lt_of_lt_of_le h2 h4
def digPart (x j : Nat) : Nat → Nat := fun k => dg (x % 256 ^ j) k
theorem digPart_zero (x n : Nat) : arr .u32 (digPart x 0) n = arr .u32 (fun _ => 0) n := by
 apply arr_congr; intro i _; unfold digPart; rw [Nat.pow_zero, Nat.mod_one, dg_zero]
theorem pow256 (q r : Nat) : 256 ^ (4 * q + r) = 4294967296 ^ q * 256 ^ r := by
 rw [Nat.pow_add, Nat.pow_mul]
theorem mod256_succ (x j : Nat) : x % 256 ^ (j + 1) = x % 256 ^ j + 256 ^ j * (x / 256 ^ j % 256) := by
 rw [Nat.pow_succ, Nat.mod_mul]
theorem pow_r (r : Nat) (h : r < 4) : 256 ^ (r + 1) ≤ 4294967296 := by
 have : (256 : Nat) ^ (r + 1) ≤ 256 ^ 4 := Nat.pow_le_pow_right (by omega) (by omega)
 omega
theorem part_at (x q r : Nat) (h : r < 4) : dg (x % 256 ^ (4 * q + r)) q = x / 4294967296 ^ q % 256 ^ r := by
 unfold dg
 rw [pow256, Nat.mod_mul_right_div_self, Nat.mod_eq_of_lt]
 have h1 := Nat.mod_lt (x / 4294967296 ^ q) (show 0 < 256 ^ r from Nat.pow_pos (by omega))
 have h2 := pow_r r h
 have h3 : (256 : Nat) ^ r ≤ 256 ^ (r + 1) := Nat.pow_le_pow_right (by omega) (by omega)
 omega
theorem part_step (x q r : Nat) (h : r < 4) : dg (x % 256 ^ (4 * q + r + 1)) q = dg (x % 256 ^ (4 * q + r)) q + x / 256 ^ (4 * q + r) % 256 * 256 ^ r := by
 rw [part_at x q r h]
 have e : dg (x % 256 ^ (4 * q + r + 1)) q = x / 4294967296 ^ q % 256 ^ (r + 1) := by
  unfold dg
  rw [Nat.add_assoc, pow256, Nat.mod_mul_right_div_self, Nat.mod_eq_of_lt]
  have h1 := Nat.mod_lt (x / 4294967296 ^ q) (show 0 < 256 ^ (r + 1) from Nat.pow_pos (by omega))
  have h2 := pow_r r h
  omega
 rw [e, mod256_succ, pow256, ← Nat.div_div_eq_div_mul, Nat.mul_comm (256 ^ r)]
theorem part_other (x q r k : Nat) (h : r < 4) (hk : k ≠ q) : dg (x % 256 ^ (4 * q + r + 1)) k = dg (x % 256 ^ (4 * q + r)) k := by
 rcases Nat.lt_or_gt_of_ne hk with h1 | h1
 ·have e : ∀ n, 4 * (k + 1) ≤ n → dg (x % 256 ^ n) k = dg x k := by
    intro n hn
    have e1 : dg (x % 256 ^ n) k = x % 256 ^ n % 4294967296 ^ (k + 1) / 4294967296 ^ k := by
     rw [Nat.pow_succ, Nat.mod_mul_right_div_self]; rfl
    have e2 : dg x k = x % 4294967296 ^ (k + 1) / 4294967296 ^ k := by
     rw [Nat.pow_succ, Nat.mod_mul_right_div_self]; rfl
    rw [e1, e2]
    congr 1
    obtain ⟨m, rfl⟩ : ∃ m, n = 4 * (k + 1) + m := ⟨n - 4 * (k + 1), by omega⟩
    rw [pow256, Nat.mod_mul_right_mod]
  rw [e _ (by omega), e _ (by omega)]
 ·have e : ∀ n, n ≤ 4 * k → dg (x % 256 ^ n) k = 0 := by
    intro n hn
    unfold dg
    have h2 := Nat.mod_lt x (show 0 < 256 ^ n from Nat.pow_pos (by omega))
    have h3 : (256 : Nat) ^ n ≤ 256 ^ (4 * k) := Nat.pow_le_pow_right (by omega) hn
    have h4 : (256 : Nat) ^ (4 * k) = 4294967296 ^ k := by rw [Nat.pow_mul]
    rw [Nat.div_eq_of_lt (by omega)]
  rw [e _ (by omega), e _ (by omega)]
theorem or_byte (a d r : Nat) (h : r < 4) (ha : a < 256 ^ r) (hd : d < 256) : bits BinOp.or IntKind.u32 (a : Int) ((d : Int) % 4294967296 * 2 ^ (8 * r) % 4294967296) = ((a + d * 256 ^ r : Nat) : Int) := by
 have h1 := pow_r r h
 have h2 : d * 256 ^ r < 4294967296 := by
  have : (d + 1) * 256 ^ r ≤ 256 * 256 ^ r := Nat.mul_le_mul_right _ hd
  rw [Nat.pow_succ] at h1
  have h3 : 0 < 256 ^ r := Nat.pow_pos (by omega)
  rw [Nat.add_mul] at this
  omega
 have e : (d : Int) % 4294967296 * 2 ^ (8 * r) % 4294967296 = ((d * 256 ^ r : Nat) : Int) := by
  rw [show (2 : Int) ^ (8 * r) = ((256 ^ r : Nat) : Int) by rw [Int.pow_mul, Int.natCast_pow]; rfl]
  rw [show (d : Int) % 4294967296 = (d : Int) by omega, ← Int.natCast_mul]
  omega
 have h3 : (256 : Nat) ^ r ≤ 256 ^ (r + 1) := Nat.pow_le_pow_right (by omega) (by omega)
 have e2 : (256 : Nat) ^ r = 2 ^ (8 * r) := by rw [show (256 : Nat) = 2 ^ 8 from rfl, ← Nat.pow_mul]
 rw [e, u32_or_nat _ _ (by omega) h2, Nat.or_comm, nat_join (8 * r) (d * 256 ^ r) a (by rw [e2, Nat.mul_mod_left]) (by rw [← e2]; exact ha), Nat.add_comm]
theorem digPart_succ (x j n : Nat) (hj : j / 4 < n) : (arr .u32 (digPart x j) n).setIfInBounds (j / 4) (.int .u32 (bits BinOp.or IntKind.u32 (digPart x j (j / 4) : Int) (((x / 256 ^ j % 256 : Nat) : Int) % 4294967296 * 2 ^ (8 * (j % 4)) % 4294967296))) = arr .u32 (digPart x (j + 1)) n := by
 obtain ⟨q, r, hr, rfl⟩ : ∃ q r, r < 4 ∧ j = 4 * q + r := ⟨j / 4, j % 4, by omega, by omega⟩
 have e1 : (4 * q + r) / 4 = q := by omega
 have e2 : (4 * q + r) % 4 = r := by omega
 rw [e1, e2]
 have hd := Nat.mod_lt (x / 256 ^ (4 * q + r)) (show 0 < 256 by omega)
 have ha : digPart x (4 * q + r) q < 256 ^ r := by
  show dg _ _ < _
  rw [part_at x q r hr]
  exact Nat.mod_lt _ (Nat.pow_pos (by omega))
 rw [or_byte _ _ r hr ha hd, arr_set]
 apply arr_congr
 intro k _
 unfold upd
 by_cases hk : k = q
 ·subst hk
  rw [if_pos rfl]
  exact (part_step x k r hr).symm
 ·rw [if_neg hk]
  exact (part_other x q r k hr hk).symm
theorem digPart_all (x n : Nat) : arr .u32 (digPart x (mag x).size) n = arr .u32 (dg x) n := by
 apply arr_congr
 intro i _
 unfold digPart
 rw [Nat.mod_eq_of_lt (lt_of_size_mag x _ (Nat.le_refl _))]
set_option maxHeartbeats 400000 in
theorem digits_c (x : Nat) (w : World) (hx : (mag x).size ≤ 4294967296) : Calls Tryz.prog 194 #[.string (mag x)] w fun e w' => e = .returned (.slice (some ⟨w.heap.size, 0, none⟩) (nd 4294967296 x) (nd 4294967296 x)) ∧ ∃ k, w' = (w.alloc (.cells (arr .u32 (dg x) (nd 4294967296 x)) 228)).drewN k := by
 have hm := make32 (up4 (mag x).size) w (by unfold up4; omega)
 have e4 : (((mag x).size : Int) + 3) / 4 = (up4 (mag x).size : Int) := by unfold up4; omega
 go_enter Tryz.func194, Tryz.ntmps194
 go_wp2_with fail
 have H0 := Lib.hid (digPart_zero x (up4 (mag x).size))
 have hn : (mag x).size ≤ 4 * up4 (mag x).size := by unfold up4; omega
 clear e4 hm
 go_loopw [13] (fun k wr => ∃ j : Nat, j ≤ (mag x).size ∧ k = .int .i64 j ∧ wr = (w.alloc (.cells (arr .u32 (digPart x j) (up4 (mag x).size)) 228)).drewN j) (fun k _ => (mag x).size - (intOf k).toNat)
 case atStart => exact ⟨0, Nat.zero_le _, rfl, by rw [H0.out]; rfl⟩
 case round =>
  obtain ⟨j, hj, rfl, rfl⟩ := hrel
  by_cases hlt : j < (mag x).size
  ·have hg := arr_get .u32 (digPart x j) (up4 (mag x).size) (j / 4) (by omega)
   obtain ⟨p, hp⟩ : ∃ p : Nat, p + 1 + j = (mag x).size := ⟨(mag x).size - 1 - j, by omega⟩
   have hb : p < (mag x).size := by omega
   have hget := get_mag x p hb
   rw [show (mag x).size - 1 - p = j by omega] at hget
   have e5 : ((mag x).size : Int) - 1 - (j : Int) = (p : Int) := by omega
   have H1 := Lib.hid hget
   have H2 := Lib.hid hp
   clear hget hp
   go_wp2_with fail
   (refine wp_region_exact_t 15 (by kernel_rfl) (by kernel_rfl) ?_; simp only [List.take_succ_cons, List.take_zero, List.drop_succ_cons, List.drop_zero]; repeat go_big_quiet_step (fail)); (refine wpQuiet_nil ?_; rintro _ rfl)
   go_wp2_with fail
   refine ⟨⟨j + 1, by omega, by go_num, ?_⟩, by simp [intOf]; omega⟩
   rw [H1.out, digPart_succ x j _ (by omega)]
  ·have e : j = (mag x).size := by omega
   subst e
   have H3 := Lib.hid (digPart_all x (up4 (mag x).size))
   have H4 := Lib.hid (up4_nd x)
   go_wp2_with fail
   go_ret
   refine ⟨?_, (mag x).size, ?_⟩
   ·show Ending.returned (.slice _ _ _) = _
    rw [H4.out]
   ·rw [H3.out, H4.out]
def Row32 (w : World) (g n : Nat) (f : Nat → Nat) : Prop := ∀ i, i < n → w.cell? ⟨g, i, none⟩ = some (.int .u32 (f i : Int))
def lenOfS : Value → Nat | .slice _ n _ => n | _ => 0
theorem nd_top (x m : Nat) (h1 : nd 4294967296 x ≤ m + 1) (h : dg x m ≠ 0) : nd 4294967296 x = m + 1 := by
 apply Decidable.byContradiction
 intro h2
 have h3 := lt_pow_nd 4294967296 (by omega) x
 exact h (dg_big x _ m h3 (by omega))
theorem nd_low (x m : Nat) (h1 : nd 4294967296 x ≤ m + 1) (h : dg x m = 0) : nd 4294967296 x ≤ m := by
 apply nd_le 4294967296 (by omega)
 apply nd_le_of_dg x m _ h
 have h3 := lt_pow_nd 4294967296 (by omega) x
 exact Nat.lt_of_lt_of_le h3 (Nat.pow_le_pow_right (by omega) h1)
set_option maxHeartbeats 400000 in
theorem trim_c (x n c g : Nat) (w : World) (hx : x < 4294967296 ^ n) (hn : n ≤ 8589934592) (hc : n ≤ c) (hr : Row32 w g n (dg x)) : Calls Tryz.prog 217 #[.slice (some ⟨g, 0, none⟩) n c] w fun e w' => e = .returned (.slice (some ⟨g, 0, none⟩) (nd 4294967296 x) c) ∧ w = w' := by
 have hle := nd_le 4294967296 (by omega) x n hx
 go_enter Tryz.func217, Tryz.ntmps217
 go_wp2_with fail
 go_loop [0] (fun v => ∃ j : Nat, nd 4294967296 x ≤ j ∧ j ≤ n ∧ v = .slice (some ⟨g, 0, none⟩) j c) (fun v => lenOfS v)
 case atStart => exact ⟨n, hle, Nat.le_refl _, rfl⟩
 case round =>
  obtain ⟨j, h1, h2, rfl⟩ := hrel
  cases j with
  | zero =>
   have e : nd 4294967296 x = 0 := by omega
   have H := Lib.hid e
   clear e
   go_wp2_with fail
   go_ret
   exact ⟨by rw [H.out]; rfl, rfl⟩
  | succ m =>
   have hcell := hr m (by omega)
   have e1 : ((m + 1 : Nat) : Int) = (m : Int) + 1 := by omega
   by_cases h0 : dg x m = 0
   ·have hb : ((dg x m : Int) == 0) = true := by rw [h0]; rfl
    have H := Lib.hid (nd_low x m h1 h0)
    clear h0
    go_wp2_with fail
    exact ⟨⟨m, H.out, by omega, rfl⟩, by simp [lenOfS]⟩
   ·have hb : ((dg x m : Int) == 0) = false := by rw [beq_eq_false_iff_ne]; omega
    have H := Lib.hid (nd_top x m h1 h0)
    clear h0
    go_wp2_with fail
    go_ret
    exact ⟨by rw [H.out]; rfl, rfl⟩
theorem make8 (n : Nat) (w : World) (h : n ≤ 8589934592 * 4) : (Instr.makeSlice 184 (.int .i64 (n : Int)) (.int .i64 (n : Int))).run Tryz.prog w = .ok (.slice (some ⟨w.heap.size, 0, none⟩) n n) (w.alloc (.cells (arr .u8 (fun _ => 0) n) 5)) := by
 have hinfo : (Tryz.prog.info? 5).map (fun i => (i.zero, i.size, i.bytes)) = some (some (.int .u8 0), 1, 1) := by kernel_rfl
 obtain ⟨i0, hi, hz0, hz1, hz2⟩ := info_parts hinfo
 have hr := run_make (P := Tryz.prog) w 184 5 i0 (.int .u8 0) (by kernel_rfl) hi hz0 .i64 .i64 n n (by omega) (Int.le_refl _) (by rw [hz2]; omega) (by omega)
 rw [hr, hz1]
 simp only [Int.toNat_natCast, Nat.mul_one, Value.cells]
 rw [madeCells_arr]
def byteFn (x N c : Nat) : Nat → Nat := fun p => if p < 4 * N ∧ 4 * N - 1 - p < c then x / 256 ^ (4 * N - 1 - p) % 256 else 0
theorem byteFn_zero (x N n : Nat) : arr .u8 (byteFn x N 0) n = arr .u8 (fun _ => 0) n := by
 apply arr_congr; intro i _; unfold byteFn; rw [if_neg (by omega)]
theorem byteFn_succ (x N c p : Nat) (hp : p + 1 + c = 4 * N) : upd (byteFn x N c) p (x / 256 ^ c % 256) = byteFn x N (c + 1) := by
 funext k
 unfold upd byteFn
 by_cases h : k = p
 ·subst h
  rw [if_pos rfl, show 4 * N - 1 - k = c by omega, if_pos (by omega)]
 ·rw [if_neg h]
  by_cases h2 : k < 4 * N ∧ 4 * N - 1 - k < c
  ·rw [if_pos h2, if_pos (by omega)]
  ·rw [if_neg h2, if_neg (by omega)]
theorem byteFn_lt (x N c p : Nat) : byteFn x N c p < 256 := by
 unfold byteFn; split
 ·exact Nat.mod_lt _ (by omega)
 ·omega
theorem dg_byte (x i k : Nat) (h : k < 4) : dg x i / 256 ^ k % 256 = x / 256 ^ (4 * i + k) % 256 := by
 unfold dg
 rw [pow256, ← Nat.div_div_eq_div_mul]
 generalize x / 4294967296 ^ i = y
 have e : (4294967296 : Nat) = 256 ^ k * 256 ^ (4 - k) := by
  rw [← Nat.pow_add, show k + (4 - k) = 4 by omega]
 rw [e, Nat.mod_mul_right_div_self]
 have e2 : (256 : Nat) ^ (4 - k) = 256 * 256 ^ (3 - k) := by
  rw [show 4 - k = 3 - k + 1 by omega, Nat.pow_succ, Nat.mul_comm]
 rw [e2, Nat.mod_mul_right_mod]
theorem byte_int (x i k : Nat) (h : k < 4) : (dg x i : Int) / 2 ^ (8 * k) % 256 = ((x / 256 ^ (4 * i + k) % 256 : Nat) : Int) := by
 rw [← dg_byte x i k h, show (2 : Int) ^ (8 * k) = ((256 ^ k : Nat) : Int) by rw [Int.pow_mul, Int.natCast_pow]; rfl]
 rfl
def strFn (f : Nat → Nat) (n : Nat) : ByteArray := ⟨((List.range n).map fun i => UInt8.ofNat (f i)).toArray⟩
theorem conv8 (f : Nat → Nat) (n c : Nat) (w : World) (hf : ∀ i, f i < 256) :
    (convert 184 9 (.slice (some ⟨w.heap.size, 0, none⟩) n c)).run Tryz.prog (w.alloc (.cells (arr .u8 f n) 5)) = .ok (.string (strFn f n)) (w.alloc (.cells (arr .u8 f n) 5)) := by
 have hlen : ((List.range n).map fun i => (f i : Int)).length = n := by simp
 have := run_convert_bytes_arg (P := Tryz.prog) (w.alloc (.cells (arr .u8 f n) 5)) 184 5 Tryz.underlying184 Tryz.underlying5 w.heap.size 0 n c ((List.range n).map fun i => (f i : Int)) hlen (fun i hi => by
  rw [Nat.zero_add, World.cell?_alloc_at _ _ _ _ rfl, arr_get .u8 f n i hi]
  simp [hi]) 9 Tryz.underlying9
 rw [this]
 have e : strOfNums ((List.range n).map fun i => (f i : Int)) = strFn f n := by
  unfold strOfNums strFn
  rw [List.map_map]; rfl
 rw [e]
theorem val_range (x n : Nat) : val 256 ((List.range n).map fun k => x / 256 ^ k % 256) = x % 256 ^ n := by
 induction n with
 | zero => simp [val, Nat.mod_one]
 | succ n ih =>
  rw [List.range_succ, List.map_append, List.map_cons, List.map_nil, val_snoc, ih, List.length_map, List.length_range, mod256_succ]
theorem dropWhile_zero (l : List UInt8) : val 256 ((l.dropWhile (· == 0)).map UInt8.toNat).reverse = val 256 (l.map UInt8.toNat).reverse := by
 induction l with
 | nil => rfl
 | cons b l ih =>
  by_cases h : b = 0
  ·subst h
   rw [List.dropWhile_cons_of_pos (by rfl), ih, List.map_cons, val_reverse_cons]
   simp
  ·rw [List.dropWhile_cons_of_neg (by simpa using h)]
theorem strip_mag (s : ByteArray) : (⟨(Lib.trimLeftB s.data.toList 0).toArray⟩ : ByteArray) = mag (num s) := by
 have e : Lib.trimLeftB s.data.toList 0 = s.data.toList.dropWhile (· == 0) := rfl
 rw [e]
 have h1 : num ⟨(s.data.toList.dropWhile (· == 0)).toArray⟩ = num s := dropWhile_zero s.data.toList
 have h2 : Vi.Can ⟨(s.data.toList.dropWhile (· == 0)).toArray⟩ := by
  unfold Vi.Can
  intro h
  have h3 := List.head?_dropWhile_not (fun b : UInt8 => b == 0) s.data.toList
  rw [show (s.data.toList.dropWhile (· == 0)).head? = some 0 from h] at h3
  simp at h3
 rw [← h1, mag_num _ h2]
theorem bytes_mag (x N : Nat) (h : x < 4294967296 ^ N) : (⟨(Lib.trimLeftB (strFn (byteFn x N (4 * N)) (4 * N)).data.toList 0).toArray⟩ : ByteArray) = mag x := by
 rw [strip_mag]
 congr 1
 have e : low (strFn (byteFn x N (4 * N)) (4 * N)) = (List.range (4 * N)).map fun k => x / 256 ^ k % 256 := by
  unfold low strFn
  apply List.ext_getElem?
  intro i
  by_cases hi : i < 4 * N
  ·rw [List.getElem?_reverse (by simpa using hi)]
   simp only [List.map_map, List.getElem?_map, List.length_map, List.length_range]
   rw [List.getElem?_range (by omega), List.getElem?_range hi]
   simp only [Option.map_some, Function.comp_apply]
   have hb := byteFn_lt x N (4 * N) (4 * N - 1 - i)
   rw [UInt8.toNat_ofNat', Nat.mod_eq_of_lt hb]
   unfold byteFn
   rw [if_pos (by omega), show 4 * N - 1 - (4 * N - 1 - i) = i by omega]
  ·rw [List.getElem?_eq_none (by simp; omega), List.getElem?_eq_none (by simp; omega)]
 unfold num
 rw [e, val_range]
 apply Nat.mod_eq_of_lt
 rw [Nat.pow_mul]; exact h
set_option maxRecDepth 100000 in
set_option maxHeartbeats 400000 in
theorem bytes_c (x n c g : Nat) (w : World) (hx : x < 4294967296 ^ n) (hn : n ≤ 8589934592) (hc : n ≤ c) (hr : Row32 w g n (dg x)) (hg : g < w.heap.size) : Calls Tryz.prog 195 #[.slice (some ⟨g, 0, none⟩) n c] w fun e w' => e = .returned (.string (mag x)) ∧ Below w.heap.size w w' := by
 have ht := trim_c x n c g w hx hn hc hr
 have hle := nd_le 4294967296 (by omega) x n hx
 obtain ⟨N, hN⟩ : ∃ N, nd 4294967296 x = N := ⟨_, rfl⟩
 rw [hN] at ht hle
 have HN := Lib.hid hN
 have HT := Lib.hid ht
 clear hN ht
 cases N with
 | zero =>
  go_enter Tryz.func195, Tryz.ntmps195
  go_wp2_with fail
  (refine (HT.out).mono ?_; rintro e w' ⟨rfl, rfl⟩)
  go_wp2_with fail
  go_ret
  refine ⟨?_, by (exact belA)⟩
  have e0 : x = 0 := by
   have := lt_pow_nd 4294967296 (by omega) x
   rw [HN.out, Nat.pow_zero] at this; omega
  rw [e0]; rfl
 | succ M =>
  obtain ⟨N, hM⟩ : ∃ N, N = M + 1 := ⟨_, rfl⟩
  rw [← hM] at HT HN hle
  have hN1 : 0 < N := by omega
  clear hM
  have hb : ((N : Int) == 0) = false := by rw [beq_eq_false_iff_ne]; omega
  have hm := make8 (4 * N) w (by omega)
  have e4 : (4 * (N : Int)) = ((4 * N : Nat) : Int) := by omega
  rw [← e4] at hm
  clear e4
  have H0 := Lib.hid (byteFn_zero x N (4 * N))
  go_enter Tryz.func195, Tryz.ntmps195
  go_wp2_with fail
  (refine (HT.out).mono ?_; rintro e w' ⟨rfl, rfl⟩)
  go_wp2_with fail
  go_loopw [18] (fun v wr => ∃ i : Nat, i ≤ N ∧ v = .int .i64 i ∧ wr = w.alloc (.cells (arr .u8 (byteFn x N (4 * i)) (4 * N)) 5)) (fun v _ => N - (intOf v).toNat)
  case atStart => exact ⟨0, Nat.zero_le _, rfl, by rw [Nat.mul_zero, H0.out]⟩
  case round =>
   obtain ⟨i, hi, rfl, rfl⟩ := hrel
   by_cases hlt : i < N
   ·have hcell := hr i (by omega)
    go_wp2_with fail
    go_loopw [23] (fun v wr => ∃ k : Nat, k ≤ 4 ∧ v = .int .i64 k ∧ wr = w.alloc (.cells (arr .u8 (byteFn x N (4 * i + k)) (4 * N)) 5)) (fun v _ => 4 - (intOf v).toNat)
    case atStart => exact ⟨0, by omega, rfl, rfl⟩
    case round =>
     obtain ⟨k, hk, rfl, rfl⟩ := hrel
     by_cases hlt2 : k < 4
     ·obtain ⟨p, hp⟩ : ∃ p : Nat, p + 1 + (4 * i + k) = 4 * N := ⟨4 * N - 1 - (4 * i + k), by omega⟩
      have e5 : 4 * (N : Int) - 1 - 4 * (i : Int) - (k : Int) = (p : Int) := by omega
      have hpl : p < 4 * N := by omega
      have hget := arr_get .u8 (byteFn x N (4 * i + k)) (4 * N) p hpl
      have H1 := Lib.hid (byteFn_succ x N (4 * i + k) p hp)
      have H2 := Lib.hid (dg_byte x i k hlt2)
      clear hp
      go_wp2_with fail
      refine ⟨⟨k + 1, by omega, by go_num, ?_⟩, by simp [intOf]; omega⟩
      rw [show 4 * i + (k + 1) = 4 * i + k + 1 by omega, ← H1.out, byte_int x i k hlt2, arr_set]
     ·have e : k = 4 := by omega
      subst e
      go_wp2_with fail
      refine ⟨⟨i + 1, by omega, by go_num, ?_⟩, by simp [intOf]; omega⟩
      rw [show 4 * (i + 1) = 4 * i + 4 by omega]
   ·have e : i = N := by omega
    subst e
    have hcv := conv8 (byteFn x i (4 * i)) (4 * i) (4 * i) w (byteFn_lt x i (4 * i))
    have H5 := Lib.hid (bytes_mag x i (by rw [← HN.out]; exact lt_pow_nd _ (by omega) x))
    go_wp2_with fail
    refine (Tryz.strings_TrimLeft_one _ 0 (by decide) _).mono ?_
    rintro e w' ⟨rfl, rfl⟩
    go_wp2_with fail
    go_ret
    refine ⟨?_, by (exact belA)⟩
    rw [← H5.out]; rfl
end Go.Proofs.YtlblfgbpogljoaaGreatDoor

end
section
/- The package integer: add returns the sum of two magnitudes. -/
namespace Go.Proofs.YtlblfgbpogljoaaGreatDoor
open Go Go.RowKit
open Vi
theorem add64_run (x y : Nat) (w : World) : (callFunc 205 #[.int .u64 (x : Int), .int .u64 (y : Int), .int .u64 0]).run Tryz.prog w =
      .ok (.value (.tuple #[.int .u64 (((x + y) % 18446744073709551616 : Nat) : Int), .int .u64 (((x + y) / 18446744073709551616 : Nat) : Int)])) w := by
 rw [run_callFunc_extern Tryz.func205 (by kernel_rfl) (by kernel_rfl) (by kernel_rfl) (e := add64Entry) (by kernel_rfl), run_add64 x y 0 (by omega) (by omega) (by omega) (by omega)]
 simp only [Result.andThen]
 congr 5 <;> omega
set_option maxHeartbeats 400000 in
theorem add_small (x y : Nat) (w : World) (h8 : fits8 x = true) (h9 : fits8 y = true) (h : x + y < 2 ^ 64) : Calls Tryz.prog 182 #[.string (mag x), .string (mag y)] w fun e w' => e = .returned (.string (mag (x + y))) ∧ Below w.heap.size w w' := by
 have hw := words_c x y w (by unfold fits8 at h8; simp at h8; omega) (by unfold fits8 at h9; simp at h9; omega)
 rw [h8, h9, wv_of x h8, wv_of y h9] at hw
 have H := Lib.hid hw
 have ha := add64_run x y
 rw [show (x + y) % 18446744073709551616 = x + y by omega, show (x + y) / 18446744073709551616 = 0 by omega] at ha
 have e : ((x + y : Nat) : Int) = (x : Int) + (y : Int) := by omega
 clear hw h8 h9
 go_enter Tryz.func182, Tryz.ntmps182
 go_wp2_with fail
 (refine (H.out).mono ?_; rintro e w' ⟨rfl, rfl⟩)
 have hm := fun w => magnitude_c (x + y) w h
 rw [Int.natCast_add] at hm
 (go_wp2_with fail; refine (hm _).mono ?_; rintro e w' ⟨rfl, hb⟩; (first | (with_reducible (have hb2 := World.plus_of_below ((World.below_plus _ _).trans (hb.mono (World.size_plus _ _)))); obtain ⟨u, rfl⟩ := hb2) | (obtain ⟨u, rfl⟩ := World.plus_of_below hb)); clear hb)
 go_wp2_with fail
 go_ret
 exact ⟨rfl, by (exact belA)⟩
def cy (x y i : Nat) : Nat := (x % 4294967296 ^ i + y % 4294967296 ^ i) / 4294967296 ^ i
theorem cy_zero (x y : Nat) : cy x y 0 = 0 := by unfold cy; simp [Nat.mod_one]
theorem cy_le (x y i : Nat) : cy x y i ≤ 1 := by
 unfold cy
 have h := Nat.pow_pos (n := i) (show 0 < 4294967296 by omega)
 have h1 := Nat.mod_lt x h
 have h2 := Nat.mod_lt y h
 have : (x % 4294967296 ^ i + y % 4294967296 ^ i) / 4294967296 ^ i < 2 := by
  rw [Nat.div_lt_iff_lt_mul h]; omega
 omega
theorem sum_eq (x y i : Nat) : cy x y i + dg x i + dg y i = dg (x + y) i + 4294967296 * cy x y (i + 1) := by
 have hp := Nat.pow_pos (n := i) (show 0 < 4294967296 by omega)
 have hp1 := Nat.pow_pos (n := i + 1) (show 0 < 4294967296 by omega)
 have e1 : (x % 4294967296 ^ (i + 1) + y % 4294967296 ^ (i + 1)) / 4294967296 ^ i = cy x y i + dg x i + dg y i := by
  rw [mod_succ, mod_succ]
  unfold cy
  rw [show x % 4294967296 ^ i + 4294967296 ^ i * dg x i + (y % 4294967296 ^ i + 4294967296 ^ i * dg y i) = (x % 4294967296 ^ i + y % 4294967296 ^ i) + 4294967296 ^ i * (dg x i + dg y i) by rw [Nat.mul_add]; omega]
  rw [Nat.add_mul_div_left _ _ hp]; omega
 have e2 : (x % 4294967296 ^ (i + 1) + y % 4294967296 ^ (i + 1)) / 4294967296 ^ i % 4294967296 = dg (x + y) i := by
  unfold dg
  rw [← Nat.mod_mul_right_div_self, ← Nat.mod_mul_right_div_self, ← Nat.pow_succ, ← Nat.add_mod]
 have e3 : (x % 4294967296 ^ (i + 1) + y % 4294967296 ^ (i + 1)) / 4294967296 ^ i / 4294967296 = cy x y (i + 1) := by
  unfold cy
  rw [Nat.div_div_eq_div_mul, ← Nat.pow_succ]
 rw [← e1, ← e2, ← e3, Nat.mod_add_div]
theorem sum_dg (x y i : Nat) : (cy x y i + dg x i + dg y i) % 4294967296 = dg (x + y) i := by
 rw [sum_eq, Nat.add_mul_mod_self_left, Nat.mod_eq_of_lt (dg_lt _ _)]
theorem sum_cy (x y i : Nat) : (cy x y i + dg x i + dg y i) / 4294967296 = cy x y (i + 1) := by
 rw [sum_eq, Nat.add_mul_div_left _ _ (by omega), Nat.div_eq_of_lt (dg_lt _ _), Nat.zero_add]
def sumFn (x y i : Nat) : Nat → Nat := fun k => if k < i then dg (x + y) k else dg x k
theorem sumFn_zero (x y n : Nat) : arr .u32 (sumFn x y 0) n = arr .u32 (dg x) n := by
 apply arr_congr; intro k _; unfold sumFn; rw [if_neg (by omega)]
theorem sumFn_at (x y i : Nat) : sumFn x y i i = dg x i := by unfold sumFn; rw [if_neg (by omega)]
theorem sumFn_succ (x y i : Nat) : upd (sumFn x y i) i (dg (x + y) i) = sumFn x y (i + 1) := by
 funext k
 unfold upd sumFn
 by_cases h : k = i
 ·subst h; rw [if_pos rfl, if_pos (by omega)]
 ·rw [if_neg h]
  by_cases h2 : k < i
  ·rw [if_pos h2, if_pos (by omega)]
  ·rw [if_neg h2, if_neg (by omega)]
theorem sumFn_all (x y n : Nat) : arr .u32 (sumFn x y n) n = arr .u32 (dg (x + y)) n := by
 apply arr_congr; intro k hk; unfold sumFn; rw [if_pos hk]
theorem make32s (n : Nat) (w : World) (h : n ≤ 8589934591) : (Instr.makeSlice 226 (.int .i64 ((n : Int) + 1)) (.int .i64 ((n : Int) + 1))).run Tryz.prog w = .ok (.slice (some ⟨w.heap.size, 0, none⟩) (n + 1) (n + 1)) (w.alloc (.cells (arr .u32 (fun _ => 0) (n + 1)) 228)) :=
 make32 (n + 1) w (by omega)
theorem sum_bound (x y n : Nat) (hx : x < 4294967296 ^ n) (hy : y < 4294967296 ^ n) : x + y < 4294967296 ^ (n + 1) := by
 rw [Nat.pow_succ]; omega
theorem copy_fresh (W : World) (g gx n m c c' k : Nat) (ty : TypeId) (f : Nat → Nat) (hg : g = W.heap.size) (hnm : n ≤ m) (hgx : gx < W.heap.size) (hx : Row32 W gx n f) (hz : ∀ i, n ≤ i → f i = 0) :
    (Builtin.copy_ #[226, 226] ty #[.slice (some ⟨g, 0, none⟩) m c, .slice (some ⟨gx, 0, none⟩) n c']).run Tryz.prog ((W.alloc (.cells (arr .u32 (fun _ => 0) m) 228)).drewN k) = .ok (.int .i64 (n : Int)) ((W.alloc (.cells (arr .u32 f m) 228)).drewN k) := by
 subst hg
 have hinfo : (Tryz.prog.info? 228).map (·.size) = some 1 := by kernel_rfl
 have hnew : ((W.alloc (.cells (arr .u32 (fun _ => 0) m) 228)).drewN k).heap[W.heap.size]? = some (.cells (arr .u32 (fun _ => 0) m) 228 (0, 0)) := heap_alloc_new W _
 have hl : (arr .u32 f n).toList.length = n := by simp [arr_size]
 have := run_copy_row (P := Tryz.prog) ((W.alloc (.cells (arr .u32 (fun _ => 0) m) 228)).drewN k) 226 226 ty 228 W.heap.size 0 m c ⟨gx, 0, none⟩ n c' (arr .u32 (fun _ => 0) m) 228 (arr .u32 f n).toList (by kernel_rfl) hinfo hnew
  (by rw [hl]; exact (Nat.min_eq_left hnm).symm) (fun j v hj => by
   have hjn : j < n := by
    rcases Nat.lt_or_ge j n with h | h
    ·exact h
    ·rw [Array.getElem?_toList, arr_none _ _ _ _ h] at hj; cases hj
   rw [Array.getElem?_toList, arr_get _ _ _ _ hjn] at hj
   have e : (⟨gx, 0, none⟩ : Addr).add j = ⟨gx, j, none⟩ := by unfold Addr.add; split <;> simp_all
   rw [e, World.cell?_drewN, World.cell?_alloc_past _ _ _ hgx, hx j hjn]; exact hj) (by rw [hl, arr_size]; omega) (arr_oneCell _ _ _)
 rw [this, hl]
 have e2 : ((arr IntKind.u32 (fun _ => 0) m).toList.take 0 ++ (arr IntKind.u32 f n).toList ++ (arr IntKind.u32 (fun _ => 0) m).toList.drop (0 + n)).toArray = arr .u32 f m := by
  apply Array.toList_inj.1
  rw [arr_toList, arr_toList, arr_toList]
  apply List.ext_getElem?
  intro i
  simp only [List.take_zero, List.nil_append, Nat.zero_add]
  by_cases hi : i < n
  ·rw [List.getElem?_append_left (by simpa using hi)]; simp [hi, show i < m by omega]
  ·rw [List.getElem?_append_right (by simpa using hi)]
   simp only [List.length_map, List.length_range, List.getElem?_drop, List.getElem?_map]
   rw [show n + (i - n) = i by omega]
   by_cases him : i < m
   ·simp [him, hz i (by omega)]
   ·simp [him]
 rw [e2, World.row_setRow _ _ _ _ _ hnew, World.row_drewN, World.row_alloc]; rfl
set_option maxRecDepth 100000 in
set_option maxHeartbeats 800000 in
theorem add_big (x y nx ny : Nat) (w : World) (hx : (mag x).size ≤ 4294967296) (hy : (mag y).size ≤ 4294967296) (hnx : nd 4294967296 x = nx) (hny : nd 4294967296 y = ny) (hbig : (fits8 x && fits8 y) = false) (hle : ny ≤ nx) :
    Calls Tryz.prog 182 #[.string (mag x), .string (mag y)] w fun e w' => e = .returned (.string (mag (x + y))) ∧ Below w.heap.size w w' := by
 have hw := fun w => words_c x y w hx hy
 rw [hbig] at hw
 clear hbig
 have H := Lib.hid hw
 have hdx := fun w => digits_c x w hx
 have hdy := fun w => digits_c y w hy
 rw [hnx] at hdx
 rw [hny] at hdy
 have HX := Lib.hid hdx
 have HY := Lib.hid hdy
 have hxl : x < 4294967296 ^ nx := by rw [← hnx]; exact lt_pow_nd _ (by omega) x
 have hyl : y < 4294967296 ^ ny := by rw [← hny]; exact lt_pow_nd _ (by omega) y
 have hnx2 : nx ≤ 1073741825 := by rw [← hnx, ← up4_nd]; unfold up4; omega
 have hny2 : ny ≤ 1073741825 := by rw [← hny, ← up4_nd]; unfold up4; omega
 have HXL := Lib.hid hxl
 have HYL := Lib.hid hyl
 have HT := Lib.hid (sum_bound x y nx (by exact hxl) (by exact Nat.lt_of_lt_of_le hyl (Nat.pow_le_pow_right (by omega) (by omega))))
 have HMK := Lib.hid (make32s nx · (by omega))
 clear hw hdx hdy hnx hny hxl hyl
 go_enter Tryz.func182, Tryz.ntmps182
 go_wp2_with fail
 (refine (H.out _).mono ?_; rintro e w' ⟨rfl, rfl⟩)
 go_wp2_with fail
 refine (HX.out _).mono ?_
 rintro e w' ⟨rfl, k1, rfl⟩
 go_wp2_with fail
 refine (HY.out _).mono ?_
 rintro e w' ⟨rfl, k2, rfl⟩
 go_wp2_with fail
 have hmk := HMK.out
 have hcp := fun ty k => copy_fresh ((w.alloc (.cells (arr .u32 (dg x) nx) 228)).alloc (.cells (arr .u32 (dg y) ny) 228)) (w.heap.size + 1 + 1) (w.heap.size) nx (nx + 1) (nx + 1) nx k ty (dg x) (by simp) (by omega) (by simp; try omega) (fun i hi => by simp [go_sem, arr_get _ _ _ _ hi]) (fun i hi => dg_big x nx i HXL.out hi)
 simp only [hmk]
 go_wp2_with fail
 clear hcp hmk
 have H0 := Lib.hid (sumFn_zero x y (nx + 1))
 have HC0 := Lib.hid (cy_zero x y)
 go_loopw [13, 53] (fun c v wr => ∃ i : Nat, i ≤ nx + 1 ∧ v = .int .i64 i ∧ c = .int .u64 (cy x y i : Int) ∧ wr = (((w.alloc (.cells (arr .u32 (dg x) nx) 228)).alloc (.cells (arr .u32 (dg y) ny) 228)).alloc (.cells (arr .u32 (sumFn x y i) (nx + 1)) 228)).drewN (k1 + k2)) (fun _ v _ => nx + 1 - (intOf v).toNat)
 case atStart => exact ⟨0, Nat.zero_le _, rfl, by rw [HC0.out]; rfl, by rw [H0.out]⟩
 case round =>
  obtain ⟨i, hi, rfl, rfl, rfl⟩ := hrel
  have hcy := cy_le x y i
  have hdx1 := dg_lt x i
  have hdy1 := dg_lt y i
  by_cases hlt : i < nx + 1
  ·have hg := arr_get .u32 (sumFn x y i) (nx + 1) i hlt
   rw [sumFn_at] at hg
   have HS3 := Lib.hid (sumFn_succ x y i)
   by_cases hly : i < ny
   ·have hgy := arr_get .u32 (dg y) ny i hly
    have HS1 := Lib.hid (show ((cy x y i : Int) + dg x i + dg y i) % 4294967296 = (dg (x + y) i : Int) by have := sum_dg x y i; omega)
    have HS2 := Lib.hid (show ((cy x y i : Int) + dg x i + dg y i) / 4294967296 = (cy x y (i + 1) : Int) by have := sum_cy x y i; omega)
    go_wp2_with fail
    refine ⟨⟨i + 1, by omega, by go_num, by rw [HS2.out], ?_⟩, by simp [intOf]; omega⟩
    rw [HS1.out, arr_set, HS3.out]
   ·have hy0 := dg_big y ny i HYL.out (by omega)
    have HS1 := Lib.hid (show ((cy x y i : Int) + dg x i) % 4294967296 = (dg (x + y) i : Int) by have := sum_dg x y i; omega)
    have HS2 := Lib.hid (show ((cy x y i : Int) + dg x i) / 4294967296 = (cy x y (i + 1) : Int) by have := sum_cy x y i; omega)
    clear hy0
    go_wp2_with fail
    refine ⟨⟨i + 1, by omega, by go_num, by rw [HS2.out], ?_⟩, by simp [intOf]; omega⟩
    rw [HS1.out, arr_set, HS3.out]
  ·have e : i = nx + 1 := by omega
   subst e
   have HA := Lib.hid (sumFn_all x y (nx + 1))
   go_wp2_with fail
   rw [HA.out]
   refine (bytes_c (x + y) (nx + 1) (nx + 1) (w.heap.size + 1 + 1) _ HT.out (by omega) (Nat.le_refl _) (fun i hi => by simp [go_sem, arr_get _ _ _ _ hi]) (by simp [go_sem])).mono ?_
   rintro e w' ⟨rfl, hb⟩
   obtain ⟨u, rfl⟩ := World.plus_of_below hb
   clear hb
   go_wp2_with fail
   go_ret
   exact ⟨rfl, by (exact belA)⟩
set_option maxRecDepth 100000 in
set_option maxHeartbeats 800000 in
theorem add_big_swap (x y nx ny : Nat) (w : World) (hx : (mag x).size ≤ 4294967296) (hy : (mag y).size ≤ 4294967296) (hnx : nd 4294967296 x = nx) (hny : nd 4294967296 y = ny) (hbig : (fits8 x && fits8 y) = false) (hle : nx < ny) :
    Calls Tryz.prog 182 #[.string (mag x), .string (mag y)] w fun e w' => e = .returned (.string (mag (x + y))) ∧ Below w.heap.size w w' := by
 have hw := fun w => words_c x y w hx hy
 rw [hbig] at hw
 clear hbig
 have H := Lib.hid hw
 have hdx := fun w => digits_c x w hx
 have hdy := fun w => digits_c y w hy
 rw [hnx] at hdx
 rw [hny] at hdy
 have HX := Lib.hid hdx
 have HY := Lib.hid hdy
 have hxl : x < 4294967296 ^ nx := by rw [← hnx]; exact lt_pow_nd _ (by omega) x
 have hyl : y < 4294967296 ^ ny := by rw [← hny]; exact lt_pow_nd _ (by omega) y
 have hnx2 : nx ≤ 1073741825 := by rw [← hnx, ← up4_nd]; unfold up4; omega
 have hny2 : ny ≤ 1073741825 := by rw [← hny, ← up4_nd]; unfold up4; omega
 have HXL := Lib.hid hxl
 have HYL := Lib.hid hyl
 have HT := Lib.hid (sum_bound y x ny (by exact hyl) (by exact Nat.lt_of_lt_of_le hxl (Nat.pow_le_pow_right (by omega) (by omega))))
 have HMK := Lib.hid (make32s ny · (by omega))
 clear hw hdx hdy hnx hny hxl hyl
 go_enter Tryz.func182, Tryz.ntmps182
 go_wp2_with fail
 (refine (H.out _).mono ?_; rintro e w' ⟨rfl, rfl⟩)
 go_wp2_with fail
 refine (HX.out _).mono ?_
 rintro e w' ⟨rfl, k1, rfl⟩
 go_wp2_with fail
 refine (HY.out _).mono ?_
 rintro e w' ⟨rfl, k2, rfl⟩
 go_wp2_with fail
 have hmk := HMK.out
 have hcp := fun ty k => copy_fresh ((w.alloc (.cells (arr .u32 (dg x) nx) 228)).alloc (.cells (arr .u32 (dg y) ny) 228)) (w.heap.size + 1 + 1) (w.heap.size + 1) ny (ny + 1) (ny + 1) ny k ty (dg y) (by simp) (by omega) (by simp; try omega) (fun i hi => by simp [go_sem, arr_get _ _ _ _ hi]) (fun i hi => dg_big y ny i HYL.out hi)
 simp only [hmk]
 go_wp2_with fail
 clear hcp hmk
 have H0 := Lib.hid (sumFn_zero y x (ny + 1))
 have HC0 := Lib.hid (cy_zero y x)
 go_loopw [13, 53] (fun c v wr => ∃ i : Nat, i ≤ ny + 1 ∧ v = .int .i64 i ∧ c = .int .u64 (cy y x i : Int) ∧ wr = (((w.alloc (.cells (arr .u32 (dg x) nx) 228)).alloc (.cells (arr .u32 (dg y) ny) 228)).alloc (.cells (arr .u32 (sumFn y x i) (ny + 1)) 228)).drewN (k1 + k2)) (fun _ v _ => ny + 1 - (intOf v).toNat)
 case atStart => exact ⟨0, Nat.zero_le _, rfl, by rw [HC0.out]; rfl, by rw [H0.out]⟩
 case round =>
  obtain ⟨i, hi, rfl, rfl, rfl⟩ := hrel
  have hcy := cy_le y x i
  have hdx1 := dg_lt y i
  have hdy1 := dg_lt x i
  by_cases hlt : i < ny + 1
  ·have hg := arr_get .u32 (sumFn y x i) (ny + 1) i hlt
   rw [sumFn_at] at hg
   have HS3 := Lib.hid (sumFn_succ y x i)
   by_cases hly : i < nx
   ·have hgy := arr_get .u32 (dg x) nx i hly
    have HS1 := Lib.hid (show ((cy y x i : Int) + dg y i + dg x i) % 4294967296 = (dg (y + x) i : Int) by have := sum_dg y x i; omega)
    have HS2 := Lib.hid (show ((cy y x i : Int) + dg y i + dg x i) / 4294967296 = (cy y x (i + 1) : Int) by have := sum_cy y x i; omega)
    go_wp2_with fail
    refine ⟨⟨i + 1, by omega, by go_num, by rw [HS2.out], ?_⟩, by simp [intOf]; omega⟩
    rw [HS1.out, arr_set, HS3.out]
   ·have hy0 := dg_big x nx i HXL.out (by omega)
    have HS1 := Lib.hid (show ((cy y x i : Int) + dg y i) % 4294967296 = (dg (y + x) i : Int) by have := sum_dg y x i; omega)
    have HS2 := Lib.hid (show ((cy y x i : Int) + dg y i) / 4294967296 = (cy y x (i + 1) : Int) by have := sum_cy y x i; omega)
    clear hy0
    go_wp2_with fail
    refine ⟨⟨i + 1, by omega, by go_num, by rw [HS2.out], ?_⟩, by simp [intOf]; omega⟩
    rw [HS1.out, arr_set, HS3.out]
  ·have e : i = ny + 1 := by omega
   subst e
   have HA := Lib.hid (sumFn_all y x (ny + 1))
   go_wp2_with fail
   rw [HA.out]
   refine (bytes_c (y + x) (ny + 1) (ny + 1) (w.heap.size + 1 + 1) _ HT.out (by omega) (Nat.le_refl _) (fun i hi => by simp [go_sem, arr_get _ _ _ _ hi]) (by simp [go_sem])).mono ?_
   rintro e w' ⟨rfl, hb⟩
   obtain ⟨u, rfl⟩ := World.plus_of_below hb
   clear hb
   go_wp2_with fail
   go_ret
   exact ⟨by rw [Nat.add_comm x y]; rfl, by (exact belA)⟩
set_option maxRecDepth 100000 in
set_option maxHeartbeats 800000 in
theorem add_over (x y nx ny : Nat) (w : World) (hx : (mag x).size ≤ 4294967296) (hy : (mag y).size ≤ 4294967296) (hnx : nd 4294967296 x = nx) (hny : nd 4294967296 y = ny) (h8 : fits8 x = true) (h9 : fits8 y = true) (hov : ¬ x + y < 2 ^ 64) (hle : ny ≤ nx) :
    Calls Tryz.prog 182 #[.string (mag x), .string (mag y)] w fun e w' => e = .returned (.string (mag (x + y))) ∧ Below w.heap.size w w' := by
 have hw := fun w => words_c x y w hx hy
 have hx64 := wv_lt x
 have hy64 := wv_lt y
 rw [h8, h9, wv_of x h8, wv_of y h9] at hw
 rw [wv_of x h8] at hx64
 rw [wv_of y h9] at hy64
 have ha := add64_run x y
 obtain ⟨z, hz⟩ : ∃ z, z = (x + y) % 18446744073709551616 := ⟨_, rfl⟩
 rw [show (x + y) / 18446744073709551616 = 1 by omega, ← hz] at ha
 clear hov hx64 hy64 hz h8 h9
 have H := Lib.hid hw
 have hdx := fun w => digits_c x w hx
 have hdy := fun w => digits_c y w hy
 rw [hnx] at hdx
 rw [hny] at hdy
 have HX := Lib.hid hdx
 have HY := Lib.hid hdy
 have hxl : x < 4294967296 ^ nx := by rw [← hnx]; exact lt_pow_nd _ (by omega) x
 have hyl : y < 4294967296 ^ ny := by rw [← hny]; exact lt_pow_nd _ (by omega) y
 have hnx2 : nx ≤ 1073741825 := by rw [← hnx, ← up4_nd]; unfold up4; omega
 have hny2 : ny ≤ 1073741825 := by rw [← hny, ← up4_nd]; unfold up4; omega
 have HXL := Lib.hid hxl
 have HYL := Lib.hid hyl
 have HT := Lib.hid (sum_bound x y nx (by exact hxl) (by exact Nat.lt_of_lt_of_le hyl (Nat.pow_le_pow_right (by omega) (by omega))))
 have HMK := Lib.hid (make32s nx · (by omega))
 clear hw hdx hdy hnx hny hxl hyl
 go_enter Tryz.func182, Tryz.ntmps182
 go_wp2_with fail
 (refine (H.out _).mono ?_; rintro e w' ⟨rfl, rfl⟩)
 go_wp2_with fail
 refine (HX.out _).mono ?_
 rintro e w' ⟨rfl, k1, rfl⟩
 go_wp2_with fail
 refine (HY.out _).mono ?_
 rintro e w' ⟨rfl, k2, rfl⟩
 go_wp2_with fail
 have hmk := HMK.out
 have hcp := fun ty k => copy_fresh ((w.alloc (.cells (arr .u32 (dg x) nx) 228)).alloc (.cells (arr .u32 (dg y) ny) 228)) (w.heap.size + 1 + 1) (w.heap.size) nx (nx + 1) (nx + 1) nx k ty (dg x) (by simp) (by omega) (by simp; try omega) (fun i hi => by simp [go_sem, arr_get _ _ _ _ hi]) (fun i hi => dg_big x nx i HXL.out hi)
 simp only [hmk]
 go_wp2_with fail
 clear hcp hmk
 have H0 := Lib.hid (sumFn_zero x y (nx + 1))
 have HC0 := Lib.hid (cy_zero x y)
 go_loopw [13, 53] (fun c v wr => ∃ i : Nat, i ≤ nx + 1 ∧ v = .int .i64 i ∧ c = .int .u64 (cy x y i : Int) ∧ wr = (((w.alloc (.cells (arr .u32 (dg x) nx) 228)).alloc (.cells (arr .u32 (dg y) ny) 228)).alloc (.cells (arr .u32 (sumFn x y i) (nx + 1)) 228)).drewN (k1 + k2)) (fun _ v _ => nx + 1 - (intOf v).toNat)
 case atStart => exact ⟨0, Nat.zero_le _, rfl, by rw [HC0.out]; rfl, by rw [H0.out]⟩
 case round =>
  obtain ⟨i, hi, rfl, rfl, rfl⟩ := hrel
  have hcy := cy_le x y i
  have hdx1 := dg_lt x i
  have hdy1 := dg_lt y i
  by_cases hlt : i < nx + 1
  ·have hg := arr_get .u32 (sumFn x y i) (nx + 1) i hlt
   rw [sumFn_at] at hg
   have HS3 := Lib.hid (sumFn_succ x y i)
   by_cases hly : i < ny
   ·have hgy := arr_get .u32 (dg y) ny i hly
    have HS1 := Lib.hid (show ((cy x y i : Int) + dg x i + dg y i) % 4294967296 = (dg (x + y) i : Int) by have := sum_dg x y i; omega)
    have HS2 := Lib.hid (show ((cy x y i : Int) + dg x i + dg y i) / 4294967296 = (cy x y (i + 1) : Int) by have := sum_cy x y i; omega)
    go_wp2_with fail
    refine ⟨⟨i + 1, by omega, by go_num, by rw [HS2.out], ?_⟩, by simp [intOf]; omega⟩
    rw [HS1.out, arr_set, HS3.out]
   ·have hy0 := dg_big y ny i HYL.out (by omega)
    have HS1 := Lib.hid (show ((cy x y i : Int) + dg x i) % 4294967296 = (dg (x + y) i : Int) by have := sum_dg x y i; omega)
    have HS2 := Lib.hid (show ((cy x y i : Int) + dg x i) / 4294967296 = (cy x y (i + 1) : Int) by have := sum_cy x y i; omega)
    clear hy0
    go_wp2_with fail
    refine ⟨⟨i + 1, by omega, by go_num, by rw [HS2.out], ?_⟩, by simp [intOf]; omega⟩
    rw [HS1.out, arr_set, HS3.out]
  ·have e : i = nx + 1 := by omega
   subst e
   have HA := Lib.hid (sumFn_all x y (nx + 1))
   go_wp2_with fail
   rw [HA.out]
   refine (bytes_c (x + y) (nx + 1) (nx + 1) (w.heap.size + 1 + 1) _ HT.out (by omega) (Nat.le_refl _) (fun i hi => by simp [go_sem, arr_get _ _ _ _ hi]) (by simp [go_sem])).mono ?_
   rintro e w' ⟨rfl, hb⟩
   obtain ⟨u, rfl⟩ := World.plus_of_below hb
   clear hb
   go_wp2_with fail
   go_ret
   exact ⟨rfl, by (exact belA)⟩
set_option maxRecDepth 100000 in
set_option maxHeartbeats 800000 in
theorem add_over_swap (x y nx ny : Nat) (w : World) (hx : (mag x).size ≤ 4294967296) (hy : (mag y).size ≤ 4294967296) (hnx : nd 4294967296 x = nx) (hny : nd 4294967296 y = ny) (h8 : fits8 x = true) (h9 : fits8 y = true) (hov : ¬ x + y < 2 ^ 64) (hle : nx < ny) :
    Calls Tryz.prog 182 #[.string (mag x), .string (mag y)] w fun e w' => e = .returned (.string (mag (x + y))) ∧ Below w.heap.size w w' := by
 have hw := fun w => words_c x y w hx hy
 have hx64 := wv_lt x
 have hy64 := wv_lt y
 rw [h8, h9, wv_of x h8, wv_of y h9] at hw
 rw [wv_of x h8] at hx64
 rw [wv_of y h9] at hy64
 have ha := add64_run x y
 obtain ⟨z, hz⟩ : ∃ z, z = (x + y) % 18446744073709551616 := ⟨_, rfl⟩
 rw [show (x + y) / 18446744073709551616 = 1 by omega, ← hz] at ha
 clear hov hx64 hy64 hz h8 h9
 have H := Lib.hid hw
 have hdx := fun w => digits_c x w hx
 have hdy := fun w => digits_c y w hy
 rw [hnx] at hdx
 rw [hny] at hdy
 have HX := Lib.hid hdx
 have HY := Lib.hid hdy
 have hxl : x < 4294967296 ^ nx := by rw [← hnx]; exact lt_pow_nd _ (by omega) x
 have hyl : y < 4294967296 ^ ny := by rw [← hny]; exact lt_pow_nd _ (by omega) y
 have hnx2 : nx ≤ 1073741825 := by rw [← hnx, ← up4_nd]; unfold up4; omega
 have hny2 : ny ≤ 1073741825 := by rw [← hny, ← up4_nd]; unfold up4; omega
 have HXL := Lib.hid hxl
 have HYL := Lib.hid hyl
 have HT := Lib.hid (sum_bound y x ny (by exact hyl) (by exact Nat.lt_of_lt_of_le hxl (Nat.pow_le_pow_right (by omega) (by omega))))
 have HMK := Lib.hid (make32s ny · (by omega))
 clear hw hdx hdy hnx hny hxl hyl
 go_enter Tryz.func182, Tryz.ntmps182
 go_wp2_with fail
 (refine (H.out _).mono ?_; rintro e w' ⟨rfl, rfl⟩)
 go_wp2_with fail
 refine (HX.out _).mono ?_
 rintro e w' ⟨rfl, k1, rfl⟩
 go_wp2_with fail
 refine (HY.out _).mono ?_
 rintro e w' ⟨rfl, k2, rfl⟩
 go_wp2_with fail
 have hmk := HMK.out
 have hcp := fun ty k => copy_fresh ((w.alloc (.cells (arr .u32 (dg x) nx) 228)).alloc (.cells (arr .u32 (dg y) ny) 228)) (w.heap.size + 1 + 1) (w.heap.size + 1) ny (ny + 1) (ny + 1) ny k ty (dg y) (by simp) (by omega) (by simp; try omega) (fun i hi => by simp [go_sem, arr_get _ _ _ _ hi]) (fun i hi => dg_big y ny i HYL.out hi)
 simp only [hmk]
 go_wp2_with fail
 clear hcp hmk
 have H0 := Lib.hid (sumFn_zero y x (ny + 1))
 have HC0 := Lib.hid (cy_zero y x)
 go_loopw [13, 53] (fun c v wr => ∃ i : Nat, i ≤ ny + 1 ∧ v = .int .i64 i ∧ c = .int .u64 (cy y x i : Int) ∧ wr = (((w.alloc (.cells (arr .u32 (dg x) nx) 228)).alloc (.cells (arr .u32 (dg y) ny) 228)).alloc (.cells (arr .u32 (sumFn y x i) (ny + 1)) 228)).drewN (k1 + k2)) (fun _ v _ => ny + 1 - (intOf v).toNat)
 case atStart => exact ⟨0, Nat.zero_le _, rfl, by rw [HC0.out]; rfl, by rw [H0.out]⟩
 case round =>
  obtain ⟨i, hi, rfl, rfl, rfl⟩ := hrel
  have hcy := cy_le y x i
  have hdx1 := dg_lt y i
  have hdy1 := dg_lt x i
  by_cases hlt : i < ny + 1
  ·have hg := arr_get .u32 (sumFn y x i) (ny + 1) i hlt
   rw [sumFn_at] at hg
   have HS3 := Lib.hid (sumFn_succ y x i)
   by_cases hly : i < nx
   ·have hgy := arr_get .u32 (dg x) nx i hly
    have HS1 := Lib.hid (show ((cy y x i : Int) + dg y i + dg x i) % 4294967296 = (dg (y + x) i : Int) by have := sum_dg y x i; omega)
    have HS2 := Lib.hid (show ((cy y x i : Int) + dg y i + dg x i) / 4294967296 = (cy y x (i + 1) : Int) by have := sum_cy y x i; omega)
    go_wp2_with fail
    refine ⟨⟨i + 1, by omega, by go_num, by rw [HS2.out], ?_⟩, by simp [intOf]; omega⟩
    rw [HS1.out, arr_set, HS3.out]
   ·have hy0 := dg_big x nx i HXL.out (by omega)
    have HS1 := Lib.hid (show ((cy y x i : Int) + dg y i) % 4294967296 = (dg (y + x) i : Int) by have := sum_dg y x i; omega)
    have HS2 := Lib.hid (show ((cy y x i : Int) + dg y i) / 4294967296 = (cy y x (i + 1) : Int) by have := sum_cy y x i; omega)
    clear hy0
    go_wp2_with fail
    refine ⟨⟨i + 1, by omega, by go_num, by rw [HS2.out], ?_⟩, by simp [intOf]; omega⟩
    rw [HS1.out, arr_set, HS3.out]
  ·have e : i = ny + 1 := by omega
   subst e
   have HA := Lib.hid (sumFn_all y x (ny + 1))
   go_wp2_with fail
   rw [HA.out]
   refine (bytes_c (y + x) (ny + 1) (ny + 1) (w.heap.size + 1 + 1) _ HT.out (by omega) (Nat.le_refl _) (fun i hi => by simp [go_sem, arr_get _ _ _ _ hi]) (by simp [go_sem])).mono ?_
   rintro e w' ⟨rfl, hb⟩
   obtain ⟨u, rfl⟩ := World.plus_of_below hb
   clear hb
   go_wp2_with fail
   go_ret
   exact ⟨by rw [Nat.add_comm x y]; rfl, by (exact belA)⟩
theorem add_c (x y : Nat) (w : World) (hx : (mag x).size ≤ 4294967296) (hy : (mag y).size ≤ 4294967296) :
    Calls Tryz.prog 182 #[.string (mag x), .string (mag y)] w fun e w' => e = .returned (.string (mag (x + y))) ∧ Below w.heap.size w w' := by
 by_cases h8 : fits8 x = true
 ·by_cases h9 : fits8 y = true
  ·by_cases h : x + y < 2 ^ 64
   ·exact add_small x y w h8 h9 h
   ·rcases Nat.lt_or_ge (nd 4294967296 x) (nd 4294967296 y) with h2 | h2
    ·exact add_over_swap x y _ _ w hx hy rfl rfl h8 h9 h h2
    ·exact add_over x y _ _ w hx hy rfl rfl h8 h9 h h2
  ·have hb : (fits8 x && fits8 y) = false := by simp at h9; rw [h9]; simp
   rcases Nat.lt_or_ge (nd 4294967296 x) (nd 4294967296 y) with h2 | h2
   ·exact add_big_swap x y _ _ w hx hy rfl rfl hb h2
   ·exact add_big x y _ _ w hx hy rfl rfl hb h2
 ·have hb : (fits8 x && fits8 y) = false := by simp at h8; rw [h8]; simp
  rcases Nat.lt_or_ge (nd 4294967296 x) (nd 4294967296 y) with h2 | h2
  ·exact add_big_swap x y _ _ w hx hy rfl rfl hb h2
  ·exact add_big x y _ _ w hx hy rfl rfl hb h2
end Go.Proofs.YtlblfgbpogljoaaGreatDoor

end
section
/- The package integer: sub returns the difference of two magnitudes. -/
namespace Go.Proofs.YtlblfgbpogljoaaGreatDoor
open Go Go.RowKit
open Vi
def bwm (m x y : Nat) : Nat := if x % m < y % m then 1 else 0
def bw (x y i : Nat) : Nat := bwm (4294967296 ^ i) x y
theorem bw_zero (x y : Nat) : bw x y 0 = 0 := by unfold bw bwm; simp [Nat.mod_one]
theorem bw_le (x y i : Nat) : bw x y i ≤ 1 := by unfold bw bwm; split <;> omega
theorem diff_mod (m x y : Nat) (hp : 0 < m) (h : y ≤ x) : (x - y) % m + y % m = x % m + m * bwm m x y := by
 have h1 := Nat.mod_lt x hp
 have h2 := Nat.mod_lt y hp
 have h3 := Nat.mod_lt (x - y) hp
 have e : ((x - y) % m + y % m) % m = x % m := by
  rw [← Nat.add_mod, Nat.sub_add_cancel h]
 unfold bwm
 by_cases hs : (x - y) % m + y % m < m
 ·rw [Nat.mod_eq_of_lt hs] at e
  rw [if_neg (by omega)]; omega
 ·rw [Nat.mod_eq_sub_mod (by omega), Nat.mod_eq_of_lt (by omega)] at e
  rw [if_pos (by omega)]; omega
theorem diff_eq (x y i : Nat) (h : y ≤ x) : dg (x - y) i + bw x y i + dg y i = dg x i + 4294967296 * bw x y (i + 1) := by
 have hp := Nat.pow_pos (n := i) (show 0 < 4294967296 by omega)
 have e1 := diff_mod (4294967296 ^ i) x y hp h
 have e2 := diff_mod (4294967296 ^ (i + 1)) x y (Nat.pow_pos (by omega)) h
 rw [mod_succ (x - y), mod_succ x, mod_succ y] at e2
 show dg (x - y) i + bwm (4294967296 ^ i) x y + dg y i = dg x i + 4294967296 * bwm (4294967296 ^ (i + 1)) x y
 generalize bwm (4294967296 ^ i) x y = b at *
 generalize bwm (4294967296 ^ (i + 1)) x y = b' at *
 rw [Nat.pow_succ] at e2
 generalize 4294967296 ^ i = m at *
 have e3 : m * (dg (x - y) i + b + dg y i) = m * (dg x i + 4294967296 * b') := by
  rw [Nat.mul_add, Nat.mul_add, Nat.mul_add, ← Nat.mul_assoc]
  omega
 exact Nat.eq_of_mul_eq_mul_left hp e3
def difFn (x y i : Nat) : Nat → Nat := fun k => if k < i then dg (x - y) k else dg x k
theorem difFn_zero (x y n : Nat) : arr .u32 (difFn x y 0) n = arr .u32 (dg x) n := by
 apply arr_congr; intro k _; unfold difFn; rw [if_neg (by omega)]
theorem difFn_at (x y i : Nat) : difFn x y i i = dg x i := by unfold difFn; rw [if_neg (by omega)]
theorem difFn_succ (x y i : Nat) : upd (difFn x y i) i (dg (x - y) i) = difFn x y (i + 1) := by
 funext k
 unfold upd difFn
 by_cases h : k = i
 ·subst h; rw [if_pos rfl, if_pos (by omega)]
 ·rw [if_neg h]
  by_cases h2 : k < i
  ·rw [if_pos h2, if_pos (by omega)]
  ·rw [if_neg h2, if_neg (by omega)]
theorem difFn_all (x y n : Nat) : arr .u32 (difFn x y n) n = arr .u32 (dg (x - y)) n := by
 apply arr_congr; intro k hk; unfold difFn; rw [if_pos hk]
set_option maxRecDepth 100000 in
set_option maxHeartbeats 400000 in
theorem sub_small (x y : Nat) (w : World) (hle : y ≤ x) (h8 : fits8 x = true) (h9 : fits8 y = true) : Calls Tryz.prog 184 #[.string (mag x), .string (mag y)] w fun e w' => e = .returned (.string (mag (x - y))) ∧ Below w.heap.size w w' := by
 have hw := words_c x y w (by unfold fits8 at h8; simp at h8; omega) (by unfold fits8 at h9; simp at h9; omega)
 have hl := wv_lt x
 rw [wv_of x h8] at hl
 rw [h8, h9, wv_of x h8, wv_of y h9] at hw
 have H := Lib.hid hw
 have hm := fun w => magnitude_c (x - y) w (by omega)
 obtain ⟨z, hz⟩ : ∃ z, x - y = z := ⟨_, rfl⟩
 rw [hz] at hm ⊢
 have hs : IntKind.u64.wrap ((x : Int) - (y : Int)) = (z : Int) := by rw [IntKind.wrap_u64]; omega
 have HM := Lib.hid hm
 clear hw h8 h9 hm hz hl hle
 go_enter Tryz.func184, Tryz.ntmps184
 go_wp2_with fail
 (refine (H.out).mono ?_; rintro e w' ⟨rfl, rfl⟩)
 (go_wp2_with fail; refine (HM.out _).mono ?_; rintro e w' ⟨rfl, hb⟩; (first | (with_reducible (have hb2 := World.plus_of_below ((World.below_plus _ _).trans (hb.mono (World.size_plus _ _)))); obtain ⟨u, rfl⟩ := hb2) | (obtain ⟨u, rfl⟩ := World.plus_of_below hb)); clear hb)
 go_wp2_with fail
 go_ret
 exact ⟨rfl, by (exact belA)⟩
theorem dif_digit (x y i : Nat) (h : y ≤ x) (hd : (dg x i : Int) - bw x y i - dg y i < 0) : (dg x i : Int) - bw x y i - dg y i + 4294967296 = (dg (x - y) i : Int) ∧ bw x y (i + 1) = 1 := by
 have h1 := diff_eq x y i h
 have h2 := bw_le x y (i + 1)
 have h3 := dg_lt (x - y) i
 omega
theorem dif_digit' (x y i : Nat) (h : y ≤ x) (hd : ¬ (dg x i : Int) - bw x y i - dg y i < 0) : (dg x i : Int) - bw x y i - dg y i = (dg (x - y) i : Int) ∧ bw x y (i + 1) = 0 := by
 have h1 := diff_eq x y i h
 have h2 := bw_le x y (i + 1)
 have h3 := dg_lt (x - y) i
 have h4 := dg_lt x i
 omega
set_option maxRecDepth 100000 in
set_option maxHeartbeats 800000 in
theorem sub_big (x y nx ny : Nat) (w : World) (hx : (mag x).size ≤ 4294967296) (hy : (mag y).size ≤ 4294967296) (hnx : nd 4294967296 x = nx) (hny : nd 4294967296 y = ny) (hbig : (fits8 x && fits8 y) = false) (hxy : y ≤ x) :
    Calls Tryz.prog 184 #[.string (mag x), .string (mag y)] w fun e w' => e = .returned (.string (mag (x - y))) ∧ Below w.heap.size w w' := by
 have hw := fun w => words_c x y w hx hy
 have hle : ny ≤ nx := by rw [← hnx, ← hny]; exact nd_mono _ (by omega) y x hxy
 rw [hbig] at hw
 clear hbig
 have H := Lib.hid hw
 have hdx := fun w => digits_c x w hx
 have hdy := fun w => digits_c y w hy
 rw [hnx] at hdx
 rw [hny] at hdy
 have HX := Lib.hid hdx
 have HY := Lib.hid hdy
 have hxl : x < 4294967296 ^ nx := by rw [← hnx]; exact lt_pow_nd _ (by omega) x
 have hyl : y < 4294967296 ^ ny := by rw [← hny]; exact lt_pow_nd _ (by omega) y
 have hnx2 : nx ≤ 1073741825 := by rw [← hnx, ← up4_nd]; unfold up4; omega
 have HXL := Lib.hid hxl
 have HYL := Lib.hid hyl
 have HXY := Lib.hid hxy
 have HT := Lib.hid (Nat.lt_of_le_of_lt (Nat.sub_le x y) hxl)
 have HMK := Lib.hid (fun w => make32 nx w (by omega))
 clear hw hdx hdy hnx hny hxl hyl hxy
 go_enter Tryz.func184, Tryz.ntmps184
 go_wp2_with fail
 (refine (H.out _).mono ?_; rintro e w' ⟨rfl, rfl⟩)
 go_wp2_with fail
 refine (HX.out _).mono ?_
 rintro e w' ⟨rfl, k1, rfl⟩
 go_wp2_with fail
 refine (HY.out _).mono ?_
 rintro e w' ⟨rfl, k2, rfl⟩
 go_wp2_with fail
 have hmk := HMK.out
 have hcp := fun ty k => copy_fresh ((w.alloc (.cells (arr .u32 (dg x) nx) 228)).alloc (.cells (arr .u32 (dg y) ny) 228)) (w.heap.size + 1 + 1) (w.heap.size) nx nx nx nx k ty (dg x) (by simp) (by omega) (by simp; try omega) (fun i hi => by simp [go_sem, arr_get _ _ _ _ hi]) (fun i hi => dg_big x nx i HXL.out hi)
 simp only [hmk]
 go_wp2_with fail
 clear hcp hmk
 have H0 := Lib.hid (difFn_zero x y nx)
 have HC0 := Lib.hid (bw_zero x y)
 go_loopw [11, 38] (fun c v wr => ∃ i : Nat, i ≤ nx ∧ v = .int .i64 i ∧ c = .int .i64 (bw x y i : Int) ∧ wr = (((w.alloc (.cells (arr .u32 (dg x) nx) 228)).alloc (.cells (arr .u32 (dg y) ny) 228)).alloc (.cells (arr .u32 (difFn x y i) nx) 228)).drewN (k1 + k2)) (fun _ v _ => nx - (intOf v).toNat)
 case atStart => exact ⟨0, Nat.zero_le _, rfl, by rw [HC0.out]; rfl, by rw [H0.out]⟩
 case round =>
  obtain ⟨i, hi, rfl, rfl, rfl⟩ := hrel
  have hcy := bw_le x y i
  have hdx1 := dg_lt x i
  have hdy1 := dg_lt y i
  by_cases hlt : i < nx
  ·have hg := arr_get .u32 (difFn x y i) nx i hlt
   rw [difFn_at] at hg
   have HS3 := Lib.hid (difFn_succ x y i)
   by_cases hly : i < ny
   ·have hgy := arr_get .u32 (dg y) ny i hly
    by_cases hd : (dg x i : Int) - bw x y i - dg y i < 0
    ·obtain ⟨h1, h2⟩ := dif_digit x y i HXY.out hd
     have HS1 := Lib.hid h1
     have HS2 := Lib.hid h2
     clear h1 h2
     go_wp2_with fail
     refine ⟨⟨i + 1, by omega, by go_num, by rw [HS2.out]; rfl, ?_⟩, by simp [intOf]; omega⟩
     rw [HS1.out, arr_set, HS3.out]
    ·obtain ⟨h1, h2⟩ := dif_digit' x y i HXY.out hd
     have HS1 := Lib.hid h1
     have HS2 := Lib.hid h2
     clear h1 h2
     go_wp2_with fail
     refine ⟨⟨i + 1, by omega, by go_num, by rw [HS2.out]; rfl, ?_⟩, by simp [intOf]; omega⟩
     rw [HS1.out, arr_set, HS3.out]
   ·have hy0 := dg_big y ny i HYL.out (by omega)
    by_cases hd : (dg x i : Int) - bw x y i < 0
    ·obtain ⟨h1, h2⟩ := dif_digit x y i HXY.out (by omega)
     have HS1 := Lib.hid (show (dg x i : Int) - bw x y i + 4294967296 = (dg (x - y) i : Int) by omega)
     have HS2 := Lib.hid h2
     clear h1 h2 hy0
     go_wp2_with fail
     refine ⟨⟨i + 1, by omega, by go_num, by rw [HS2.out]; rfl, ?_⟩, by simp [intOf]; omega⟩
     rw [HS1.out, arr_set, HS3.out]
    ·obtain ⟨h1, h2⟩ := dif_digit' x y i HXY.out (by omega)
     have HS1 := Lib.hid (show (dg x i : Int) - bw x y i = (dg (x - y) i : Int) by omega)
     have HS2 := Lib.hid h2
     clear h1 h2 hy0
     go_wp2_with fail
     refine ⟨⟨i + 1, by omega, by go_num, by rw [HS2.out]; rfl, ?_⟩, by simp [intOf]; omega⟩
     rw [HS1.out, arr_set, HS3.out]
  ·have e : i = nx := by omega
   subst e
   have HA := Lib.hid (difFn_all x y i)
   go_wp2_with fail
   rw [HA.out]
   refine (bytes_c (x - y) i i (w.heap.size + 1 + 1) _ HT.out (by omega) (Nat.le_refl _) (fun i hi => by simp [go_sem, arr_get _ _ _ _ hi]) (by simp [go_sem])).mono ?_
   rintro e w' ⟨rfl, hb⟩
   obtain ⟨u, rfl⟩ := World.plus_of_below hb
   clear hb
   go_wp2_with fail
   go_ret
   exact ⟨rfl, by (exact belA)⟩
theorem sub_c (x y : Nat) (w : World) (hx : (mag x).size ≤ 4294967296) (hy : (mag y).size ≤ 4294967296) (hle : y ≤ x) :
    Calls Tryz.prog 184 #[.string (mag x), .string (mag y)] w fun e w' => e = .returned (.string (mag (x - y))) ∧ Below w.heap.size w w' := by
 by_cases h8 : fits8 x = true
 ·by_cases h9 : fits8 y = true
  ·exact sub_small x y w hle h8 h9
  ·have hb : (fits8 x && fits8 y) = false := by simp at h9; rw [h9]; simp
   exact sub_big x y _ _ w hx hy rfl rfl hb hle
 ·have hb : (fits8 x && fits8 y) = false := by simp at h8; rw [h8]; simp
  exact sub_big x y _ _ w hx hy rfl rfl hb hle
end Go.Proofs.YtlblfgbpogljoaaGreatDoor

end
section
/- The package integer: mul returns the product of two magnitudes. -/
namespace Go.Proofs.YtlblfgbpogljoaaGreatDoor
open Go Go.RowKit
open Vi
theorem mul64_c (x y : Nat) (hx : x < 2 ^ 64) (hy : y < 2 ^ 64) (w : World) : Calls Tryz.prog 193 #[.int .u64 (x : Int), .int .u64 (y : Int)] w fun e w' => e = .returned (.tuple #[.int .u64 ((x * y / 18446744073709551616 : Nat) : Int), .int .u64 ((x * y % 18446744073709551616 : Nat) : Int)]) ∧ w = w' :=
 (Tryz.bits_Mul64 x y hx hy w).mono fun _ _ ⟨he, hw⟩ => ⟨he, hw.symm⟩
set_option maxRecDepth 100000 in
set_option maxHeartbeats 400000 in
theorem mul_small (x y : Nat) (w : World) (h8 : fits8 x = true) (h9 : fits8 y = true) (h : x * y < 2 ^ 64) : Calls Tryz.prog 169 #[.string (mag x), .string (mag y)] w fun e w' => e = .returned (.string (mag (x * y))) ∧ Below w.heap.size w w' := by
 have hw := words_c x y w (by unfold fits8 at h8; simp at h8; omega) (by unfold fits8 at h9; simp at h9; omega)
 have hx64 := wv_lt x
 have hy64 := wv_lt y
 rw [h8, h9, wv_of x h8, wv_of y h9] at hw
 rw [wv_of x h8] at hx64
 rw [wv_of y h9] at hy64
 have H := Lib.hid hw
 have hm := fun w => mul64_c x y hx64 hy64 w
 obtain ⟨z, hz⟩ : ∃ z, x * y = z := ⟨_, rfl⟩
 rw [hz] at hm h ⊢
 rw [show z % 18446744073709551616 = z by omega, show z / 18446744073709551616 = 0 by omega] at hm
 have HM := Lib.hid hm
 have HG := Lib.hid (fun w => magnitude_c z w h)
 clear hw hm hx64 hy64 h8 h9 hz h
 go_enter Tryz.func169, Tryz.ntmps169
 go_wp2_with fail
 (refine (H.out).mono ?_; rintro e w' ⟨rfl, rfl⟩)
 go_wp2_with fail
 (refine (HM.out _).mono ?_; rintro e w' ⟨rfl, rfl⟩)
 (go_wp2_with fail; refine (HG.out _).mono ?_; rintro e w' ⟨rfl, hb⟩; (first | (with_reducible (have hb2 := World.plus_of_below ((World.below_plus _ _).trans (hb.mono (World.size_plus _ _)))); obtain ⟨u, rfl⟩ := hb2) | (obtain ⟨u, rfl⟩ := World.plus_of_below hb)); clear hb)
 go_wp2_with fail
 go_ret
 exact ⟨rfl, by (exact belA)⟩
def my (o d y i k : Nat) : Nat := (o % 4294967296 ^ (i + k) + 4294967296 ^ i * (d * (y % 4294967296 ^ k))) / 4294967296 ^ (i + k)
theorem my_zero (o d y i : Nat) : my o d y i 0 = 0 := by
 unfold my
 rw [Nat.pow_zero, Nat.mod_one, Nat.mul_zero, Nat.mul_zero, Nat.add_zero, Nat.add_zero]
 exact Nat.div_eq_of_lt (Nat.mod_lt _ (Nat.pow_pos (by omega)))
theorem my_lt (o d y i k : Nat) (hd : d < 4294967296) : my o d y i k < 4294967296 := by
 unfold my
 have hM : 0 < 4294967296 ^ (i + k) := Nat.pow_pos (by omega)
 rw [Nat.div_lt_iff_lt_mul hM]
 have h1 := Nat.mod_lt o hM
 have h2 := Nat.mod_lt y (Nat.pow_pos (n := k) (show 0 < 4294967296 by omega))
 have h3 : 4294967296 ^ i * (d * (y % 4294967296 ^ k)) ≤ 4294967296 ^ i * (4294967295 * 4294967296 ^ k) :=
  Nat.mul_le_mul_left _ (Nat.mul_le_mul (by omega) (by omega))
 have h4 : 4294967296 ^ i * (4294967295 * 4294967296 ^ k) = 4294967295 * 4294967296 ^ (i + k) := by
  rw [Nat.mul_left_comm, Nat.pow_add]
 omega
theorem my_step (o d y i k : Nat) : my o d y i k + dg o (i + k) + d * dg y k = dg (o + 4294967296 ^ i * (d * y)) (i + k) + 4294967296 * my o d y i (k + 1) := by
 have hM : 0 < 4294967296 ^ (i + k) := Nat.pow_pos (by omega)
 have e1 : o % 4294967296 ^ (i + (k + 1)) + 4294967296 ^ i * (d * (y % 4294967296 ^ (k + 1))) = (o % 4294967296 ^ (i + k) + 4294967296 ^ i * (d * (y % 4294967296 ^ k))) + 4294967296 ^ (i + k) * (dg o (i + k) + d * dg y k) := by
  rw [← Nat.add_assoc i k 1, mod_succ o, mod_succ y, Nat.pow_add 4294967296 i k]
  simp only [Nat.mul_add]
  rw [Nat.mul_left_comm d (4294967296 ^ k), Nat.mul_assoc (4294967296 ^ i)  (4294967296 ^ k) (d * dg y k)]
  omega
 have e2 : (o % 4294967296 ^ (i + (k + 1)) + 4294967296 ^ i * (d * (y % 4294967296 ^ (k + 1)))) / 4294967296 ^ (i + k) = my o d y i k + (dg o (i + k) + d * dg y k) := by
  rw [e1, Nat.add_mul_div_left _ _ hM]; rfl
 have e3 : my o d y i (k + 1) = (my o d y i k + (dg o (i + k) + d * dg y k)) / 4294967296 := by
  rw [← e2, Nat.div_div_eq_div_mul, ← Nat.pow_succ]; rfl
 have e4 : dg (o + 4294967296 ^ i * (d * y)) (i + k) = (my o d y i k + (dg o (i + k) + d * dg y k)) % 4294967296 := by
  rw [← e2]
  unfold dg
  rw [← Nat.mod_mul_right_div_self, ← Nat.mod_mul_right_div_self (_ + _ : Nat), ← Nat.pow_succ]
  congr 1
  show _ = (o % 4294967296 ^ (i + k + 1) + 4294967296 ^ i * (d * (y % 4294967296 ^ (k + 1)))) % 4294967296 ^ (i + k + 1)
  have e5 : 4294967296 ^ i * (d * y) = 4294967296 ^ i * (d * (y % 4294967296 ^ (k + 1))) + 4294967296 ^ (i + k + 1) * (d * (y / 4294967296 ^ (k + 1))) := by
   rw [Nat.add_assoc, Nat.pow_add 4294967296 i (k + 1), Nat.mul_assoc, ← Nat.mul_add]
   congr 1
   rw [Nat.mul_left_comm, ← Nat.mul_add, Nat.mod_add_div]
  rw [e5, ← Nat.add_assoc, Nat.add_mul_mod_self_left, Nat.mod_add_mod]
 rw [e3, e4, Nat.mod_add_div]; omega
theorem dg_add_low (o i z p : Nat) (h : p < i) : dg (o + 4294967296 ^ i * z) p = dg o p := by
 unfold dg
 rw [← Nat.mod_mul_right_div_self, ← Nat.mod_mul_right_div_self, ← Nat.pow_succ]
 congr 1
 obtain ⟨m, rfl⟩ : ∃ m, i = (p + 1) + m := ⟨i - (p + 1), by omega⟩
 rw [Nat.pow_add, Nat.mul_assoc, Nat.add_mul_mod_self_left]
def mulFn (o t i k : Nat) : Nat → Nat := fun p => if p < i + k then dg t p else dg o p
theorem mulFn_zero (o z i n : Nat) : arr .u32 (dg o) n = arr .u32 (mulFn o (o + 4294967296 ^ i * z) i 0) n := by
 apply arr_congr; intro p _; unfold mulFn
 split
 ·rw [dg_add_low _ _ _ _ (by omega)]
 ·rfl
theorem mulFn_at (o t i k : Nat) : mulFn o t i k (i + k) = dg o (i + k) := by unfold mulFn; rw [if_neg (by omega)]
theorem mulFn_succ (o t i k : Nat) : upd (mulFn o t i k) (i + k) (dg t (i + k)) = mulFn o t i (k + 1) := by
 funext p
 unfold upd mulFn
 by_cases h : p = i + k
 ·subst h; rw [if_pos rfl, if_pos (by omega)]
 ·rw [if_neg h]
  by_cases h2 : p < i + k
  ·rw [if_pos h2, if_pos (by omega)]
  ·rw [if_neg h2, if_neg (by omega)]
theorem row_lt (o d y i n : Nat) (ho : o < 4294967296 ^ (i + n)) (hy : y < 4294967296 ^ n) (hd : d < 4294967296) : o + 4294967296 ^ i * (d * y) < 4294967296 ^ (i + n + 1) := by
 have h3 : 4294967296 ^ i * (d * y) ≤ 4294967296 ^ i * (4294967295 * 4294967296 ^ n) :=
  Nat.mul_le_mul_left _ (Nat.mul_le_mul (by omega) (by omega))
 have h4 : 4294967296 ^ i * (4294967295 * 4294967296 ^ n) = 4294967295 * 4294967296 ^ (i + n) := by
  rw [Nat.mul_left_comm, Nat.pow_add]
 rw [Nat.pow_succ]
 omega
theorem my_last (o d y i n : Nat) (ho : o < 4294967296 ^ (i + n)) (hy : y < 4294967296 ^ n) (hd : d < 4294967296) : my o d y i n = dg (o + 4294967296 ^ i * (d * y)) (i + n) := by
 have h := row_lt o d y i n ho hy hd
 unfold my dg
 rw [Nat.mod_eq_of_lt ho, Nat.mod_eq_of_lt hy]
 symm
 apply Nat.mod_eq_of_lt
 rw [Nat.div_lt_iff_lt_mul (Nat.pow_pos (by omega)), show 4294967296 * 4294967296 ^ (i + n) = 4294967296 ^ (i + n + 1) by rw [Nat.pow_succ, Nat.mul_comm]]
 exact h
theorem mulFn_all (o d y i n m : Nat) (ho : o < 4294967296 ^ (i + n)) (hy : y < 4294967296 ^ n) (hd : d < 4294967296) :
    arr .u32 (upd (mulFn o (o + 4294967296 ^ i * (d * y)) i n) (i + n) (my o d y i n)) m = arr .u32 (dg (o + 4294967296 ^ i * (d * y))) m := by
 have h := row_lt o d y i n ho hy hd
 apply arr_congr
 intro p _
 unfold upd mulFn
 by_cases h1 : p = i + n
 ·subst h1; rw [if_pos rfl, my_last o d y i n ho hy hd]
 ·rw [if_neg h1]
  by_cases h2 : p < i + n
  ·rw [if_pos h2]
  ·rw [if_neg h2, dg_big o (i + n) p ho (by omega), dg_big _ (i + n + 1) p h (by omega)]
theorem part_mul (x y i : Nat) : x % 4294967296 ^ i * y + 4294967296 ^ i * (dg x i * y) = x % 4294967296 ^ (i + 1) * y := by
 rw [mod_succ, Nat.add_mul, Nat.mul_assoc]
theorem make32t (n m : Nat) (w : World) (h : n + m ≤ 8589934591) : (Instr.makeSlice 226 (.int .i64 ((n : Int) + (m : Int) + 1)) (.int .i64 ((n : Int) + (m : Int) + 1))).run Tryz.prog w = .ok (.slice (some ⟨w.heap.size, 0, none⟩) (n + m + 1) (n + m + 1)) (w.alloc (.cells (arr .u32 (fun _ => 0) (n + m + 1)) 228)) :=
 make32 (n + m + 1) w (by omega)
theorem zero_row (n x y : Nat) : arr .u32 (fun _ => 0) n = arr .u32 (dg (x % 4294967296 ^ 0 * y)) n := by
 apply arr_congr; intro i _; rw [Nat.pow_zero, Nat.mod_one, Nat.zero_mul, dg_zero]
theorem prod_lt (x y nx ny : Nat) (hx : x < 4294967296 ^ nx) (hy : y < 4294967296 ^ ny) : x * y < 4294967296 ^ (nx + ny + 1) := by
 have h1 : x * y ≤ 4294967296 ^ nx * 4294967296 ^ ny := Nat.mul_le_mul (by omega) (by omega)
 rw [← Nat.pow_add] at h1
 have h2 : 0 < 4294967296 ^ (nx + ny) := Nat.pow_pos (by omega)
 rw [Nat.pow_succ]; omega
theorem part_lt (x y i n : Nat) (hy : y < 4294967296 ^ n) : x % 4294967296 ^ i * y < 4294967296 ^ (i + n) := by
 rw [Nat.pow_add]
 have h1 := Nat.mod_lt x (Nat.pow_pos (n := i) (show 0 < 4294967296 by omega))
 calc x % 4294967296 ^ i * y ≤ x % 4294967296 ^ i * 4294967296 ^ n := Nat.mul_le_mul_left _ (by omega)
  _ < 4294967296 ^ i * 4294967296 ^ n := Nat.mul_lt_mul_of_pos_right h1 (Nat.pow_pos (by omega))
set_option maxRecDepth 100000 in
set_option maxHeartbeats 1600000 in
theorem mul_big (x y nx ny : Nat) (w : World) (hx : (mag x).size ≤ 4294967296) (hy : (mag y).size ≤ 4294967296) (hnx : nd 4294967296 x = nx) (hny : nd 4294967296 y = ny) (hbig : (fits8 x && fits8 y) = false) :
    Calls Tryz.prog 169 #[.string (mag x), .string (mag y)] w fun e w' => e = .returned (.string (mag (x * y))) ∧ Below w.heap.size w w' := by
 have hw := fun w => words_c x y w hx hy
 rw [hbig] at hw
 clear hbig
 have H := Lib.hid hw
 have hdx := fun w => digits_c x w hx
 have hdy := fun w => digits_c y w hy
 rw [hnx] at hdx
 rw [hny] at hdy
 have HX := Lib.hid hdx
 have HY := Lib.hid hdy
 have hxl : x < 4294967296 ^ nx := by rw [← hnx]; exact lt_pow_nd _ (by omega) x
 have hyl : y < 4294967296 ^ ny := by rw [← hny]; exact lt_pow_nd _ (by omega) y
 have hnx2 : nx ≤ 1073741825 := by rw [← hnx, ← up4_nd]; unfold up4; omega
 have hny2 : ny ≤ 1073741825 := by rw [← hny, ← up4_nd]; unfold up4; omega
 have HXL := Lib.hid hxl
 have HYL := Lib.hid hyl
 have HT := Lib.hid (prod_lt x y nx ny hxl hyl)
 have HMK := Lib.hid (make32t nx ny · (by omega))
 clear hw hdx hdy hnx hny hxl hyl
 go_enter Tryz.func169, Tryz.ntmps169
 go_wp2_with fail
 (refine (H.out _).mono ?_; rintro e w' ⟨rfl, rfl⟩)
 go_wp2_with fail
 refine (HX.out _).mono ?_
 rintro e w' ⟨rfl, k1, rfl⟩
 go_wp2_with fail
 refine (HY.out _).mono ?_
 rintro e w' ⟨rfl, k2, rfl⟩
 go_wp2_with fail
 have hmk := HMK.out
 simp only [hmk]
 clear hmk
 go_wp2_with fail
 have H0 := Lib.hid (zero_row (nx + ny + 1) x y)
 go_loopw [48] (fun v wr => ∃ i k3 : Nat, i ≤ nx ∧ v = .int .i64 i ∧ wr = (((w.alloc (.cells (arr .u32 (dg x) nx) 228)).alloc (.cells (arr .u32 (dg y) ny) 228)).alloc (.cells (arr .u32 (dg (x % 4294967296 ^ i * y)) (nx + ny + 1)) 228)).drewN k3) (fun v _ => nx - (intOf v).toNat)
 case atStart => exact ⟨0, k1 + k2, Nat.zero_le _, rfl, by rw [H0.out]⟩
 case round =>
  obtain ⟨i, k3, hi, rfl, rfl⟩ := hrel
  by_cases hlt : i < nx
  ·have hgx := arr_get .u32 (dg x) nx i hlt
   have hdx1 := dg_lt x i
   go_wp2_with fail
   clear hgx
   obtain ⟨o, ho⟩ : ∃ o, o = x % 4294967296 ^ i * y := ⟨_, rfl⟩
   have hol := part_lt x y i ny HYL.out
   rw [← ho] at hol ⊢
   have HOL := Lib.hid hol
   have HO := Lib.hid ho
   clear ho hol
   obtain ⟨d, hd⟩ : ∃ d, d = dg x i := ⟨_, rfl⟩
   rw [← hd] at hdx1 ⊢
   have HD := Lib.hid hd
   clear hd
   obtain ⟨t, ht⟩ : ∃ t, t = o + 4294967296 ^ i * (d * y) := ⟨_, rfl⟩
   have HTT := Lib.hid ht
   have HZ := Lib.hid (mulFn_zero o (d * y) i (nx + ny + 1))
   rw [← ht] at HZ
   clear ht
   have HM0 := Lib.hid (my_zero o d y i)
   go_loopw [15, 55] (fun c v wr => ∃ k k3 : Nat, k ≤ ny ∧ v = .int .i64 k ∧ c = .int .u64 (my o d y i k : Int) ∧ wr = (((w.alloc (.cells (arr .u32 (dg x) nx) 228)).alloc (.cells (arr .u32 (dg y) ny) 228)).alloc (.cells (arr .u32 (mulFn o t i k) (nx + ny + 1)) 228)).drewN k3) (fun _ v _ => ny - (intOf v).toNat)
   case atStart => exact ⟨0, k3, Nat.zero_le _, rfl, by rw [HM0.out]; rfl, by rw [HZ.out]⟩
   case round =>
    obtain ⟨k, k3, hk, rfl, rfl, rfl⟩ := hrel
    by_cases hlt2 : k < ny
    ·have hgy := arr_get .u32 (dg y) ny k hlt2
     have hgo := arr_get .u32 (mulFn o t i k) (nx + ny + 1) (i + k) (by omega)
     rw [mulFn_at] at hgo
     have hst := my_step o d y i k
     rw [← HTT.out] at hst
     have hc1 := my_lt o d y i k hdx1
     have ho1 := dg_lt o (i + k)
     have hy1 := dg_lt y k
     have ht1 := dg_lt t (i + k)
     have hp1 : d * dg y k ≤ 4294967295 * 4294967295 := Nat.mul_le_mul (by omega) (by omega)
     obtain ⟨P, hP⟩ : ∃ P, P = d * dg y k := ⟨_, rfl⟩
     rw [← hP] at hst hp1
     have e1 : IntKind.u64.wrap ((d : Int) * (dg y k : Int)) = (P : Int) := by
      rw [← Int.natCast_mul, ← hP, IntKind.wrap_u64]; omega
     clear hP
     obtain ⟨Q, hQ⟩ : ∃ Q, Q = dg o (i + k) + P := ⟨_, rfl⟩
     have e2 : IntKind.u64.wrap ((dg o (i + k) : Int) + (P : Int)) = (Q : Int) := by
      rw [IntKind.wrap_u64]; omega
     obtain ⟨R, hR⟩ : ∃ R, R = my o d y i k + Q := ⟨_, rfl⟩
     have e3 : IntKind.u64.wrap ((my o d y i k : Int) + (Q : Int)) = (R : Int) := by
      rw [IntKind.wrap_u64]; omega
     have HR1 := Lib.hid (show (R : Int) % 4294967296 = (dg t (i + k) : Int) by omega)
     have HR2 := Lib.hid (show (R : Int) / 4294967296 = (my o d y i (k + 1) : Int) by omega)
     have HS3 := Lib.hid (mulFn_succ o t i k)
     have e4 : IntKind.i64.wrap ((i : Int) + (k : Int)) = (i : Int) + (k : Int) := IntWalk.i64_in _ (by omega)
     have e5 : (0 : Int) ≤ (i : Int) + (k : Int) := by omega
     have e6 : ((i : Int) + (k : Int)).toNat = i + k := by omega
     have e7 : (i : Int) + (k : Int) < (nx : Int) + (ny : Int) + 1 := by omega
     clear hst hQ hR ht1 hp1
     go_wp2_with fail
     (refine wp_region_exact (by kernel_rfl) (by kernel_rfl) ?_; repeat go_big_quiet_step (fail)); (refine wpQuiet_nil ?_; rintro _ rfl)
     clear e1 e2 e3 e4
     go_wp2_with fail
     refine ⟨⟨k + 1, k3 + 1, by omega, by go_num, by rw [HR2.out], ?_⟩, by simp [intOf]; omega⟩
     rw [HR1.out, arr_set, HS3.out]
    ·have e : k = ny := by omega
     subst e
     have hgo := arr_get .u32 (mulFn o t i k) (nx + k + 1) (i + k) (by omega)
     have hc1 := my_lt o d y i k hdx1
     have HF := Lib.hid (mulFn_all o d y i k (nx + k + 1) HOL.out HYL.out hdx1)
     have HN := Lib.hid (part_mul x y i)
     go_wp2_with fail
     refine ⟨⟨i + 1, k3, by omega, by go_num, ?_⟩, by simp [intOf]; omega⟩
     rw [arr_set, HTT.out, HF.out, HO.out, HD.out, HN.out]
  ·have e : i = nx := by omega
   subst e
   have HA := Lib.hid (Nat.mod_eq_of_lt HXL.out)
   go_wp2_with fail
   rw [HA.out]
   refine (bytes_c (x * y) (i + ny + 1) (i + ny + 1) (w.heap.size + 1 + 1) _ HT.out (by omega) (Nat.le_refl _) (fun j hj => by simp [go_sem, arr_get _ _ _ _ hj]) (by simp [go_sem])).mono ?_
   rintro e w' ⟨rfl, hb⟩
   obtain ⟨u, rfl⟩ := World.plus_of_below hb
   clear hb
   go_wp2_with fail
   go_ret
   exact ⟨rfl, by (exact belA)⟩
set_option maxRecDepth 100000 in
set_option maxHeartbeats 1600000 in
theorem mul_over (x y nx ny : Nat) (w : World) (hx : (mag x).size ≤ 4294967296) (hy : (mag y).size ≤ 4294967296) (hnx : nd 4294967296 x = nx) (hny : nd 4294967296 y = ny) (h8 : fits8 x = true) (h9 : fits8 y = true) (hov : ¬ x * y < 2 ^ 64) :
    Calls Tryz.prog 169 #[.string (mag x), .string (mag y)] w fun e w' => e = .returned (.string (mag (x * y))) ∧ Below w.heap.size w w' := by
 have hw := fun w => words_c x y w hx hy
 have hx64 := wv_lt x
 have hy64 := wv_lt y
 rw [h8, h9, wv_of x h8, wv_of y h9] at hw
 rw [wv_of x h8] at hx64
 rw [wv_of y h9] at hy64
 have hm := fun w => mul64_c x y hx64 hy64 w
 obtain ⟨zh, hzh⟩ : ∃ z, x * y / 18446744073709551616 = z := ⟨_, rfl⟩
 obtain ⟨zl, hzl⟩ : ∃ z, x * y % 18446744073709551616 = z := ⟨_, rfl⟩
 rw [hzh, hzl] at hm
 have hb : ((zh : Int) == 0) = false := by rw [beq_eq_false_iff_ne]; omega
 have HM := Lib.hid hm
 clear hx64 hy64 h8 h9 hm hzh hzl hov
 have H := Lib.hid hw
 have hdx := fun w => digits_c x w hx
 have hdy := fun w => digits_c y w hy
 rw [hnx] at hdx
 rw [hny] at hdy
 have HX := Lib.hid hdx
 have HY := Lib.hid hdy
 have hxl : x < 4294967296 ^ nx := by rw [← hnx]; exact lt_pow_nd _ (by omega) x
 have hyl : y < 4294967296 ^ ny := by rw [← hny]; exact lt_pow_nd _ (by omega) y
 have hnx2 : nx ≤ 1073741825 := by rw [← hnx, ← up4_nd]; unfold up4; omega
 have hny2 : ny ≤ 1073741825 := by rw [← hny, ← up4_nd]; unfold up4; omega
 have HXL := Lib.hid hxl
 have HYL := Lib.hid hyl
 have HT := Lib.hid (prod_lt x y nx ny hxl hyl)
 have HMK := Lib.hid (make32t nx ny · (by omega))
 clear hw hdx hdy hnx hny hxl hyl
 go_enter Tryz.func169, Tryz.ntmps169
 go_wp2_with fail
 (refine (H.out _).mono ?_; rintro e w' ⟨rfl, rfl⟩)
 go_wp2_with fail
 (refine (HM.out _).mono ?_; rintro e w' ⟨rfl, rfl⟩)
 go_wp2_with fail
 refine (HX.out _).mono ?_
 rintro e w' ⟨rfl, k1, rfl⟩
 go_wp2_with fail
 refine (HY.out _).mono ?_
 rintro e w' ⟨rfl, k2, rfl⟩
 go_wp2_with fail
 have hmk := HMK.out
 simp only [hmk]
 clear hmk
 go_wp2_with fail
 have H0 := Lib.hid (zero_row (nx + ny + 1) x y)
 go_loopw [48] (fun v wr => ∃ i k3 : Nat, i ≤ nx ∧ v = .int .i64 i ∧ wr = (((w.alloc (.cells (arr .u32 (dg x) nx) 228)).alloc (.cells (arr .u32 (dg y) ny) 228)).alloc (.cells (arr .u32 (dg (x % 4294967296 ^ i * y)) (nx + ny + 1)) 228)).drewN k3) (fun v _ => nx - (intOf v).toNat)
 case atStart => exact ⟨0, k1 + k2, Nat.zero_le _, rfl, by rw [H0.out]⟩
 case round =>
  obtain ⟨i, k3, hi, rfl, rfl⟩ := hrel
  by_cases hlt : i < nx
  ·have hgx := arr_get .u32 (dg x) nx i hlt
   have hdx1 := dg_lt x i
   go_wp2_with fail
   clear hgx
   obtain ⟨o, ho⟩ : ∃ o, o = x % 4294967296 ^ i * y := ⟨_, rfl⟩
   have hol := part_lt x y i ny HYL.out
   rw [← ho] at hol ⊢
   have HOL := Lib.hid hol
   have HO := Lib.hid ho
   clear ho hol
   obtain ⟨d, hd⟩ : ∃ d, d = dg x i := ⟨_, rfl⟩
   rw [← hd] at hdx1 ⊢
   have HD := Lib.hid hd
   clear hd
   obtain ⟨t, ht⟩ : ∃ t, t = o + 4294967296 ^ i * (d * y) := ⟨_, rfl⟩
   have HTT := Lib.hid ht
   have HZ := Lib.hid (mulFn_zero o (d * y) i (nx + ny + 1))
   rw [← ht] at HZ
   clear ht
   have HM0 := Lib.hid (my_zero o d y i)
   go_loopw [15, 55] (fun c v wr => ∃ k k3 : Nat, k ≤ ny ∧ v = .int .i64 k ∧ c = .int .u64 (my o d y i k : Int) ∧ wr = (((w.alloc (.cells (arr .u32 (dg x) nx) 228)).alloc (.cells (arr .u32 (dg y) ny) 228)).alloc (.cells (arr .u32 (mulFn o t i k) (nx + ny + 1)) 228)).drewN k3) (fun _ v _ => ny - (intOf v).toNat)
   case atStart => exact ⟨0, k3, Nat.zero_le _, rfl, by rw [HM0.out]; rfl, by rw [HZ.out]⟩
   case round =>
    obtain ⟨k, k3, hk, rfl, rfl, rfl⟩ := hrel
    by_cases hlt2 : k < ny
    ·have hgy := arr_get .u32 (dg y) ny k hlt2
     have hgo := arr_get .u32 (mulFn o t i k) (nx + ny + 1) (i + k) (by omega)
     rw [mulFn_at] at hgo
     have hst := my_step o d y i k
     rw [← HTT.out] at hst
     have hc1 := my_lt o d y i k hdx1
     have ho1 := dg_lt o (i + k)
     have hy1 := dg_lt y k
     have ht1 := dg_lt t (i + k)
     have hp1 : d * dg y k ≤ 4294967295 * 4294967295 := Nat.mul_le_mul (by omega) (by omega)
     obtain ⟨P, hP⟩ : ∃ P, P = d * dg y k := ⟨_, rfl⟩
     rw [← hP] at hst hp1
     have e1 : IntKind.u64.wrap ((d : Int) * (dg y k : Int)) = (P : Int) := by
      rw [← Int.natCast_mul, ← hP, IntKind.wrap_u64]; omega
     clear hP
     obtain ⟨Q, hQ⟩ : ∃ Q, Q = dg o (i + k) + P := ⟨_, rfl⟩
     have e2 : IntKind.u64.wrap ((dg o (i + k) : Int) + (P : Int)) = (Q : Int) := by
      rw [IntKind.wrap_u64]; omega
     obtain ⟨R, hR⟩ : ∃ R, R = my o d y i k + Q := ⟨_, rfl⟩
     have e3 : IntKind.u64.wrap ((my o d y i k : Int) + (Q : Int)) = (R : Int) := by
      rw [IntKind.wrap_u64]; omega
     have HR1 := Lib.hid (show (R : Int) % 4294967296 = (dg t (i + k) : Int) by omega)
     have HR2 := Lib.hid (show (R : Int) / 4294967296 = (my o d y i (k + 1) : Int) by omega)
     have HS3 := Lib.hid (mulFn_succ o t i k)
     have e4 : IntKind.i64.wrap ((i : Int) + (k : Int)) = (i : Int) + (k : Int) := IntWalk.i64_in _ (by omega)
     have e5 : (0 : Int) ≤ (i : Int) + (k : Int) := by omega
     have e6 : ((i : Int) + (k : Int)).toNat = i + k := by omega
     have e7 : (i : Int) + (k : Int) < (nx : Int) + (ny : Int) + 1 := by omega
     clear hst hQ hR ht1 hp1
     go_wp2_with fail
     (refine wp_region_exact (by kernel_rfl) (by kernel_rfl) ?_; repeat go_big_quiet_step (fail)); (refine wpQuiet_nil ?_; rintro _ rfl)
     clear e1 e2 e3 e4
     go_wp2_with fail
     refine ⟨⟨k + 1, k3 + 1, by omega, by go_num, by rw [HR2.out], ?_⟩, by simp [intOf]; omega⟩
     rw [HR1.out, arr_set, HS3.out]
    ·have e : k = ny := by omega
     subst e
     have hgo := arr_get .u32 (mulFn o t i k) (nx + k + 1) (i + k) (by omega)
     have hc1 := my_lt o d y i k hdx1
     have HF := Lib.hid (mulFn_all o d y i k (nx + k + 1) HOL.out HYL.out hdx1)
     have HN := Lib.hid (part_mul x y i)
     go_wp2_with fail
     refine ⟨⟨i + 1, k3, by omega, by go_num, ?_⟩, by simp [intOf]; omega⟩
     rw [arr_set, HTT.out, HF.out, HO.out, HD.out, HN.out]
  ·have e : i = nx := by omega
   subst e
   have HA := Lib.hid (Nat.mod_eq_of_lt HXL.out)
   go_wp2_with fail
   rw [HA.out]
   refine (bytes_c (x * y) (i + ny + 1) (i + ny + 1) (w.heap.size + 1 + 1) _ HT.out (by omega) (Nat.le_refl _) (fun j hj => by simp [go_sem, arr_get _ _ _ _ hj]) (by simp [go_sem])).mono ?_
   rintro e w' ⟨rfl, hb⟩
   obtain ⟨u, rfl⟩ := World.plus_of_below hb
   clear hb
   go_wp2_with fail
   go_ret
   exact ⟨rfl, by (exact belA)⟩
theorem mul_c (x y : Nat) (w : World) (hx : (mag x).size ≤ 4294967296) (hy : (mag y).size ≤ 4294967296) :
    Calls Tryz.prog 169 #[.string (mag x), .string (mag y)] w fun e w' => e = .returned (.string (mag (x * y))) ∧ Below w.heap.size w w' := by
 by_cases h8 : fits8 x = true
 ·by_cases h9 : fits8 y = true
  ·by_cases h : x * y < 2 ^ 64
   ·exact mul_small x y w h8 h9 h
   ·exact mul_over x y _ _ w hx hy rfl rfl h8 h9 h
  ·have hb : (fits8 x && fits8 y) = false := by simp at h9; rw [h9]; simp
   exact mul_big x y _ _ w hx hy rfl rfl hb
 ·have hb : (fits8 x && fits8 y) = false := by simp at h8; rw [h8]; simp
  exact mul_big x y _ _ w hx hy rfl rfl hb
end Go.Proofs.YtlblfgbpogljoaaGreatDoor

end
section
/- Plain laws of long division: the guess of a digit, what is taken away, what is added back. No program in sight. -/
namespace Go.Proofs.YtlblfgbpogljoaaGreatDoor
open Go
open Vi
theorem pw (m : Nat) : (4294967296 : Nat) ^ (m + 1) = 4294967296 ^ m * 4294967296 := Nat.pow_succ ..
theorem pw2 (m : Nat) : (4294967296 : Nat) ^ (m + 2) = 4294967296 ^ (m + 1) * 4294967296 := by
 rw [show m + 2 = m + 1 + 1 by omega, pw (m + 1)]
theorem hi_abs (u y p b : Nat) (hp : 0 < p) (hb : 0 < b) (hy : y < p * b) (hu : u < y * b) : u / (p * b) % b * b + u / p % b = u / p := by
 rw [← Nat.div_div_eq_div_mul]
 have h1 : u / p < b * b := by
  rw [Nat.div_lt_iff_lt_mul hp, Nat.mul_comm (b * b), ← Nat.mul_assoc]
  exact Nat.lt_of_lt_of_le hu (Nat.mul_le_mul_right _ (Nat.le_of_lt hy))
 generalize u / p = v at *
 have h2 : v / b < b := (Nat.div_lt_iff_lt_mul hb).2 h1
 rw [Nat.mod_eq_of_lt h2]
 exact Nat.div_add_mod' v b
theorem guess_hi (u y m : Nat) (hy : y < 4294967296 ^ (m + 2)) (hu : u < y * 4294967296) : dg u (m + 2) * 4294967296 + dg u (m + 1) = u / 4294967296 ^ (m + 1) := by
 unfold dg
 rw [pw2] at hy ⊢
 exact hi_abs u y _ 4294967296 (Nat.pow_pos (by omega)) (by omega) hy hu
theorem top_two (y m : Nat) (hy : y < 4294967296 ^ (m + 2)) : y / 4294967296 ^ (m + 1) = dg y (m + 1) := by
 unfold dg
 rw [pw2] at hy
 have := (Nat.div_lt_iff_lt_mul (y := 4294967296) (Nat.pow_pos (n := m + 1) (show 0 < 4294967296 by omega))).2 (by rw [Nat.mul_comm]; exact hy)
 rw [Nat.mod_eq_of_lt this]
theorem small_abs (u y p b : Nat) (hp : 0 < p) (hu : u < y * b) : u / p < y / p * b + b := by
 rw [Nat.div_lt_iff_lt_mul hp]
 have h1 := Nat.lt_mul_div_succ y hp
 have h2 : y * b ≤ p * (y / p + 1) * b := Nat.mul_le_mul_right _ (Nat.le_of_lt h1)
 have e : (y / p * b + b) * p = p * (y / p + 1) * b := by
  rw [← Nat.succ_mul, Nat.mul_right_comm, Nat.mul_comm p]
 omega
theorem guess_small (u y m : Nat) (hy : y < 4294967296 ^ (m + 2)) (hu : u < y * 4294967296) : u / 4294967296 ^ (m + 1) < dg y (m + 1) * 4294967296 + 4294967296 := by
 rw [← top_two y m hy]
 exact small_abs u y _ 4294967296 (Nat.pow_pos (by omega)) hu
theorem guess_start (u y m : Nat) (hy : y < 4294967296 ^ (m + 2)) (h1 : 0 < dg y (m + 1)) : u / y ≤ u / 4294967296 ^ (m + 1) / dg y (m + 1) := by
 rw [Nat.le_div_iff_mul_le h1, Nat.le_div_iff_mul_le (Nat.pow_pos (by omega)), ← top_two y m hy, Nat.mul_assoc]
 have h2 := Nat.div_mul_le_self y (4294967296 ^ (m + 1))
 have h3 := Nat.div_mul_le_self u y
 exact Nat.le_trans (Nat.mul_le_mul_left _ h2) h3
theorem two_digits (z m : Nat) : z / 4294967296 ^ m = dg z m + 4294967296 * (z / 4294967296 ^ (m + 1)) := div_succ z m
theorem guess_step (u y m g r : Nat) (hy : y < 4294967296 ^ (m + 2)) (hy0 : 0 < y) (hu : u < y * 4294967296) (hg : g * dg y (m + 1) + r = u / 4294967296 ^ (m + 1)) (h : 4294967296 ≤ g ∨ r * 4294967296 + dg u m < g * dg y m) : u / y < g := by
 rw [Nat.div_lt_iff_lt_mul hy0]
 rcases h with h | h
 ·have := Nat.mul_le_mul_left y h
  rw [Nat.mul_comm g]; omega
 ·have hp : 0 < 4294967296 ^ m := Nat.pow_pos (by omega)
  have e1 : u / 4294967296 ^ m < g * (y / 4294967296 ^ m) := by
   rw [two_digits u m, two_digits y m, top_two y m hy, ← hg, Nat.mul_add g, Nat.mul_left_comm g]
   generalize g * dg y (m + 1) = a at *
   omega
  have h2 := Nat.lt_mul_div_succ u hp
  have h3 : 4294967296 ^ m * (u / 4294967296 ^ m + 1) ≤ 4294967296 ^ m * (g * (y / 4294967296 ^ m)) := Nat.mul_le_mul_left _ e1
  have h4 : 4294967296 ^ m * (g * (y / 4294967296 ^ m)) ≤ g * y := by
   rw [Nat.mul_left_comm]
   exact Nat.mul_le_mul_left _ (Nat.mul_div_le _ _)
  omega
theorem guess_end (u y m g r : Nat) (hy : y < 4294967296 ^ (m + 2)) (hy1 : 2147483648 ≤ dg y (m + 1)) (hg : g * dg y (m + 1) + r = u / 4294967296 ^ (m + 1)) (hB : g < 4294967296) (h : g * dg y m ≤ r * 4294967296 + dg u m) : g ≤ u / y + 1 := by
 have hp : 0 < 4294967296 ^ m := Nat.pow_pos (by omega)
 cases g with
 | zero => exact Nat.zero_le _
 | succ g =>
  have hy0 : 0 < y := by
   rcases Nat.eq_zero_or_pos y with h0 | h0
   ·subst h0; unfold dg at hy1; simp at hy1
   ·exact h0
  have e1 : (g + 1) * (y / 4294967296 ^ m) ≤ u / 4294967296 ^ m := by
   rw [two_digits u m, two_digits y m, top_two y m hy, ← hg, Nat.mul_add (g + 1), Nat.mul_left_comm (g + 1)]
   generalize (g + 1) * dg y (m + 1) = a at *
   omega
  have h2 := Nat.lt_mul_div_succ y hp
  have h5 : g ≤ y / 4294967296 ^ m := by rw [two_digits y m, top_two y m hy]; omega
  have h3 : g * y ≤ g * (4294967296 ^ m * (y / 4294967296 ^ m + 1)) := Nat.mul_le_mul_left _ (Nat.le_of_lt h2)
  have h4 : g * (y / 4294967296 ^ m + 1) ≤ u / 4294967296 ^ m := by
   rw [Nat.mul_add, Nat.mul_one]
   rw [Nat.add_mul, Nat.one_mul] at e1
   omega
  have h6 : g * y ≤ u := by
   rw [Nat.mul_left_comm] at h3
   have h7 := Nat.mul_le_mul_left (4294967296 ^ m) h4
   have h8 := Nat.mul_div_le u (4294967296 ^ m)
   omega
  have := (Nat.le_div_iff_mul_le hy0).2 h6
  omega
def kT (R V n j : Nat) : Nat := R + 4294967296 ^ (n + 1 + j) - 4294967296 ^ j * V
theorem kT_add (R V n j : Nat) (hV : V ≤ 4294967296 ^ (n + 1)) : kT R V n j + 4294967296 ^ j * V = R + 4294967296 ^ (n + 1 + j) := by
 unfold kT
 have : 4294967296 ^ j * V ≤ 4294967296 ^ j * 4294967296 ^ (n + 1) := Nat.mul_le_mul_left _ hV
 rw [← Nat.pow_add, Nat.add_comm j] at this
 omega
theorem kT_low (R V n j p : Nat) (hV : V ≤ 4294967296 ^ (n + 1)) (hp : p < j) : dg (kT R V n j) p = dg R p := by
 have h : dg (kT R V n j + 4294967296 ^ j * V) p = dg (R + 4294967296 ^ (n + 1 + j)) p := by rw [kT_add R V n j hV]
 rw [dg_add_low _ _ _ _ hp] at h
 rw [h]
 have := dg_add_low R (n + 1 + j) 1 p (by omega)
 rwa [Nat.mul_one] at this
theorem kT_step (R g y n j k : Nat) (hV : g * y ≤ 4294967296 ^ (n + 1)) (hk : k ≤ n) : my (kT R (g * y) n j) g y j k + dg (kT R (g * y) n j) (j + k) + g * dg y k = dg R (j + k) + 4294967296 * my (kT R (g * y) n j) g y j (k + 1) := by
 have h := my_step (kT R (g * y) n j) g y j k
 rw [kT_add R (g * y) n j hV] at h
 have := dg_add_low R (n + 1 + j) 1 (j + k) (by omega)
 rw [Nat.mul_one] at this
 rw [← this]; exact h
def subFn (R T j i : Nat) : Nat → Nat := fun p => if p < j + i then dg T p else dg R p
theorem subFn_at (R T j i : Nat) : subFn R T j i (j + i) = dg R (j + i) := by unfold subFn; rw [if_neg (by omega)]
theorem subFn_succ (R T j i : Nat) : upd (subFn R T j i) (j + i) (dg T (j + i)) = subFn R T j (i + 1) := by
 funext k
 unfold upd subFn
 by_cases h : k = j + i
 ·subst h; rw [if_pos rfl, if_pos (by omega)]
 ·rw [if_neg h]
  by_cases h2 : k < j + i
  ·rw [if_pos h2, if_pos (by omega)]
  ·rw [if_neg h2, if_neg (by omega)]
theorem subFn_low (R V n j : Nat) (hV : V ≤ 4294967296 ^ (n + 1)) : dg R = subFn R (kT R V n j) j 0 := by
 funext p; unfold subFn
 split
 ·exact (kT_low R V n j p hV (by omega)).symm
 ·rfl
theorem dg_mod (x K p : Nat) : dg (x % 4294967296 ^ K) p = if p < K then dg x p else 0 := by
 by_cases h : p < K
 ·rw [if_pos h]
  have h1 := dg_add_low (x % 4294967296 ^ K) K (x / 4294967296 ^ K) p h
  rw [Nat.mod_add_div] at h1
  exact h1.symm
 ·rw [if_neg h]
  exact dg_big _ K p (Nat.mod_lt _ (Nat.pow_pos (by omega))) (by omega)
theorem subFn_top (R T n j : Nat) (hR : R < 4294967296 ^ (j + n + 1)) : subFn R T j (n + 1) = dg (T % 4294967296 ^ (j + n + 1)) := by
 funext p; unfold subFn
 rw [dg_mod]
 by_cases h : p < j + n + 1
 ·rw [if_pos (by omega), if_pos h]
 ·rw [if_neg (by omega), if_neg h, dg_big R _ p hR (by omega)]
theorem kT_last (R g y n j : Nat) (hy : y < 4294967296 ^ n) (hR : R < 4294967296 ^ (j + n + 1)) (hV : g * y ≤ 4294967296 ^ (n + 1)) : my (kT R (g * y) n j) g y j (n + 1) = if R < 4294967296 ^ j * (g * y) then 1 else 0 := by
 have h := kT_add R (g * y) n j hV
 unfold my
 have hyn : y < 4294967296 ^ (n + 1) := Nat.lt_of_lt_of_le hy (Nat.pow_le_pow_right (by omega) (by omega))
 rw [Nat.mod_eq_of_lt hyn, show j + (n + 1) = j + n + 1 by omega]
 rw [show n + 1 + j = j + n + 1 by omega] at h
 have hp : 0 < 4294967296 ^ (j + n + 1) := Nat.pow_pos (by omega)
 generalize 4294967296 ^ (j + n + 1) = M at *
 generalize 4294967296 ^ j * (g * y) = V at *
 generalize kT R (g * y) n j = T at *
 by_cases hlt : R < V
 ·rw [if_pos hlt, Nat.mod_eq_of_lt (by omega), h]
  rw [Nat.add_div_right _ hp, Nat.div_eq_of_lt hR]
 ·rw [if_neg hlt]
  have e : T % M = T - M := by
   rw [Nat.mod_eq_sub_mod (by omega), Nat.mod_eq_of_lt (by omega)]
  rw [e, show T - M + V = R by omega]
  exact Nat.div_eq_of_lt hR
theorem kT_fits (R g y n j : Nat) (hR : R < 4294967296 ^ (j + n + 1)) (hV : g * y ≤ 4294967296 ^ (n + 1)) (h : ¬ R < 4294967296 ^ j * (g * y)) : kT R (g * y) n j % 4294967296 ^ (j + n + 1) = R - 4294967296 ^ j * (g * y) := by
 have h2 := kT_add R (g * y) n j hV
 rw [show n + 1 + j = j + n + 1 by omega] at h2
 generalize 4294967296 ^ (j + n + 1) = M at *
 generalize 4294967296 ^ j * (g * y) = V at *
 generalize kT R (g * y) n j = T at *
 rw [Nat.mod_eq_sub_mod (by omega), Nat.mod_eq_of_lt (by omega)]; omega
theorem kT_over (R g y n j : Nat) (hR : R < 4294967296 ^ (j + n + 1)) (hV : g * y ≤ 4294967296 ^ (n + 1)) (h : R < 4294967296 ^ j * (g * y)) : kT R (g * y) n j < 4294967296 ^ (j + n + 1) := by
 have h2 := kT_add R (g * y) n j hV
 rw [show n + 1 + j = j + n + 1 by omega] at h2
 omega
theorem back_all (R g y n j : Nat) (hR : R < 4294967296 ^ (j + n + 1)) (hV : (g + 1) * y ≤ 4294967296 ^ (n + 1)) (h : R < 4294967296 ^ j * ((g + 1) * y)) (h2 : 4294967296 ^ j * (g * y) ≤ R) : (kT R ((g + 1) * y) n j + 4294967296 ^ j * (1 * y)) % 4294967296 ^ (j + n + 1) = R - 4294967296 ^ j * (g * y) := by
 have h3 := kT_add R ((g + 1) * y) n j hV
 rw [show n + 1 + j = j + n + 1 by omega] at h3
 have e : 4294967296 ^ j * ((g + 1) * y) = 4294967296 ^ j * (g * y) + 4294967296 ^ j * (1 * y) := by rw [← Nat.mul_add, ← Nat.add_mul]
 rw [e] at h3 h
 generalize 4294967296 ^ (j + n + 1) = M at *
 generalize 4294967296 ^ j * (g * y) = V at *
 generalize 4294967296 ^ j * (1 * y) = Y at *
 generalize kT R ((g + 1) * y) n j = T at *
 rw [show T + Y = R - V + M by omega, Nat.add_mod_right, Nat.mod_eq_of_lt (by omega)]
theorem rest_lt (A y j n : Nat) (hy : y < 4294967296 ^ n) (hy0 : 0 < y) : A % (y * 4294967296 ^ (j + 1)) < 4294967296 ^ (j + n + 1) := by
 have h1 : 0 < y * 4294967296 ^ (j + 1) := Nat.mul_pos hy0 (Nat.pow_pos (by omega))
 have h2 := Nat.mod_lt A h1
 have h3 : y * 4294967296 ^ (j + 1) ≤ 4294967296 ^ n * 4294967296 ^ (j + 1) := Nat.mul_le_mul_right _ (Nat.le_of_lt hy)
 rw [← Nat.pow_add, show n + (j + 1) = j + n + 1 by omega] at h3
 omega
theorem rest_u (A y j : Nat) (hy0 : 0 < y) : A % (y * 4294967296 ^ (j + 1)) / 4294967296 ^ j < y * 4294967296 := by
 have h1 : 0 < y * 4294967296 ^ (j + 1) := Nat.mul_pos hy0 (Nat.pow_pos (by omega))
 rw [Nat.div_lt_iff_lt_mul (Nat.pow_pos (by omega)), Nat.mul_assoc, Nat.mul_comm 4294967296, ← Nat.pow_succ]
 exact Nat.mod_lt A h1
theorem rest_q (A y j : Nat) : A % (y * 4294967296 ^ (j + 1)) / 4294967296 ^ j / y = dg (A / y) j := by
 unfold dg
 rw [Nat.pow_succ, ← Nat.mul_assoc, Nat.div_div_eq_div_mul, Nat.mul_comm (4294967296 ^ j) y, Nat.mod_mul_right_div_self, Nat.div_div_eq_div_mul]
theorem rest_next (A y j : Nat) : A % (y * 4294967296 ^ (j + 1)) - 4294967296 ^ j * (dg (A / y) j * y) = A % (y * 4294967296 ^ j) := by
 have h1 : A % (y * 4294967296 ^ (j + 1)) % (y * 4294967296 ^ j) = A % (y * 4294967296 ^ j) := by
  rw [Nat.pow_succ, ← Nat.mul_assoc, Nat.mod_mul_right_mod]
 rw [← rest_q A y j, ← h1, Nat.div_div_eq_div_mul]
 have h2 := Nat.mod_add_div (A % (y * 4294967296 ^ (j + 1))) (y * 4294967296 ^ j)
 have e : 4294967296 ^ j * (A % (y * 4294967296 ^ (j + 1)) / (4294967296 ^ j * y) * y) = y * 4294967296 ^ j * (A % (y * 4294967296 ^ (j + 1)) / (y * 4294967296 ^ j)) := by
  rw [Nat.mul_comm (4294967296 ^ j) y, Nat.mul_comm _ y, Nat.mul_left_comm, Nat.mul_assoc]
 rw [e]; omega
theorem dg_div (R j k : Nat) : dg R (j + k) = dg (R / 4294967296 ^ j) k := by
 unfold dg; rw [Nat.div_div_eq_div_mul, ← Nat.pow_add]
theorem rest_le (A y j : Nat) : 4294967296 ^ j * (dg (A / y) j * y) ≤ A % (y * 4294967296 ^ (j + 1)) := by
 rw [← rest_q A y j, Nat.mul_comm]
 have h1 := Nat.div_mul_le_self (A % (y * 4294967296 ^ (j + 1)) / 4294967296 ^ j) y
 have h2 := Nat.div_mul_le_self (A % (y * 4294967296 ^ (j + 1))) (4294967296 ^ j)
 exact Nat.le_trans (Nat.mul_le_mul_right _ h1) h2
theorem rest_gt (A y j : Nat) (hy0 : 0 < y) : A % (y * 4294967296 ^ (j + 1)) < 4294967296 ^ j * ((dg (A / y) j + 1) * y) := by
 rw [← rest_q A y j, Nat.div_div_eq_div_mul]
 have h := Nat.lt_mul_div_succ (A % (y * 4294967296 ^ (j + 1))) (show 0 < 4294967296 ^ j * y from Nat.mul_pos (Nat.pow_pos (by omega)) hy0)
 generalize A % (y * 4294967296 ^ (j + 1)) = R at *
 generalize R / (4294967296 ^ j * y) = q at *
 generalize 4294967296 ^ j = M at *
 rw [Nat.mul_assoc, Nat.mul_comm y] at h
 exact h
end Go.Proofs.YtlblfgbpogljoaaGreatDoor

end
section
/- The package integer: division by one digit, and shifts by less than a digit. -/
namespace Go.Proofs.YtlblfgbpogljoaaGreatDoor
open Go Go.RowKit
open Vi
theorem short_r (x b i : Nat) : (x / 4294967296 ^ (i + 1) % b * 4294967296 + dg x i) % b = x / 4294967296 ^ i % b := by
 rw [div_succ x i, Nat.add_mod, Nat.mul_mod, Nat.mod_mod, ← Nat.mul_mod, ← Nat.add_mod]
 congr 1
 rw [Nat.mul_comm]; omega
theorem short_q (x b i : Nat) (hb : 0 < b) : (x / 4294967296 ^ (i + 1) % b * 4294967296 + dg x i) / b = dg (x / b) i := by
 have hr := Nat.mod_lt (x / 4294967296 ^ (i + 1)) hb
 have hd := dg_lt x i
 have e1 : x / b / 4294967296 ^ i = x / 4294967296 ^ i / b := by rw [Nat.div_div_eq_div_mul, Nat.div_div_eq_div_mul, Nat.mul_comm]
 have e2 : x / 4294967296 ^ i = b * (4294967296 * (x / 4294967296 ^ (i + 1) / b)) + (x / 4294967296 ^ (i + 1) % b * 4294967296 + dg x i) := by
  have h1 := div_succ x i
  have h2 := Nat.div_add_mod (x / 4294967296 ^ (i + 1)) b
  generalize x / 4294967296 ^ (i + 1) = y at *
  rw [h1, Nat.mul_left_comm]
  have h3 : 4294967296 * y = 4294967296 * (b * (y / b)) + 4294967296 * (y % b) := by rw [← Nat.mul_add, h2]
  omega
 have h3 : (x / 4294967296 ^ (i + 1) % b * 4294967296 + dg x i) / b < 4294967296 := by
  rw [Nat.div_lt_iff_lt_mul hb]
  have : (x / 4294967296 ^ (i + 1) % b + 1) * 4294967296 ≤ b * 4294967296 := Nat.mul_le_mul_right _ hr
  rw [Nat.add_mul] at this
  rw [Nat.mul_comm 4294967296 b]; omega
 generalize x / 4294967296 ^ (i + 1) % b * 4294967296 + dg x i = cur at *
 show cur / b = x / b / 4294967296 ^ i % 4294967296
 rw [e1, e2, Nat.mul_add_div hb, Nat.mul_add_mod, Nat.mod_eq_of_lt h3]
theorem or_shl32 (a b : Nat) (ha : a < 4294967296) (hb : b < 4294967296) : bits BinOp.or .u64 ((a : Int) * 4294967296) (b : Int) = ((a * 4294967296 + b : Nat) : Int) := by
 have e1 : (a : Int) * 4294967296 = ((a * 4294967296 : Nat) : Int) := by omega
 rw [e1, u64_or_nat _ _ (by omega) (by omega), nat_join 32 (a * 4294967296) b (by omega) (by omega)]
def shortFn (x b j : Nat) : Nat → Nat := fun p => if p < j then dg x p else dg (x / b) p
theorem shortFn_top (x b n m : Nat) (hx : x < 4294967296 ^ n) : arr .u32 (dg x) m = arr .u32 (shortFn x b n) m := by
 apply arr_congr; intro i _; unfold shortFn
 split
 ·rfl
 ·rw [dg_big x n i hx (by omega), dg_big (x / b) n i (Nat.lt_of_le_of_lt (Nat.div_le_self x b) hx) (by omega)]
theorem shortFn_at (x b i : Nat) : shortFn x b (i + 1) i = dg x i := by unfold shortFn; rw [if_pos (by omega)]
theorem shortFn_succ (x b i : Nat) : upd (shortFn x b (i + 1)) i (dg (x / b) i) = shortFn x b i := by
 funext k
 unfold upd shortFn
 by_cases h : k = i
 ·subst h; rw [if_pos rfl, if_neg (by omega)]
 ·rw [if_neg h]
  by_cases h2 : k < i
  ·rw [if_pos h2, if_pos (by omega)]
  ·rw [if_neg h2, if_neg (by omega)]
theorem shortFn_zero (x b m : Nat) : arr .u32 (shortFn x b 0) m = arr .u32 (dg (x / b)) m := by
 apply arr_congr; intro i _; unfold shortFn; rw [if_neg (by omega)]
def restD (x b j : Nat) : Nat := x / 4294967296 ^ j % b
theorem restD_top (x b n : Nat) (hx : x < 4294967296 ^ n) : restD x b n = 0 := by unfold restD; rw [Nat.div_eq_of_lt hx]; simp
theorem restD_zero (x b : Nat) : restD x b 0 = x % b := by unfold restD; rw [Nat.pow_zero, Nat.div_one]
def pre (j : Nat) : Int := (j : Int) - 1
set_option maxRecDepth 100000 in
set_option maxHeartbeats 800000 in
theorem short_c (x b n m c g : Nat) (w : World) (hx : x < 4294967296 ^ n) (hn : n ≤ 8589934592) (hnm : n ≤ m) (hg : w.heap[g]? = some (.cells (arr .u32 (dg x) m) 228 (0, 0))) (hb0 : 0 < b) (hb1 : b < 4294967296) :
    Calls Tryz.prog 212 #[.slice (some ⟨g, 0, none⟩) n c, .int .u32 (b : Int)] w fun e w' => e = .returned (.int .u32 ((x % b : Nat) : Int)) ∧ ∃ k, w' = (w.row g 228 (arr .u32 (dg (x / b)) m)).drewN k := by
 have hgl : g < w.heap.size := (Array.getElem?_eq_some_iff.1 hg).1
 have HS := Lib.hid (World.row_self w g 228 _ hg)
 have HT := Lib.hid (shortFn_top x b n m hx)
 have HR := Lib.hid (restD_top x b n hx)
 have hbi : (1 : Int) ≤ (b : Int) := by omega
 clear hg hx
 go_enter Tryz.func212, Tryz.ntmps212
 go_wp2_with fail
 go_loopw [5, 6] (fun r v wr => ∃ j k : Nat, j ≤ n ∧ v = .int .i64 (pre j) ∧ r = .int .u64 (restD x b j : Int) ∧ wr = (w.row g 228 (arr .u32 (shortFn x b j) m)).drewN k) (fun _ v _ => (intOf v + 1).toNat)
 case atStart => exact ⟨n, 0, Nat.le_refl _, rfl, by rw [HR.out]; rfl, by rw [← HT.out, HS.out]; rfl⟩
 case round =>
  obtain ⟨j, k, hj, rfl, rfl, rfl⟩ := hrel
  cases j with
  | zero =>
   have e : pre 0 = -1 := rfl
   have HZ := Lib.hid (shortFn_zero x b m)
   have HZ2 := Lib.hid (restD_zero x b)
   have hlt : restD x b 0 < b := Nat.mod_lt _ hb0
   rw [e]
   clear e
   go_wp2_with fail
   go_ret
   refine ⟨?_, k, by rw [HZ.out]⟩
   rw [← HZ2.out]; rfl
  | succ i =>
   have e : pre (i + 1) = (i : Int) := by unfold pre; omega
   rw [e]
   clear e
   have hlt : restD x b (i + 1) < b := Nat.mod_lt _ hb0
   have hd := dg_lt x i
   have hget := arr_get .u32 (shortFn x b (i + 1)) m i (by omega)
   rw [shortFn_at] at hget
   have hor := or_shl32 (restD x b (i + 1)) (dg x i) (by omega) hd
   obtain ⟨z, hz⟩ : ∃ z, z = restD x b (i + 1) * 4294967296 + dg x i := ⟨_, rfl⟩
   rw [← hz] at hor
   have hq : z / b = dg (x / b) i := by rw [hz]; exact short_q x b i hb0
   have hr : z % b = restD x b i := by rw [hz]; exact short_r x b i
   have HQ := Lib.hid hq
   have HRR := Lib.hid hr
   have HS3 := Lib.hid (shortFn_succ x b i)
   have hzb : z < 18446744073709551616 := by omega
   have hq1 : (z : Int).tdiv (b : Int) = (dg (x / b) i : Int) := by rw [← hq]; exact Int.ofNat_tdiv z b
   have hr1 : (z : Int).tmod (b : Int) = (restD x b i : Int) := by rw [← hr]; exact Int.ofNat_tmod z b
   have hq2 : (z : Int) / (b : Int) = (dg (x / b) i : Int) := by rw [← hq]; rfl
   have hr2 : (z : Int) % (b : Int) = (restD x b i : Int) := by rw [← hr]; rfl
   have hb2 : ((b : Int) == 0) = false := by rw [beq_eq_false_iff_ne]; omega
   have hdq := dg_lt (x / b) i
   clear hz hq hr
   go_wp2_with fail
   go_region
   go_wp2_with fail
   exact ⟨⟨i, k + 1, by omega, rfl, rfl, by rw [arr_set, HS3.out]⟩, by simp [intOf]⟩
def shl (x s i : Nat) : Nat := x % 4294967296 ^ i * 2 ^ s
theorem shl_succ (x s i : Nat) : shl x s (i + 1) = shl x s i + 4294967296 ^ i * (dg x i * 2 ^ s) := by
 unfold shl
 rw [mod_succ, Nat.add_mul, Nat.mul_assoc]
theorem pow_s (s : Nat) (h : s < 32) : ∃ r, 2 ^ s * r = 4294967296 ∧ 0 < r := by
 refine ⟨2 ^ (32 - s), ?_, Nat.pow_pos (by omega)⟩
 rw [← Nat.pow_add, show s + (32 - s) = 32 by omega]
theorem shl_top (x s i : Nat) (h : s < 32) : shl x s i / 4294967296 ^ i < 2 ^ s := by
 unfold shl
 rw [Nat.div_lt_iff_lt_mul (Nat.pow_pos (by omega)), Nat.mul_comm]
 exact Nat.mul_lt_mul_of_pos_left (Nat.mod_lt _ (Nat.pow_pos (by omega))) (Nat.pow_pos (by omega))
theorem shl_join (x s i : Nat) (h : s < 32) : shl x s i / 4294967296 ^ i + dg x i * 2 ^ s % 4294967296 < 4294967296 ∧ dg x i * 2 ^ s % 4294967296 % 2 ^ s = 0 := by
 obtain ⟨r, hr, hr0⟩ := pow_s s h
 have h1 := shl_top x s i h
 have h2 : dg x i * 2 ^ s % 4294967296 = dg x i % r * 2 ^ s := by
  rw [← hr, Nat.mul_comm (2 ^ s) r, Nat.mul_mod_mul_right]
 rw [h2, Nat.mul_mod_left]
 refine ⟨?_, rfl⟩
 have h3 := Nat.mod_lt (dg x i) hr0
 have h4 : (dg x i % r + 1) * 2 ^ s ≤ r * 2 ^ s := Nat.mul_le_mul_right _ h3
 rw [Nat.add_mul, Nat.mul_comm r, hr] at h4
 omega
theorem shl_at (x s i : Nat) (h : s < 32) : dg (shl x s i) i = shl x s i / 4294967296 ^ i := by
 have h1 := (shl_join x s i h).1
 unfold dg
 exact Nat.mod_eq_of_lt (by omega)
theorem shl_dg (x s i : Nat) (h : s < 32) : dg (shl x s (i + 1)) i = dg (shl x s i) i + dg x i * 2 ^ s % 4294967296 := by
 have h1 := (shl_join x s i h).1
 rw [shl_at x s i h, shl_succ]
 unfold dg
 rw [Nat.add_mul_div_left _ _ (Nat.pow_pos (by omega)), ← Nat.add_mod_mod]
 exact Nat.mod_eq_of_lt h1
theorem shl_dg1 (x s i : Nat) (h : s < 32) : dg (shl x s (i + 1)) (i + 1) = dg x i * 2 ^ s / 4294967296 := by
 have h1 := (shl_join x s i h).1
 have hd := dg_lt x i
 have h2 : (2 : Nat) ^ s < 4294967296 := by
  have : (2 : Nat) ^ s < 2 ^ 32 := Nat.pow_lt_pow_right (by omega) h
  omega
 rw [shl_at x s (i + 1) h, shl_succ, Nat.pow_succ, ← Nat.div_div_eq_div_mul, Nat.add_mul_div_left _ _ (Nat.pow_pos (by omega))]
 generalize dg x i * 2 ^ s = z at *
 generalize shl x s i / 4294967296 ^ i = y at *
 omega
theorem shl_other (x s i k : Nat) (h : s < 32) (h1 : k ≠ i) (h2 : k ≠ i + 1) : dg (shl x s (i + 1)) k = dg (shl x s i) k := by
 rcases Nat.lt_or_gt_of_ne h1 with h3 | h3
 ·rw [shl_succ, dg_add_low _ _ _ _ h3]
 ·have e : ∀ j, j ≤ i + 1 → dg (shl x s j) k = 0 := by
    intro j hj
    have h4 : shl x s j < 4294967296 ^ (j + 1) := by
     have h5 := shl_top x s j h
     rw [Nat.div_lt_iff_lt_mul (Nat.pow_pos (by omega))] at h5
     have h6 : (2 : Nat) ^ s ≤ 4294967296 := by
      have : (2 : Nat) ^ s ≤ 2 ^ 32 := Nat.pow_le_pow_right (by omega) (by omega)
      omega
     rw [Nat.pow_succ, Nat.mul_comm]
     exact Nat.lt_of_lt_of_le h5 (Nat.mul_le_mul_right _ h6)
    exact dg_big _ (j + 1) k h4 (by omega)
  rw [e _ (Nat.le_refl _), e _ (by omega)]
theorem shl_rows (x s i n : Nat) (h : s < 32) : arr .u32 (upd (upd (dg (shl x s i)) i (dg (shl x s i) i + dg x i * 2 ^ s % 4294967296)) (i + 1) (dg x i * 2 ^ s / 4294967296)) n = arr .u32 (dg (shl x s (i + 1))) n := by
 apply arr_congr
 intro k _
 unfold upd
 by_cases h2 : k = i + 1
 ·subst h2; rw [if_pos rfl, shl_dg1 x s i h]
 ·rw [if_neg h2]
  by_cases h1 : k = i
  ·subst h1; rw [if_pos rfl, shl_dg x s k h]
  ·rw [if_neg h1, shl_other x s i k h h1 h2]
theorem shl_zero (x s n : Nat) : arr .u32 (fun _ => 0) n = arr .u32 (dg (shl x s 0)) n := by
 apply arr_congr; intro k _; unfold shl; rw [Nat.pow_zero, Nat.mod_one, Nat.zero_mul, dg_zero]
theorem shl_all (x s n : Nat) (hx : x < 4294967296 ^ n) : shl x s n = x * 2 ^ s := by unfold shl; rw [Nat.mod_eq_of_lt hx]
theorem or_low (a b s : Nat) (h : a + b < 4294967296) (ha : a < 2 ^ s) (hb : b % 2 ^ s = 0) : bits BinOp.or .u32 (a : Int) (b : Int) = ((a + b : Nat) : Int) := by
 rw [u32_or_nat _ _ (by omega) (by omega), Nat.or_comm, nat_join s b a hb ha, Nat.add_comm]
set_option maxRecDepth 100000 in
set_option maxHeartbeats 800000 in
theorem shifted_c (x s n c g : Nat) (w : World) (hx : x < 4294967296 ^ n) (hn : n ≤ 4294967296) (hr : Row32 w g n (dg x)) (hg : g < w.heap.size) (hs : s < 32) :
    Calls Tryz.prog 214 #[.slice (some ⟨g, 0, none⟩) n c, .int .i64 (s : Int)] w fun e w' => e = .returned (.slice (some ⟨w.heap.size, 0, none⟩) (n + 1) (n + 1)) ∧ ∃ k, w' = (w.alloc (.cells (arr .u32 (dg (x * 2 ^ s)) (n + 1)) 228)).drewN k := by
 have HMK := Lib.hid (make32s n · (by omega))
 have HZ := Lib.hid (shl_zero x s (n + 1))
 have HA := Lib.hid (shl_all x s n hx)
 have HR := Lib.hid hr
 clear hr hx
 go_enter Tryz.func214, Tryz.ntmps214
 go_wp2_with fail
 have hmk := HMK.out
 simp only [hmk]
 clear hmk
 go_wp2_with fail
 go_loopw [15] (fun v wr => ∃ i : Nat, i ≤ n ∧ v = .int .i64 i ∧ wr = w.alloc (.cells (arr .u32 (dg (shl x s i)) (n + 1)) 228)) (fun v _ => n - (intOf v).toNat)
 case atStart => exact ⟨0, Nat.zero_le _, rfl, by rw [HZ.out]⟩
 case round =>
  obtain ⟨i, hi, rfl, rfl⟩ := hrel
  by_cases hlt : i < n
  ·have hcell := HR.out i hlt
   have hget := arr_get .u32 (dg (shl x s i)) (n + 1) i (by omega)
   have hd := dg_lt x i
   obtain ⟨z, hz⟩ : ∃ z, z = dg x i * 2 ^ s := ⟨_, rfl⟩
   have hz63 : z < 9223372036854775808 := by
    have h1 : (2 : Nat) ^ s ≤ 2 ^ 31 := Nat.pow_le_pow_right (by omega) (by omega)
    rw [hz]
    calc dg x i * 2 ^ s ≤ 4294967295 * 2 ^ 31 := Nat.mul_le_mul (by omega) h1
     _ < 9223372036854775808 := by omega
   have hjn := shl_join x s i hs
   have hor := or_low (dg (shl x s i) i) (z % 4294967296) s (by rw [shl_at x s i hs, hz]; exact hjn.1) (by rw [shl_at x s i hs]; exact shl_top x s i hs) (by rw [hz]; exact hjn.2)
   have HRW := Lib.hid (shl_rows x s i (n + 1) hs)
   rw [← hz] at HRW
   have ez : IntKind.u64.wrap ((dg x i : Int) * 2 ^ s) = (z : Int) := by
    rw [IntKind.wrap_u64, hz, show (2 : Int) ^ s = ((2 ^ s : Nat) : Int) by rw [Int.natCast_pow]; rfl, ← Int.natCast_mul, ← hz]
    omega
   have hget1 := arr_get .u32 (dg (shl x s i)) (n + 1) (i + 1) (by omega)
   clear hjn hz
   go_wp2_with fail
   refine ⟨⟨i + 1, by omega, by go_num, ?_⟩, by simp [intOf]; omega⟩
   have e1 : (z : Int) % 4294967296 = ((z % 4294967296 : Nat) : Int) := rfl
   have e2 : (z : Int) / 4294967296 = ((z / 4294967296 : Nat) : Int) := rfl
   rw [e1, hor, arr_set, e2, arr_set, HRW.out]
  ·have e : i = n := by omega
   subst e
   go_wp2_with fail
   go_ret
   exact ⟨rfl, 0, by rw [HA.out]; rfl⟩
end Go.Proofs.YtlblfgbpogljoaaGreatDoor

end
