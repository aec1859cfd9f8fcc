import Derived.Test.YthdaimoankaciaaGreatDoorProg
import Derived.Test.YthdaimoankaciaaGreatDoorShelf
import Derived.Test.YthdaimoankaciaaGreatDoorBase
/- The package integer: made, magnitude and word return what they should. -/
set_option linter.unusedSimpArgs false
set_option linter.unusedVariables false
namespace Go.Proofs.YthdaimoankaciaaGreatDoor
open Go Go.RowKit
open Vi
theorem len64 (x : Nat) (w : World) (h : x < 2 ^ 64) : Calls Tryz.prog 183 #[.int .u64 x] w fun e w' => e = .returned (.int .i64 ((nd 2 x : Nat) : Int)) ∧ w = w' :=
 (Tryz.bits_Len64 (x : Int) w (by omega) (by omega)).mono fun _ _ ⟨he, hw⟩ => ⟨by rw [he, ← bitLen_nd x h]; rfl, hw.symm⟩
set_option maxHeartbeats 400000 in
theorem made_s (neg : Bool) (s : ByteArray) (w : World) : Calls Tryz.prog 146 #[.bool neg, .string s] w fun e w' => e = .returned (.agg #[.bool (neg && !s.toList.isEmpty), .string s]) ∧ Below w.heap.size w w' := by
 cases neg
 all_goals
  go_enter Tryz.func146, Tryz.ntmps146
  go_wp2
  refine bodyPost_ret (by simp [results, Tryz.results146, go_sem]; rfl) rfl ?_
  exact ⟨rfl, by go_grown⟩
theorem made_c (b : Bool) (z : Int) (n : Nat) (h : z = if b then -(n : Int) else n) (w : World) : Calls Tryz.prog 146 #[.bool b, .string (mag n)] w fun e w' => e = .returned (.agg #[.bool (sg z), .string (mg z)]) ∧ Below w.heap.size w w' := by
 rw [← made_int b z n h]; exact made_s b (mag n) w
def magByte (u n p : Nat) : Nat := u / 256 ^ (n - 1 - p) % 256
def magCells (u n j : Nat) : Array Value := ((List.range 8).map fun p => if p < n ∧ n ≤ p + j then Value.int .u8 (magByte u n p : Int) else .int .u8 0).toArray
theorem magCells_get (u n j p : Nat) (hp : p < 8) : (magCells u n j)[p]? = some (if p < n ∧ n ≤ p + j then Value.int .u8 (magByte u n p : Int) else .int .u8 0) := by
 unfold magCells; simp [hp]
theorem magCells_zero (u n : Nat) : magCells u n 0 = #[Value.int .u8 0, Value.int .u8 0, Value.int .u8 0, Value.int .u8 0, Value.int .u8 0, Value.int .u8 0, Value.int .u8 0, Value.int .u8 0] := by
 unfold magCells
 rw [List.map_congr_left (g := fun _ => Value.int .u8 0) (fun p _ => by rw [if_neg (by omega)])]
 rfl
theorem magCells_succ (u n j : Nat) (hn : n ≤ 8) (hj : j < n) : (magCells u n j).setIfInBounds (n - 1 - j) (.int .u8 (magByte u n (n - 1 - j) : Int)) = magCells u n (j + 1) := by
 apply Array.ext_getElem?
 intro p
 rw [Array.getElem?_setIfInBounds]
 by_cases hp : p < 8
 ·rw [magCells_get u n (j + 1) p hp]
  by_cases he : n - 1 - j = p
  ·subst he
   rw [if_pos rfl, if_pos (by unfold magCells; simp; omega), if_pos (by omega)]
  ·rw [if_neg he, magCells_get u n j p hp]
   by_cases h2 : p < n ∧ n ≤ p + j
   ·rw [if_pos h2, if_pos (by omega)]
   ·rw [if_neg h2, if_neg (by omega)]
 ·have hne : ¬ n - 1 - j = p := by omega
  rw [if_neg hne]
  have e : ∀ j, (magCells u n j)[p]? = none := fun j => by unfold magCells; simp; omega
  rw [e, e]
theorem nd_bits (x : Nat) (h : 0 < x) : nd 256 x = (nd 2 x + 7) / 8 := by
 have h1 := pow_nd_le 2 (by omega) x h
 have h2 := lt_pow_nd 2 (by omega) x
 have h3 := nd_pos 2 (by omega) x h
 have e : (nd 2 x + 7) / 8 = (nd 2 x - 1) / 8 + 1 := by omega
 rw [e]
 apply nd_of_bounds 256 (by omega)
 ·have : (256 : Nat) ^ ((nd 2 x - 1) / 8) ≤ 2 ^ (nd 2 x - 1) := by
    rw [show (256 : Nat) = 2 ^ 8 from rfl, ← Nat.pow_mul]
    exact Nat.pow_le_pow_right (by omega) (by omega)
  omega
 ·have : (2 : Nat) ^ nd 2 x ≤ 256 ^ ((nd 2 x - 1) / 8 + 1) := by
    rw [show (256 : Nat) = 2 ^ 8 from rfl, ← Nat.pow_mul]
    exact Nat.pow_le_pow_right (by omega) (by omega)
  omega
theorem magByte_int (x n j : Nat) (h : j < n) : (x : Int) / 2 ^ (8 * j) % 256 = (magByte x n (n - 1 - j) : Int) := by
 unfold magByte
 rw [show n - 1 - (n - 1 - j) = j by omega, Int.pow_mul]
 simp
theorem mag_convert (x : Nat) (w : World) (src dst e : TypeId) (hs : Tryz.prog.underlying src = some (.slice e)) (he : Tryz.prog.underlying e = some (.int .u8)) (hd : Tryz.prog.underlying dst = some .string) (n : Nat) (hn : n = nd 256 x) (h8 : n ≤ 8) :
    (convert src dst (.slice (some ⟨w.heap.size, 0, none⟩) n 8)).run Tryz.prog (w.alloc (.cells (magCells x n n) 179)) = .ok (.string (mag x)) (w.alloc (.cells (magCells x n n) 179)) := by
 subst hn
 have hlen : (((dig 256 x).reverse.map fun d : Nat => (d : Int))).length = nd 256 x := by simp [nd]
 have := run_convert_bytes_arg (P := Tryz.prog) (w.alloc (.cells (magCells x (nd 256 x) (nd 256 x)) 179)) src e hs he w.heap.size 0 (nd 256 x) 8 ((dig 256 x).reverse.map fun d : Nat => (d : Int)) hlen (fun i hi => by
  rw [Nat.zero_add, World.cell?_alloc_at _ _ _ _ rfl, magCells_get x _ _ i (by omega), if_pos (by omega)]
  have e1 : i < (dig 256 x).reverse.length := by rw [List.length_reverse]; exact hi
  have e2 : ((dig 256 x).reverse.map fun d : Nat => (d : Int)).getD i 0 = (((dig 256 x).getD (nd 256 x - 1 - i) 0 : Nat) : Int) := by
   rw [List.getD_eq_getElem?_getD, List.getElem?_map, List.getElem?_reverse (by simpa using e1), List.getD_eq_getElem?_getD]
   show Option.getD (Option.map _ (dig 256 x)[nd 256 x - 1 - i]?) 0 = _
   cases (dig 256 x)[nd 256 x - 1 - i]? <;> rfl
  rw [e2, dig_getD 256 (by omega)]; rfl) dst hd
 rw [this]
 have e : strOfNums ((dig 256 x).reverse.map fun d : Nat => (d : Int)) = mag x := by
  unfold strOfNums mag
  rw [List.map_map, List.map_reverse]; rfl
 rw [e]
theorem slice8 (b n : Nat) (hn : n ≤ 8) (w : World) : (Instr.sliceAt 179 (.pointer (some ⟨b, 0, none⟩)) none (some (.int .i64 (n : Int))) none).run Tryz.prog w = .ok (.slice (some ⟨b, 0, none⟩) n 8) w := by
 have hl : Tryz.prog.arrayLen 179 = 8 := by kernel_rfl
 have ht : Tryz.prog.underlying 179 = some (.array (Tryz.prog.arrayLen 179) (Tryz.prog.elem 179)) := by kernel_rfl
 have hs : (sizeOf (Tryz.prog.elem 179)).run Tryz.prog w = .ok 1 w := by kernel_rfl
 rw [run_sliceAt_array_h w 179 ⟨b, 0, none⟩ ht .i64 n (by omega) (by rw [hl]; omega), hs, hl]
 simp [slicedAt, Addr.add]
set_option maxRecDepth 100000 in
set_option maxHeartbeats 400000 in
theorem magnitude_c (x : Nat) (w : World) (h : x < 2 ^ 64) : Calls Tryz.prog 152 #[.int .u64 x] w fun e w' => e = .returned (.string (mag x)) ∧ Below w.heap.size w w' := by
 by_cases h0 : x = 0
 ·subst h0
  go_enter Tryz.func152, Tryz.ntmps152
  go_wp2
  go_ret
  exact ⟨rfl, Below.refl _ _⟩
 ·have hb : ((x : Int) == 0) = false := by rw [beq_eq_false_iff_ne]; omega
  have hn : nd 2 x ≤ 64 := nd_le 2 (by omega) x 64 h
  have hn1 : 0 < nd 2 x := nd_pos 2 (by omega) x (by omega)
  have hn8 : ((nd 2 x : Int) + 7) / 8 = (nd 256 x : Int) := by rw [nd_bits x (by omega)]; omega
  have hn2 : nd 256 x ≤ 8 := by rw [nd_bits x (by omega)]; omega
  have H0 := Lib.hid (magCells_zero x (nd 256 x))
  go_enter Tryz.func152, Tryz.ntmps152
  go_wp2_with (go_at_call 183; refine (len64 x _ h).mono ?_; rintro e w' ⟨rfl, rfl⟩)
  rw [hn8]
  clear hn8
  go_loopw [13] (fun k wr => ∃ j : Nat, j ≤ nd 256 x ∧ k = .int .i64 j ∧ wr = w.alloc (.cells (magCells x (nd 256 x) j) 179)) (fun k _ => nd 256 x - (intOf k).toNat)
  case atStart => exact ⟨0, Nat.zero_le _, rfl, by rw [H0.out]⟩
  case round =>
   obtain ⟨j, hj, rfl, rfl⟩ := hrel
   by_cases hlt : j < nd 256 x
   ·have hg := magCells_get x (nd 256 x) j (nd 256 x - 1 - j) (by omega)
    rw [if_neg (by omega)] at hg
    have H1 := Lib.hid (magCells_succ x (nd 256 x) j hn2 hlt)
    go_wp2
    refine ⟨⟨j + 1, by omega, by go_num, ?_⟩, by simp [intOf]; omega⟩
    rw [← H1.out, magByte_int x (nd 256 x) j hlt]
   ·have e : j = nd 256 x := by omega
    subst e
    have hsl := slice8 w.heap.size (nd 256 x) hn2
    have hcv := mag_convert x w 157 9 5 Tryz.underlying157 Tryz.underlying5 Tryz.underlying9 (nd 256 x) rfl hn2
    go_wp2
    go_ret
    exact ⟨rfl, by go_grown⟩
def topB (x n j : Nat) : Nat := x / 256 ^ (n - j)
theorem topB_zero (x n : Nat) (h : x < 256 ^ n) : topB x n 0 = 0 := Nat.div_eq_of_lt h
theorem topB_all (x n : Nat) : topB x n n = x := by unfold topB; rw [Nat.sub_self, Nat.pow_zero, Nat.div_one]
theorem topB_succ (x n j : Nat) (h : j < n) : topB x n (j + 1) = topB x n j * 256 + x / 256 ^ (n - 1 - j) % 256 := by
 unfold topB
 rw [show n - j = (n - 1 - j) + 1 by omega, show n - (j + 1) = n - 1 - j by omega, Nat.pow_succ, ← Nat.div_div_eq_div_mul]
 omega
theorem topB_lt (x n j : Nat) (h : x < 256 ^ n) (hj : j ≤ n) : topB x n j < 256 ^ j := by
 unfold topB
 rw [Nat.div_lt_iff_lt_mul (Nat.pow_pos (by omega)), ← Nat.pow_add, show j + (n - j) = n by omega]
 exact h
theorem or_shl8 (a b : Nat) (ha : a < 256 ^ 7) (hb : b < 256) : bits BinOp.or .u64 (IntKind.u64.wrap ((a : Int) * 256)) (IntKind.u64.wrap (b : Int)) = ((a * 256 + b : Nat) : Int) := by
 rw [IntKind.wrap_u64, IntKind.wrap_u64]
 have e1 : (a : Int) * 256 % 18446744073709551616 = ((a * 256 : Nat) : Int) := by omega
 have e2 : (b : Int) % 18446744073709551616 = (b : Int) := by omega
 rw [e1, e2, u64_or_nat _ _ (by omega) (by omega), nat_join 8 (a * 256) b (by omega) (by omega)]
set_option maxHeartbeats 400000 in
theorem word_c (x : Nat) (w : World) (h8 : (mag x).size ≤ 8) : Calls Tryz.prog 196 #[.string (mag x)] w fun e w' => e = .returned (.tuple #[.int .u64 x, .bool true]) ∧ w = w' := by
 have hx := lt_of_size_mag x _ (Nat.le_refl _)
 have H0 := Lib.hid (topB_zero x _ hx)
 go_enter Tryz.func196, Tryz.ntmps196
 go_wp2
 go_loop [4, 5, 11] (fun u i k => ∃ j : Nat, j ≤ (mag x).size ∧ k = .int .i64 j ∧ u = .int .u64 (topB x (mag x).size j : Nat)) (fun _ _ k => (mag x).size - (intOf k).toNat)
 case atStart => exact ⟨0, Nat.zero_le _, rfl, by rw [H0.out]; rfl⟩
 case round =>
  obtain ⟨j, hj, rfl, rfl⟩ := hrel
  by_cases hlt : j < (mag x).size
  ·have H1 := Lib.hid (topB_succ x (mag x).size j hlt)
   have H2 := Lib.hid (get_mag x j hlt)
   have H3 := Lib.hid (topB_lt x (mag x).size j hx hj)
   go_wp2
   refine ⟨⟨j + 1, by omega, by go_num, ?_⟩, by simp [intOf]; omega⟩
   have h256 : (256 : Nat) ^ j ≤ 256 ^ 7 := Nat.pow_le_pow_right (by omega) (by omega)
   rw [or_shl8 _ _ (Nat.lt_of_lt_of_le H3.out h256) (by rw [H2.out]; omega), H2.out, H1.out]
  ·have e : j = (mag x).size := by omega
   subst e
   have H4 := Lib.hid (topB_all x (mag x).size)
   go_wp2
   go_ret2
   simp [H4.out]
def fits8 (x : Nat) : Bool := decide ((mag x).size ≤ 8)
def wv (x : Nat) : Nat := if fits8 x then x else 0
theorem fits8_iff (x : Nat) : fits8 x = decide (x < 2 ^ 64) := by
 unfold fits8
 rw [decide_eq_decide]
 constructor
 ·intro h; have := lt_of_size_mag x 8 h; omega
 ·intro h; exact size_mag_le x 8 (by omega)
theorem wv_lt (x : Nat) : wv x < 2 ^ 64 := by
 unfold wv
 split
 ·rename_i h; rw [fits8_iff] at h; simpa using h
 ·omega
theorem wv_of (x : Nat) (h : fits8 x = true) : wv x = x := by unfold wv; rw [if_pos h]
theorem size_max (x : Nat) (h : x < 256 ^ 4294967296) : (mag x).size ≤ 4294967296 := size_mag_le x _ h
set_option maxHeartbeats 400000 in
theorem word_any (x : Nat) (w : World) (hx : (mag x).size ≤ 4294967296) : Calls Tryz.prog 196 #[.string (mag x)] w fun e w' => e = .returned (.tuple #[.int .u64 (wv x : Int), .bool (fits8 x)]) ∧ w = w' := by
 by_cases h8 : (mag x).size ≤ 8
 ·have h : fits8 x = true := by unfold fits8; simpa using h8
  rw [wv_of x h, h]
  exact word_c x w h8
 ·have h : fits8 x = false := by unfold fits8; simpa using h8
  have e : wv x = 0 := by unfold wv; rw [h]; rfl
  rw [e, h]
  have h9 : (8 : Int) < ((mag x).size : Int) := by omega
  go_enter Tryz.func196, Tryz.ntmps196
  go_wp2
  go_ret2
  simp
set_option maxHeartbeats 400000 in
theorem words_c (x y : Nat) (w : World) (hx : (mag x).size ≤ 4294967296) (hy : (mag y).size ≤ 4294967296) : Calls Tryz.prog 176 #[.string (mag x), .string (mag y)] w fun e w' => e = .returned (.tuple #[.int .u64 (wv x : Int), .int .u64 (wv y : Int), .bool (fits8 x && fits8 y)]) ∧ w = w' := by
 cases h1 : fits8 x
 all_goals
  have H := Lib.hid h1
  clear h1
  go_enter Tryz.func176, Tryz.ntmps176
  go_wp2_with fail
  refine (word_any x _ hx).mono ?_
  rintro e w' ⟨rfl, rfl⟩
  rw [H.out]
  go_wp2_with fail
  refine (word_any y _ hy).mono ?_
  rintro e w' ⟨rfl, rfl⟩
  go_wp2_with fail
  go_ret3
  simp
theorem u64_of_nat (n : Nat) (h : n < 2 ^ 64) : IntKind.u64.wrap (n : Int) = (n : Int) := by rw [IntKind.wrap_u64]; omega
set_option maxHeartbeats 400000 in
theorem FromInt_c (n : Int) (w : World) (h1 : -9223372036854775808 ≤ n) (h2 : n ≤ 9223372036854775807) : Calls Tryz.prog 110 #[.int .i64 n] w fun e w' => e = .returned (.agg #[.bool (sg n), .string (mg n)]) ∧ Below w.heap.size w w' := by
 by_cases hn : n < 0
 ·obtain ⟨m, hm⟩ : ∃ m : Nat, n = -(m : Int) := ⟨n.natAbs, by omega⟩
  have hm1 : m < 2 ^ 64 := by omega
  have hd : decide (n < 0) = true := by simpa using hn
  have hu : IntKind.u64.wrap (-(IntKind.u64.wrap n)) = (m : Int) := by
   rw [IntKind.wrap_u64, IntKind.wrap_u64, hm]; omega
  have H := Lib.hid hm
  clear hm
  go_enter Tryz.func110, Tryz.ntmps110
  (go_wp2_with fail; refine (magnitude_c m _ hm1).mono ?_; rintro e w' ⟨rfl, hb⟩; (first | (with_reducible (have hb2 := World.plus_of_below ((World.below_plus _ _).trans (hb.mono (World.size_plus _ _)))); obtain ⟨u, rfl⟩ := hb2) | (obtain ⟨u, rfl⟩ := World.plus_of_below hb)); clear hb)
  (go_wp2_with fail; refine (made_c _ n m (by rw [H.out]; rfl) _).mono ?_; rintro e w' ⟨rfl, hb⟩; (first | (with_reducible (have hb2 := World.plus_of_below ((World.below_plus _ _).trans (hb.mono (World.size_plus _ _)))); obtain ⟨u, rfl⟩ := hb2) | (obtain ⟨u, rfl⟩ := World.plus_of_below hb)); clear hb)
  go_wp2_with fail
  refine bodyPost_ret (by simp [results, Tryz.results110, go_sem]; rfl) rfl ?_
  exact ⟨rfl, by (repeat' (first | (with_reducible first | exact Below.refl _ _ | assumption | refine Below.plus0 ?_ _ | refine Below.alloc0 ?_ _ | refine Below.plus ?_ ?_ _ | refine Below.alloc ?_ ?_ _ | refine Below.drew ?_ | refine Below.drewN ?_ _) | (simp [go_sem]; done) | (simp [go_sem]; omega)))⟩
 ·obtain ⟨m, rfl⟩ : ∃ m : Nat, n = (m : Int) := ⟨n.natAbs, by omega⟩
  have hm1 : m < 2 ^ 64 := by omega
  have hd : decide ((m : Int) < 0) = false := by simp
  have hu : IntKind.u64.wrap (m : Int) = (m : Int) := u64_of_nat m hm1
  go_enter Tryz.func110, Tryz.ntmps110
  (go_wp2_with fail; refine (magnitude_c m _ hm1).mono ?_; rintro e w' ⟨rfl, hb⟩; (first | (with_reducible (have hb2 := World.plus_of_below ((World.below_plus _ _).trans (hb.mono (World.size_plus _ _)))); obtain ⟨u, rfl⟩ := hb2) | (obtain ⟨u, rfl⟩ := World.plus_of_below hb)); clear hb)
  (go_wp2_with fail; refine (made_c _ (m : Int) m rfl _).mono ?_; rintro e w' ⟨rfl, hb⟩; (first | (with_reducible (have hb2 := World.plus_of_below ((World.below_plus _ _).trans (hb.mono (World.size_plus _ _)))); obtain ⟨u, rfl⟩ := hb2) | (obtain ⟨u, rfl⟩ := World.plus_of_below hb)); clear hb)
  go_wp2_with fail
  refine bodyPost_ret (by simp [results, Tryz.results110, go_sem]; rfl) rfl ?_
  exact ⟨rfl, by (repeat' (first | (with_reducible first | exact Below.refl _ _ | assumption | refine Below.plus0 ?_ _ | refine Below.alloc0 ?_ _ | refine Below.plus ?_ ?_ _ | refine Below.alloc ?_ ?_ _ | refine Below.drew ?_ | refine Below.drewN ?_ _) | (simp [go_sem]; done) | (simp [go_sem]; omega)))⟩
theorem cmpCompare (x y : Int) (w : World) : Calls Tryz.prog 181 #[.int .i64 x, .int .i64 y] w fun e w' => e = .returned (.int .i64 (Lib.compareInt x y)) ∧ w = w' :=
 (Tryz.cmp_Compare_int x y w).mono fun _ _ ⟨he, hw⟩ => ⟨he, hw.symm⟩
theorem strCompare (a b : ByteArray) (w : World) : Calls Tryz.prog 182 #[.string a, .string b] w fun e w' => e = .returned (.int .i64 (Lib.compareBytes a.data.toList b.data.toList)) ∧ w = w' :=
 (Tryz.strings_Compare a b w).mono fun _ _ ⟨he, hw⟩ => ⟨he, hw.symm⟩
set_option maxHeartbeats 400000 in
theorem cmpOr_c (x y : Int) (w : World) (g c : Nat) (h0 : w.cell? ⟨g, 0, none⟩ = some (.int .i64 x)) (h1 : w.cell? ⟨g, 1, none⟩ = some (.int .i64 y)) : Calls Tryz.prog 180 #[.slice (some ⟨g, 0, none⟩) 2 c] w fun e w' => e = .returned (.int .i64 (if x ≠ 0 then x else y)) ∧ w = w' := by
 by_cases hx : x = 0
 ·have hb : (x != 0) = false := by simp [hx]
  have H := Lib.hid hx
  clear hx
  by_cases hy : y = 0
  ·have hb2 : (y != 0) = false := by simp [hy]
   have H2 := Lib.hid hy
   clear hy
   go_enter Tryz.func180, Tryz.ntmps180
   go_wp2
   go_rounds 3
   go_ret
   simp [H.out, H2.out]
  ·have hb2 : (y != 0) = true := by simp [hy]
   go_enter Tryz.func180, Tryz.ntmps180
   go_wp2
   go_rounds 3
   go_ret
   simp [H.out]
 ·have hb : (x != 0) = true := by simp [hx]
  go_enter Tryz.func180, Tryz.ntmps180
  go_wp2
  go_rounds 3
  go_ret
  simp [hx]
set_option maxHeartbeats 400000 in
theorem compare_c (x y : Nat) (w : World) (hx : (mag x).size ≤ 4294967296) (hy : (mag y).size ≤ 4294967296) : Calls Tryz.prog 150 #[.string (mag x), .string (mag y)] w fun e w' => e = .returned (.int .i64 (cmpN x y)) ∧ Below w.heap.size w w' := by
 have H := Lib.hid (compare_mag x y)
 go_enter Tryz.func150, Tryz.ntmps150
 go_wp2_with (first | (go_at_call 181; refine (cmpCompare _ _ _).mono ?_; rintro e w' ⟨rfl, rfl⟩) | (go_at_call 182; refine (strCompare _ _ _).mono ?_; rintro e w' ⟨rfl, rfl⟩))
 refine (cmpOr_c (Lib.compareInt ((mag x).size : Int) ((mag y).size : Int)) (Lib.compareBytes (mag x).data.toList (mag y).data.toList) _ _ _ (by simp [go_sem]) (by simp [go_sem])).mono ?_
 rintro e w' ⟨rfl, rfl⟩
 rw [H.out]
 go_wp2_with fail
 go_ret
 exact ⟨rfl, by (repeat' (first | (with_reducible first | exact Below.refl _ _ | assumption | refine Below.plus0 ?_ _ | refine Below.alloc0 ?_ _ | refine Below.plus ?_ ?_ _ | refine Below.alloc ?_ ?_ _ | refine Below.drew ?_ | refine Below.drewN ?_ _) | (simp [go_sem]; done) | (simp [go_sem]; omega)))⟩
theorem sg_true (x : Int) (h : x < 0) : sg x = true := by unfold sg; simpa using h
theorem sg_false (x : Int) (h : 0 ≤ x) : sg x = false := by unfold sg; simpa using h
theorem mg_e (x : Int) : (mg x).toList.isEmpty = (x == 0) := mg_isEmpty x
set_option maxHeartbeats 400000 in
theorem Sign_c (x : Int) (w : World) : Calls Tryz.prog 136 #[.agg #[.bool (sg x), .string (mg x)]] w fun e w' => e = .returned (.int .i64 (cmpI x 0)) ∧ Below w.heap.size w w' := by
 have he := mg_isEmpty x
 by_cases h0 : x = 0
 ·rw [show cmpI x 0 = 0 by rw [h0]; rfl]
  have he2 : (mg x).toList.isEmpty = true := by rw [he, h0]; rfl
  clear he h0
  go_enter Tryz.func136, Tryz.ntmps136
  go_wp2
  go_ret
  exact ⟨rfl, by (repeat' (first | (with_reducible first | exact Below.refl _ _ | assumption | refine Below.plus0 ?_ _ | refine Below.alloc0 ?_ _ | refine Below.plus ?_ ?_ _ | refine Below.alloc ?_ ?_ _ | refine Below.drew ?_ | refine Below.drewN ?_ _) | (simp [go_sem]; done) | (simp [go_sem]; omega)))⟩
 ·have he2 : (mg x).toList.isEmpty = false := by rw [he]; simpa using h0
  clear he
  by_cases h1 : x < 0
  ·rw [show cmpI x 0 = -1 by unfold cmpI; rw [if_pos h1]]
   have hs := sg_true x h1
   go_enter Tryz.func136, Tryz.ntmps136
   go_wp2
   go_ret
   exact ⟨rfl, by (repeat' (first | (with_reducible first | exact Below.refl _ _ | assumption | refine Below.plus0 ?_ _ | refine Below.alloc0 ?_ _ | refine Below.plus ?_ ?_ _ | refine Below.alloc ?_ ?_ _ | refine Below.drew ?_ | refine Below.drewN ?_ _) | (simp [go_sem]; done) | (simp [go_sem]; omega)))⟩
  ·rw [show cmpI x 0 = 1 by unfold cmpI; rw [if_neg h1, if_neg h0]]
   have hs := sg_false x (by omega)
   go_enter Tryz.func136, Tryz.ntmps136
   go_wp2
   go_ret
   exact ⟨rfl, by (repeat' (first | (with_reducible first | exact Below.refl _ _ | assumption | refine Below.plus0 ?_ _ | refine Below.alloc0 ?_ _ | refine Below.plus ?_ ?_ _ | refine Below.alloc ?_ ?_ _ | refine Below.drew ?_ | refine Below.drewN ?_ _) | (simp [go_sem]; done) | (simp [go_sem]; omega)))⟩
theorem nAbs_of_neg (x : Int) (h : x < 0) : (x.natAbs : Int) = -x := by omega
theorem nAbs_of_nonneg (x : Int) (h : 0 ≤ x) : (x.natAbs : Int) = x := by omega
theorem cmpI_abs (x y : Int) (h : sg x = sg y) : cmpI x y = if sg x then - cmpN x.natAbs y.natAbs else cmpN x.natAbs y.natAbs := by
 rw [← cmpI_nat]
 cases hs : sg x
 ·have h1 : ¬ x < 0 := by unfold sg at hs; simpa using hs
  have h2 : ¬ y < 0 := by rw [h] at hs; unfold sg at hs; simpa using hs
  rw [nAbs_of_nonneg x (by omega), nAbs_of_nonneg y (by omega)]; rfl
 ·have h1 : x < 0 := by unfold sg at hs; simpa using hs
  have h2 : y < 0 := by rw [h] at hs; unfold sg at hs; simpa using hs
  rw [nAbs_of_neg x h1, nAbs_of_neg y h2]
  simp only [if_true]
  unfold cmpI
  repeat' split
  all_goals omega
theorem cmp_sign (x y : Int) (h : sg x ≠ sg y) : Lib.compareInt (cmpI x 0) (cmpI y 0) = cmpI x y := by
 unfold sg at h
 rw [ne_eq, decide_eq_decide] at h
 unfold Lib.compareInt cmpI
 repeat' split
 all_goals omega
theorem wrap_neg_cmp (x y : Nat) : IntKind.i64.wrap (-cmpN x y) = -cmpN x y := by
 unfold cmpN; repeat' split
 all_goals rfl
set_option maxHeartbeats 400000 in
theorem Compare_c (x y : Int) (w : World) (hx : (mg x).size ≤ 4294967296) (hy : (mg y).size ≤ 4294967296) : Calls Tryz.prog 161 #[.agg #[.bool (sg x), .string (mg x)], .agg #[.bool (sg y), .string (mg y)]] w fun e w' => e = .returned (.int .i64 (cmpI x y)) ∧ Below w.heap.size w w' := by
 by_cases h : sg x = sg y
 ·have H := Lib.hid (cmpI_abs x y h)
  have hw := wrap_neg_cmp x.natAbs y.natAbs
  cases hs : sg x
  ·have hs2 : sg y = false := by rw [← h]; exact hs
   clear h
   go_enter Tryz.func161, Tryz.ntmps161
   (go_wp2_with fail; refine (compare_c x.natAbs y.natAbs _ hx hy).mono ?_; rintro e w' ⟨rfl, hb⟩; (first | (with_reducible (have hb2 := World.plus_of_below ((World.below_plus _ _).trans (hb.mono (World.size_plus _ _)))); obtain ⟨u, rfl⟩ := hb2) | (obtain ⟨u, rfl⟩ := World.plus_of_below hb)); clear hb)
   go_wp2_with fail
   go_ret
   refine ⟨?_, by (repeat' (first | (with_reducible first | exact Below.refl _ _ | assumption | refine Below.plus0 ?_ _ | refine Below.alloc0 ?_ _ | refine Below.plus ?_ ?_ _ | refine Below.alloc ?_ ?_ _ | refine Below.drew ?_ | refine Below.drewN ?_ _) | (simp [go_sem]; done) | (simp [go_sem]; omega)))⟩
   rw [H.out, hs]; rfl
  ·have hs2 : sg y = true := by rw [← h]; exact hs
   clear h
   go_enter Tryz.func161, Tryz.ntmps161
   (go_wp2_with fail; refine (compare_c x.natAbs y.natAbs _ hx hy).mono ?_; rintro e w' ⟨rfl, hb⟩; (first | (with_reducible (have hb2 := World.plus_of_below ((World.below_plus _ _).trans (hb.mono (World.size_plus _ _)))); obtain ⟨u, rfl⟩ := hb2) | (obtain ⟨u, rfl⟩ := World.plus_of_below hb)); clear hb)
   go_wp2_with fail
   go_ret
   refine ⟨?_, by (repeat' (first | (with_reducible first | exact Below.refl _ _ | assumption | refine Below.plus0 ?_ _ | refine Below.alloc0 ?_ _ | refine Below.plus ?_ ?_ _ | refine Below.alloc ?_ ?_ _ | refine Below.drew ?_ | refine Below.drewN ?_ _) | (simp [go_sem]; done) | (simp [go_sem]; omega)))⟩
   rw [H.out, hs]; rfl
 ·have H := Lib.hid (cmp_sign x y h)
  have hb : (!sg x == sg y) = true := by simp [h]
  clear h
  go_enter Tryz.func161, Tryz.ntmps161
  go_wp2_with fail
  ((first | (with_reducible refine wp_region_steady_plus (by kernel_rfl) (by kernel_rfl) ?_) | refine wp_region_steady (by kernel_rfl) (by kernel_rfl) ?_); repeat go_big_quiet_step (first | (go_at_call_of 136 (Value.agg #[.bool (sg x), .string (mg x)]); refine Calls.steady (Sign_c x _)) | (go_at_call_of 136 (Value.agg #[.bool (sg y), .string (mg y)]); refine Calls.steady (Sign_c y _)) | (go_at_call 181; refine Calls.same_steady (cmpCompare _ _ _)))); (refine wpQuiet_nil ?_; rintro _ ⟨u, rfl⟩)
  go_wp2_with fail
  go_ret
  refine ⟨?_, by (repeat' (first | (with_reducible first | exact Below.refl _ _ | assumption | refine Below.plus0 ?_ _ | refine Below.alloc0 ?_ _ | refine Below.plus ?_ ?_ _ | refine Below.alloc ?_ ?_ _ | refine Below.drew ?_ | refine Below.drewN ?_ _) | (simp [go_sem]; done) | (simp [go_sem]; omega)))⟩
  rw [H.out]; rfl
def topByte (n : Nat) : Nat := n / 256 ^ (nd 256 n - 1)
theorem get_first (n : Nat) (h : 0 < n) : ∃ hp : 0 < (mag n).size, (((mag n)[0]'hp).toNat) = topByte n ∧ topByte n < 256 := by
 unfold topByte
 have hp : 0 < (mag n).size := by rw [size_mag]; exact nd_pos 256 (by omega) n h
 have h2 : n / 256 ^ (nd 256 n - 1) < 256 := by
  rw [Nat.div_lt_iff_lt_mul (Nat.pow_pos (by omega))]
  have := lt_pow_nd 256 (by omega) n
  have h3 := nd_pos 256 (by omega) n h
  rw [show nd 256 n = 1 + (nd 256 n - 1) by omega, Nat.pow_add] at this
  exact this
 refine ⟨hp, ?_, h2⟩
 rw [get_mag, size_mag, Nat.sub_zero, Nat.mod_eq_of_lt h2]
theorem bits_top (n : Nat) (h : 0 < n) : 8 * (nd 256 n - 1) + nd 2 (topByte n) = nd 2 n := by
 unfold topByte
 obtain ⟨k, hk⟩ : ∃ k, nd 256 n = k + 1 := ⟨nd 256 n - 1, by have := nd_pos 256 (by omega) n h; omega⟩
 rw [hk, Nat.add_sub_cancel]
 have h1 := pow_nd_le 256 (by omega) n h
 rw [hk, Nat.add_sub_cancel] at h1
 have hpos : 0 < n / 256 ^ k := Nat.div_pos h1 (Nat.pow_pos (by omega))
 obtain ⟨j, hj⟩ : ∃ j, nd 2 (n / 256 ^ k) = j + 1 := ⟨nd 2 (n / 256 ^ k) - 1, by have := nd_pos 2 (by omega) _ hpos; omega⟩
 have h2 := pow_nd_le 2 (by omega) _ hpos
 have h3 := lt_pow_nd 2 (by omega) (n / 256 ^ k)
 rw [hj, Nat.add_sub_cancel] at h2
 rw [hj] at h3
 rw [hj]
 symm
 have e : (256 : Nat) ^ k = 2 ^ (8 * k) := by rw [show (256 : Nat) = 2 ^ 8 from rfl, ← Nat.pow_mul]
 have := nd_of_bounds 2 (by omega) n (8 * k + j) (by
  rw [Nat.pow_add, Nat.mul_comm, ← e]
  calc 2 ^ j * 256 ^ k ≤ n / 256 ^ k * 256 ^ k := Nat.mul_le_mul_right _ h2
   _ ≤ n := Nat.div_mul_le_self _ _) (by
  rw [Nat.add_assoc, Nat.pow_add, Nat.mul_comm, ← e]
  exact (Nat.div_lt_iff_lt_mul (Nat.pow_pos (by omega))).1 h3)
 rw [this]; omega
theorem len8 (x : Nat) (w : World) (h : x < 256) : Calls Tryz.prog 174 #[.int .u8 x] w fun e w' => e = .returned (.int .i64 ((nd 2 x : Nat) : Int)) ∧ w = w' :=
 (Tryz.bits_Len8 (x : Int) w (by omega) (by omega)).mono fun _ _ ⟨he, hw⟩ => ⟨by rw [he, ← bitLen_nd x (by omega)]; rfl, hw.symm⟩
theorem can_first (s : ByteArray) (hp : 0 < s.size) : Vi.Can s ↔ (s[0]'hp).toNat ≠ 0 := by
 have e : s.data.toList.head? = some (s[0]'hp) := by
  have h1 : s.data.toList ≠ [] := by intro h; have : s.data.toList.length = 0 := by rw [h]; rfl
                                     have h2 : s.size = s.data.toList.length := rfl
                                     omega
  rw [List.head?_eq_getElem?, List.getElem?_eq_getElem hp]; rfl
 unfold Vi.Can
 rw [e]
 constructor
 ·intro h h2; apply h; congr 1; exact UInt8.toNat_inj.1 h2
 ·intro h h2; apply h; simp only [Option.some.injEq] at h2; rw [h2]; rfl
def okInt (b : Bool) (s : ByteArray) : Bool := if s.toList.isEmpty then !b else !(s.data.toList.head? == some 0)
set_option maxHeartbeats 400000 in
theorem Check_c (b : Bool) (s : ByteArray) (w : World) (hs : s.size ≤ 4294967296) : Calls Tryz.prog 160 #[.agg #[.bool b, .string s]] w fun e w' => e = .returned (.int .i64 (if okInt b s then 0 else 5)) ∧ Below w.heap.size w w' := by
 cases he : s.toList.isEmpty
 ·have hp : 0 < s.size := by
    rcases Nat.eq_zero_or_pos s.size with h | h
    ·rw [toList_data] at he
     have : s.data.toList.length = 0 := h
     rw [List.eq_nil_of_length_eq_zero this] at he; simp at he
    ·exact h
  have hc := can_first s hp
  by_cases h0 : (s[0]'hp).toNat = 0
  ·have e : okInt b s = false := by
     unfold okInt; rw [he]
     have h1 : ¬ Vi.Can s := fun h => (hc.1 h) h0
     unfold Vi.Can at h1
     have h2 : s.data.toList.head? = some 0 := Decidable.byContradiction h1
     rw [h2]; rfl
   rw [e]
   clear hc
   go_enter Tryz.func160, Tryz.ntmps160
   go_wp2
   go_ret
   exact ⟨rfl, by (repeat' (first | (with_reducible first | exact Below.refl _ _ | assumption | refine Below.plus0 ?_ _ | refine Below.alloc0 ?_ _ | refine Below.plus ?_ ?_ _ | refine Below.alloc ?_ ?_ _ | refine Below.drew ?_ | refine Below.drewN ?_ _) | (simp [go_sem]; done) | (simp [go_sem]; omega)))⟩
  ·have e : okInt b s = true := by
     unfold okInt; rw [he]
     have h1 : Vi.Can s := hc.2 h0
     unfold Vi.Can at h1
     simp [h1]
   rw [e]
   have hb : ((s[0].toNat : Int) == 0) = false := by rw [beq_eq_false_iff_ne]; omega
   clear hc
   go_enter Tryz.func160, Tryz.ntmps160
   go_wp2
   go_ret
   exact ⟨rfl, by (repeat' (first | (with_reducible first | exact Below.refl _ _ | assumption | refine Below.plus0 ?_ _ | refine Below.alloc0 ?_ _ | refine Below.plus ?_ ?_ _ | refine Below.alloc ?_ ?_ _ | refine Below.drew ?_ | refine Below.drewN ?_ _) | (simp [go_sem]; done) | (simp [go_sem]; omega)))⟩
 ·have e : okInt b s = !b := by unfold okInt; rw [he]; rfl
  rw [e]
  cases b
  all_goals
   go_enter Tryz.func160, Tryz.ntmps160
   go_wp2
   go_ret
   exact ⟨rfl, by (repeat' (first | (with_reducible first | exact Below.refl _ _ | assumption | refine Below.plus0 ?_ _ | refine Below.alloc0 ?_ _ | refine Below.plus ?_ ?_ _ | refine Below.alloc ?_ ?_ _ | refine Below.drew ?_ | refine Below.drewN ?_ _) | (simp [go_sem]; done) | (simp [go_sem]; omega)))⟩
def inI64 (x : Int) : Bool := decide (-9223372036854775808 ≤ x ∧ x ≤ 9223372036854775807)
theorem wrap_back (n : Nat) (h : n ≤ 9223372036854775808) : IntKind.i64.wrap (IntKind.u64.wrap (-(n : Int))) = -(n : Int) := by
 rw [IntKind.wrap_u64, IntKind.wrap_i64]; omega
def negMax : Int := 9223372036854775808
end Go.Proofs.YthdaimoankaciaaGreatDoor
