import Derived.Test.YtgkccbnnkkklmaaGreatDoorProg
import Derived.Test.YtgkccbnnkkklmaaGreatDoorShelf
import Derived.Test.YtgkccbnnkkklmaaGreatDoorIntH
import Derived.OwnWalk
import Derived.Test.YtgkccbnnkkklmaaGreatDoorKnown
import Derived.Test.YtgkccbnnkkklmaaGreatDoorKinds
set_option linter.unusedSimpArgs false
set_option linter.unusedVariables false
namespace Go.Proofs.YtgkccbnnkkklmaaGreatDoor
open Go Go.RowKit
open Vi
/-- The digit i to the base 256. -/
def d8 (x i : Nat) : Nat := x / 256 ^ i % 256
theorem d8_lt (x i : Nat) : d8 x i < 256 := Nat.mod_lt _ (by omega)
def dvals (x k : Nat) : List Value := (List.range k).map fun i => Value.int .i64 (d8 x i : Nat)
theorem dvals_length (x k : Nat) : (dvals x k).length = k := by unfold dvals; simp
theorem dvals_succ (x k : Nat) : dvals x k ++ [Value.int .i64 (d8 x k : Nat)] = dvals x (k + 1) := by unfold dvals; simp [List.range_succ]
theorem dvals_get (x k i : Nat) (h : i < k) : (dvals x k)[i]? = some (Value.int .i64 (d8 x i : Nat)) := by unfold dvals; simp [h]
/-- A list of n digits of x. -/
def Dl (w : World) (v : Value) (n x : Nat) : Prop := x < 256 ^ n ∧ ((v = .slice none 0 0 ∧ n = 0) ∨ ∃ g c, v = .slice (some ⟨g, 0, none⟩) n c ∧ n ≤ c ∧ c ≤ maxLen ∧ g < w.heap.size ∧ ∀ i, i < n → w.cell? ⟨g, i, none⟩ = some (.int .i64 (d8 x i : Nat)))
theorem Dl.below {w w' : World} {v : Value} {n x : Nat} (h : Dl w v n x) (hb : Below w.heap.size w w') : Dl w' v n x := by
  obtain ⟨h1, h2⟩ := h
  refine ⟨h1, ?_⟩
  rcases h2 with h2 | ⟨g, c, hv, hc, hm, hg, hcell⟩
  · exact .inl h2
  · exact .inr ⟨g, c, hv, hc, hm, Nat.lt_of_lt_of_le hg hb.size, fun i hi => (hb.cell (p := ⟨g, i, none⟩) hg).trans (hcell i hi)⟩
theorem Dl.of_owned {w : World} {B n x : Nat} {v : Value} (h : w.ownsRow B 3 1 v n (dvals x n)) (hx : x < 256 ^ n) : Dl w v n x := by
  refine ⟨hx, ?_⟩
  rcases h.2 with ⟨hv, hn⟩ | ⟨g, cap, cur, hv, hb, hh, hn, hm, hs, ht⟩
  · exact .inl ⟨hv, hn⟩
  · refine .inr ⟨g, cap, hv, hn, hm, by have := (Array.getElem?_eq_some_iff.1 hh).1; exact this, fun i hi => ?_⟩
    subst hv
    rw [h.cellAt i (by omega), dvals_get x n i hi]
theorem info3 : (Tryz.prog.info? 3).map (fun i => (i.zero, i.size, i.bytes)) = some (some (.int .i64 0), 1, 8) := by kernel_rfl
theorem d8_big (x n i : Nat) (h : x < 256 ^ n) (hi : n ≤ i) : d8 x i = 0 := by
  unfold d8
  rw [Nat.div_eq_of_lt (Nat.lt_of_lt_of_le h (Nat.pow_le_pow_right (by omega) hi))]
theorem nd_top8 (x m : Nat) (h1 : nd 256 x ≤ m + 1) (h : d8 x m ≠ 0) : nd 256 x = m + 1 := by
  apply Decidable.byContradiction
  intro h2
  have h3 := lt_pow_nd 256 (by omega) x
  exact h (d8_big x _ m h3 (by omega))
theorem nd_low8 (x m : Nat) (h1 : nd 256 x ≤ m + 1) (h : d8 x m = 0) : nd 256 x ≤ m := by
  apply nd_le 256 (by omega)
  have h3 := Nat.lt_of_lt_of_le (lt_pow_nd 256 (by omega) x) (Nat.pow_le_pow_right (by omega) h1)
  unfold d8 at h
  have h4 : x / 256 ^ m < 256 := by
    rw [Nat.div_lt_iff_lt_mul (Nat.pow_pos (by omega)), Nat.mul_comm, ← Nat.pow_succ]; exact h3
  have h5 : x / 256 ^ m = 0 := by rw [Nat.mod_eq_of_lt h4] at h; exact h
  exact (Nat.div_eq_zero_iff_lt (Nat.pow_pos (by omega))).1 h5
/-- The bytes, the highest one first, of which the k lowest ones have been written. -/
def nbFn (x N k : Nat) : Nat → Nat := fun p => if p < N ∧ N - 1 - p < k then d8 x (N - 1 - p) else 0
theorem nbFn_zero (x N n : Nat) : arr .u8 (nbFn x N 0) n = arr .u8 (fun _ => 0) n := by
  apply arr_congr; intro i _; unfold nbFn; rw [if_neg (by omega)]
theorem nbFn_succ (x N c p : Nat) (hp : p + 1 + c = N) : upd (nbFn x N c) p (d8 x c) = nbFn x N (c + 1) := by
  funext k
  unfold upd nbFn
  by_cases h : k = p
  · subst h
    rw [if_pos rfl, show N - 1 - k = c by omega, if_pos (by omega)]
  · rw [if_neg h]
    by_cases h2 : k < N ∧ N - 1 - k < c
    · rw [if_pos h2, if_pos (by omega)]
    · rw [if_neg h2, if_neg (by omega)]
theorem nbFn_lt (x N c p : Nat) : nbFn x N c p < 256 := by
  unfold nbFn; split
  · exact d8_lt _ _
  · omega
theorem nb_mag (x N : Nat) (hN : nd 256 x = N) : strFn (nbFn x N N) N = mag x := by
  unfold strFn mag
  congr 2
  subst hN
  apply List.ext_getElem?
  intro i
  by_cases hi : i < nd 256 x
  · have hl : ((dig 256 x).map UInt8.ofNat).length = nd 256 x := by simp [nd]
    rw [List.getElem?_reverse (by omega), hl]
    simp only [List.getElem?_map]
    rw [List.getElem?_range hi]
    have h2 : (dig 256 x)[nd 256 x - 1 - i]? = some (d8 x (nd 256 x - 1 - i)) := by
      have h3 := dig_getD 256 (by omega) x (nd 256 x - 1 - i)
      have h4 : nd 256 x - 1 - i < (dig 256 x).length := by show _ < nd 256 x; omega
      rw [List.getD_eq_getElem?_getD, List.getElem?_eq_getElem h4] at h3
      rw [List.getElem?_eq_getElem h4]
      exact congrArg some h3
    rw [h2]
    simp only [Option.map_some]
    unfold nbFn
    rw [if_pos (by omega)]
  · rw [List.getElem?_eq_none (by simp; omega), List.getElem?_eq_none (by simp; show nd 256 x ≤ i; omega)]
theorem sign_empty (neg : Bool) (x : Nat) : (Value.agg #[.bool (neg && decide ((0 : Int) < (nd 256 x : Int))), .string (mag x)]) = .agg #[.bool (sg (if neg then -(x : Int) else x)), .string (mg (if neg then -(x : Int) else x))] := by
  rw [← made_int neg _ x rfl, mag_isEmpty]
  have : decide ((0 : Int) < (nd 256 x : Int)) = !(x == 0) := by
    by_cases h : x = 0
    · subst h; rfl
    · have := nd_pos 256 (by omega) x (by omega)
      rw [beq_eq_false_iff_ne.2 h]; simp; omega
  rw [this]
theorem d8_byte (x i : Nat) : IntKind.u8.wrap (d8 x i : Int) = (d8 x i : Int) := by
  have := d8_lt x i
  rw [IntKind.wrap_u8]; omega
theorem make8z (w : World) : (Instr.makeSlice 109 (.int .i64 0) (.int .i64 0)).run Tryz.prog w = .ok (.slice (some ⟨w.heap.size, 0, none⟩) 0 0) (w.alloc (.cells (arr .u8 (fun _ => 0) 0) 5)) := make8 0 w (by omega)
theorem conv8z (w : World) :
    (convert 109 9 (.slice (some ⟨w.heap.size, 0, none⟩) 0 0)).run Tryz.prog (w.alloc (.cells (arr .u8 (fun _ => 0) 0) 5)) = .ok (.string ⟨#[]⟩) (w.alloc (.cells (arr .u8 (fun _ => 0) 0) 5)) := conv8 (fun _ => 0) 0 0 w (fun _ => by omega)
end Go.Proofs.YtgkccbnnkkklmaaGreatDoor
set_option linter.unusedSimpArgs false
set_option linter.unusedVariables false
namespace Go.Proofs.YtgkccbnnkkklmaaGreatDoor
open Go Go.RowKit
open Vi
theorem extract_min (s : ByteArray) (k : Nat) : s.extract 0 (min (s.size : Int) (k : Int)).toNat = s.extract 0 k := by
  have e : (min (s.size : Int) (k : Int)).toNat = min s.size k := by omega
  rw [e]
  apply ByteArray.ext
  apply Array.ext_getElem?
  intro i
  simp only [ByteArray.data_extract, Array.getElem?_extract]
  have hs : s.data.size = s.size := rfl
  by_cases h : i < min s.size k
  · rw [if_pos (by omega), if_pos (by omega)]
  · rw [if_neg (by omega), if_neg (by omega)]
theorem size_extract_le (s : ByteArray) (k : Nat) : (s.extract 0 k).size ≤ s.size ∧ (s.extract 0 k).size ≤ k := by
  rw [ByteArray.size_extract]; omega
/-- The integer that Canonical makes. -/
def canI (b : Bool) (s : ByteArray) (k : Nat) : Int := if b then -(num (s.extract 0 k) : Int) else num (s.extract 0 k)
theorem num_extract_lt (s : ByteArray) (k : Nat) : num (s.extract 0 k) < 256 ^ k :=
  Nat.lt_of_lt_of_le (num_lt _) (Nat.pow_le_pow_right (by omega) (size_extract_le s k).2)
theorem canI_lt (b : Bool) (s : ByteArray) (k : Nat) : (canI b s k).natAbs < 256 ^ k := by
  have h := num_extract_lt s k
  unfold canI
  cases b
  · simpa using h
  · simpa using h
theorem mg_size (x : Int) (k : Nat) (h : x.natAbs < 256 ^ k) : (mg x).size ≤ k := size_mag_le _ k h
end Go.Proofs.YtgkccbnnkkklmaaGreatDoor
set_option linter.unusedSimpArgs false
set_option linter.unusedVariables false
namespace Go.Proofs.YtgkccbnnkkklmaaGreatDoor
open Go Go.RowKit
open Vi
theorem d8_lt_i64 (x i : Nat) : (0 : Int) ≤ (d8 x i : Int) ∧ (d8 x i : Int) < 256 := by have := d8_lt x i; omega
theorem Dl.lenForm {w : World} {v : Value} {n x : Nat} (h : Dl w v n x) : ∃ ao c, v = .slice ao n c := by
  rcases h.2 with ⟨rfl, rfl⟩ | ⟨g, c, rfl, _⟩
  · exact ⟨_, _, rfl⟩
  · exact ⟨_, _, rfl⟩
theorem d8_div (x p : Nat) : x / 256 ^ p = d8 x p + 256 * (x / 256 ^ (p + 1)) := by
  unfold d8
  rw [Nat.pow_succ, ← Nat.div_div_eq_div_mul]; omega
theorem cmp_lt_of (x y p : Nat) (h : x / 256 ^ (p + 1) = y / 256 ^ (p + 1)) (hd : d8 x p < d8 y p) : x < y := by
  have h1 := d8_div x p
  have h2 := d8_div y p
  have h3 : x / 256 ^ p < y / 256 ^ p := by omega
  apply Nat.lt_of_not_le
  intro hle
  have := Nat.div_le_div_right (c := 256 ^ p) hle
  omega
theorem cmpN_of_lt (x y : Nat) (h : x < y) : cmpN x y = -1 := by unfold cmpN; rw [if_pos h]
theorem cmpN_of_gt (x y : Nat) (h : y < x) : cmpN x y = 1 := by unfold cmpN; rw [if_neg (by omega), if_neg (by omega)]
theorem cmpN_of_eq (x y : Nat) (h : x = y) : cmpN x y = 0 := by unfold cmpN; rw [if_neg (by omega), if_pos h]
theorem div_step (x y q : Nat) (h : x / 256 ^ (q + 1) = y / 256 ^ (q + 1)) (hd : d8 x q = d8 y q) : x / 256 ^ q = y / 256 ^ q := by
  rw [d8_div x q, d8_div y q, h, hd]
theorem wrap_cmp_mul (x y : Nat) (a b : Int) : IntKind.i64.wrap (cmpN x y * cmpI a b) = cmpN x y * cmpI a b := by
  unfold cmpN cmpI; repeat' split
  all_goals rfl
theorem agg_mg (x : Int) : num (mg x) = x.natAbs := num_mag _
theorem cmpI_mul (x y : Int) (h : cmpI x 0 = cmpI y 0) : cmpN x.natAbs y.natAbs * cmpI x 0 = cmpI x y := by
  have e : ∀ z : Int, cmpI z 0 = if z < 0 then -1 else if z = 0 then 0 else 1 := fun z => rfl
  rw [e, e] at h
  rw [e]
  unfold cmpN cmpI
  repeat' split at h
  all_goals first | omega | skip
  all_goals repeat' split
  all_goals omega
theorem cmpI_other (x y : Int) (h : cmpI x 0 ≠ cmpI y 0) : (if cmpI x 0 < cmpI y 0 then -1 else 1 : Int) = cmpI x y := by
  have e : ∀ z : Int, cmpI z 0 = if z < 0 then -1 else if z = 0 then 0 else 1 := fun z => rfl
  rw [e, e] at h ⊢
  unfold cmpI
  repeat' split
  all_goals omega
end Go.Proofs.YtgkccbnnkkklmaaGreatDoor
set_option linter.unusedSimpArgs false
set_option linter.unusedVariables false
namespace Go.Proofs.YtgkccbnnkkklmaaGreatDoor
open Go Go.RowKit
open Vi
/-- The carry behind k digits of a sum. -/
def cr8 (x y k : Nat) : Nat := (x % 256 ^ k + y % 256 ^ k) / 256 ^ k
theorem mod_succ8 (x k : Nat) : x % 256 ^ (k + 1) = x % 256 ^ k + 256 ^ k * d8 x k := by
  unfold d8
  rw [Nat.pow_succ, Nat.mod_mul]
theorem cr8_zero (x y : Nat) : cr8 x y 0 = 0 := by unfold cr8; simp [Nat.mod_one]
theorem cr8_mid (x y k : Nat) : (x % 256 ^ (k + 1) + y % 256 ^ (k + 1)) / 256 ^ k = d8 x k + d8 y k + cr8 x y k := by
  have hp : 0 < 256 ^ k := Nat.pow_pos (by omega)
  unfold cr8
  rw [mod_succ8, mod_succ8]
  have e : x % 256 ^ k + 256 ^ k * d8 x k + (y % 256 ^ k + 256 ^ k * d8 y k) = (x % 256 ^ k + y % 256 ^ k) + (d8 x k + d8 y k) * 256 ^ k := by
    rw [Nat.add_mul, Nat.mul_comm (d8 x k), Nat.mul_comm (d8 y k)]; omega
  rw [e, Nat.add_mul_div_right _ _ hp]; omega
theorem cr8_succ (x y k : Nat) : cr8 x y (k + 1) = (d8 x k + d8 y k + cr8 x y k) / 256 := by
  rw [← cr8_mid, Nat.div_div_eq_div_mul, ← Nat.pow_succ]; rfl
theorem d8_add (x y k : Nat) : d8 (x + y) k = (d8 x k + d8 y k + cr8 x y k) % 256 := by
  rw [← cr8_mid]
  unfold d8
  have e : (x + y) % 256 ^ (k + 1) = (x % 256 ^ (k + 1) + y % 256 ^ (k + 1)) % 256 ^ (k + 1) := Nat.add_mod _ _ _
  have h1 : ∀ z : Nat, z / 256 ^ k % 256 = z % 256 ^ (k + 1) / 256 ^ k := fun z => by
    rw [Nat.pow_succ, Nat.mod_mul_right_div_self]
  rw [h1, h1, e]
theorem cr8_le (x y k : Nat) : cr8 x y k ≤ 1 := by
  unfold cr8
  have hp : 0 < 256 ^ k := Nat.pow_pos (by omega)
  have h1 := Nat.mod_lt x hp
  have h2 := Nat.mod_lt y hp
  have : (x % 256 ^ k + y % 256 ^ k) / 256 ^ k < 2 := by
    rw [Nat.div_lt_iff_lt_mul hp]; omega
  omega
theorem cr8_end (x y k : Nat) (hx : x < 256 ^ k) (hy : y < 256 ^ k) (h : cr8 x y k = 0) : x + y < 256 ^ k := by
  unfold cr8 at h
  rw [Nat.mod_eq_of_lt hx, Nat.mod_eq_of_lt hy] at h
  exact (Nat.div_eq_zero_iff_lt (Nat.pow_pos (by omega))).1 h
theorem cr8_big (x y k : Nat) (hx : x < 256 ^ k) (hy : y < 256 ^ k) : cr8 x y (k + 1) = 0 := by
  unfold cr8
  have h1 : (256 : Nat) ^ (k + 1) = 256 ^ k * 256 := Nat.pow_succ ..
  rw [Nat.mod_eq_of_lt (by omega), Nat.mod_eq_of_lt (by omega)]
  exact Nat.div_eq_of_lt (by omega)
theorem World.ownsRow.plus {w : World} {B : Nat} {e : TypeId} {size : Nat} {v : Value} {n : Nat} {xs : List Value} (h : w.ownsRow B e size v n xs) (u : World) : (w.plus u).ownsRow B e size v n xs :=
  h.kept (row := none) ⟨rfl, rfl, rfl, World.size_plus w u, fun k hk _ => World.heap_plus w u k hk⟩ (by cases hv : v.ownBlock <;> simp)
theorem cr8_sub (x y k : Nat) (h : y ≤ x) : d8 (x - y) k + d8 y k + cr8 (x - y) y k = d8 x k + 256 * cr8 (x - y) y (k + 1) := by
  have h1 := d8_add (x - y) y k
  rw [Nat.sub_add_cancel h] at h1
  have h2 := cr8_succ (x - y) y k
  omega
/-- A list of at most M digits of x. -/
def DL (w : World) (v : Value) (M x : Nat) : Prop := ∃ N, N ≤ M ∧ Dl w v N x
theorem DL.below {w w' : World} {v : Value} {M x : Nat} (h : DL w v M x) (hb : Below w.heap.size w w') : DL w' v M x := by
  obtain ⟨N, h1, h2⟩ := h
  exact ⟨N, h1, h2.below hb⟩
theorem DL.more {w : World} {v : Value} {M M' x : Nat} (h : DL w v M x) (hm : M ≤ M') : DL w v M' x := by
  obtain ⟨N, h1, h2⟩ := h
  exact ⟨N, by omega, h2⟩
theorem add_like (x y : Int) (h : sg x = sg y) : x + y = if sg x then -((x.natAbs + y.natAbs : Nat) : Int) else ((x.natAbs + y.natAbs : Nat) : Int) := by
  by_cases hx : x < 0
  · have h1 := sg_true x hx
    rw [h1] at h ⊢
    by_cases hy : y < 0
    · rw [if_pos rfl]; omega
    · rw [sg_false y (by omega)] at h; cases h
  · have h1 := sg_false x (by omega)
    rw [h1] at h ⊢
    by_cases hy : y < 0
    · rw [sg_true y hy] at h; cases h
    · rw [if_neg (by simp)]; omega
theorem add_unlike (x y : Int) (h : sg x ≠ sg y) (hle : y.natAbs ≤ x.natAbs) : x + y = if sg x then -((x.natAbs - y.natAbs : Nat) : Int) else ((x.natAbs - y.natAbs : Nat) : Int) := by
  by_cases hx : x < 0
  · have h1 := sg_true x hx
    rw [h1] at h ⊢
    by_cases hy : y < 0
    · rw [sg_true y hy] at h; exact absurd rfl h
    · rw [if_pos rfl]; omega
  · have h1 := sg_false x (by omega)
    rw [h1] at h ⊢
    by_cases hy : y < 0
    · rw [if_neg (by simp)]; omega
    · rw [sg_false y (by omega)] at h; exact absurd rfl h
theorem cmpN_neg_iff (x y : Nat) : (cmpN x y < 0) = (x < y) := by
  unfold cmpN; rw [eq_iff_iff]; repeat' split
  all_goals omega
end Go.Proofs.YtgkccbnnkkklmaaGreatDoor
set_option linter.unusedSimpArgs false
set_option linter.unusedVariables false
namespace Go.Proofs.YtgkccbnnkkklmaaGreatDoor
open Go Go.RowKit
open Vi
theorem d8_zero (i : Nat) : d8 0 i = 0 := by unfold d8; simp
/-- The carry of one row of a product behind k digits: o is what is there, t what is added (d times y, i digits up). -/
def my8 (o d y i k : Nat) : Nat := (o % 256 ^ (i + k) + 256 ^ i * (d * (y % 256 ^ k))) / 256 ^ (i + k)
theorem my8_zero (o d y i : Nat) : my8 o d y i 0 = 0 := by
  unfold my8
  rw [Nat.pow_zero, Nat.mod_one, Nat.mul_zero, Nat.mul_zero, Nat.add_zero, Nat.add_zero]
  exact Nat.div_eq_of_lt (Nat.mod_lt _ (Nat.pow_pos (by omega)))
theorem my8_lt (o d y i k : Nat) (hd : d < 256) : my8 o d y i k < 256 := by
  unfold my8
  have hM : 0 < 256 ^ (i + k) := Nat.pow_pos (by omega)
  rw [Nat.div_lt_iff_lt_mul hM]
  have h1 := Nat.mod_lt o hM
  have h2 := Nat.mod_lt y (Nat.pow_pos (n := k) (show 0 < 256 by omega))
  have h3 : 256 ^ i * (d * (y % 256 ^ k)) ≤ 256 ^ i * (255 * 256 ^ k) :=
    Nat.mul_le_mul_left _ (Nat.mul_le_mul (by omega) (by omega))
  have h4 : 256 ^ i * (255 * 256 ^ k) = 255 * 256 ^ (i + k) := by
    rw [Nat.mul_left_comm, Nat.pow_add]
  omega
theorem my8_step (o d y i k : Nat) : my8 o d y i k + d8 o (i + k) + d * d8 y k = d8 (o + 256 ^ i * (d * y)) (i + k) + 256 * my8 o d y i (k + 1) := by
  have hM : 0 < 256 ^ (i + k) := Nat.pow_pos (by omega)
  have e1 : o % 256 ^ (i + (k + 1)) + 256 ^ i * (d * (y % 256 ^ (k + 1))) = (o % 256 ^ (i + k) + 256 ^ i * (d * (y % 256 ^ k))) + 256 ^ (i + k) * (d8 o (i + k) + d * d8 y k) := by
    rw [← Nat.add_assoc i k 1, mod_succ8 o, mod_succ8 y, Nat.pow_add 256 i k]
    simp only [Nat.mul_add]
    rw [Nat.mul_left_comm d (256 ^ k), Nat.mul_assoc (256 ^ i)  (256 ^ k) (d * d8 y k)]
    omega
  have e2 : (o % 256 ^ (i + (k + 1)) + 256 ^ i * (d * (y % 256 ^ (k + 1)))) / 256 ^ (i + k) = my8 o d y i k + (d8 o (i + k) + d * d8 y k) := by
    rw [e1, Nat.add_mul_div_left _ _ hM]; rfl
  have e3 : my8 o d y i (k + 1) = (my8 o d y i k + (d8 o (i + k) + d * d8 y k)) / 256 := by
    rw [← e2, Nat.div_div_eq_div_mul, ← Nat.pow_succ]; rfl
  have e4 : d8 (o + 256 ^ i * (d * y)) (i + k) = (my8 o d y i k + (d8 o (i + k) + d * d8 y k)) % 256 := by
    rw [← e2]
    unfold d8
    rw [← Nat.mod_mul_right_div_self, ← Nat.mod_mul_right_div_self (_ + _ : Nat), ← Nat.pow_succ]
    congr 1
    show _ = (o % 256 ^ (i + k + 1) + 256 ^ i * (d * (y % 256 ^ (k + 1)))) % 256 ^ (i + k + 1)
    have e5 : 256 ^ i * (d * y) = 256 ^ i * (d * (y % 256 ^ (k + 1))) + 256 ^ (i + k + 1) * (d * (y / 256 ^ (k + 1))) := by
      rw [Nat.add_assoc, Nat.pow_add 256 i (k + 1), Nat.mul_assoc, ← Nat.mul_add]
      congr 1
      rw [Nat.mul_left_comm, ← Nat.mul_add, Nat.mod_add_div]
    rw [e5, ← Nat.add_assoc, Nat.add_mul_mod_self_left, Nat.mod_add_mod]
  rw [e3, e4, Nat.mod_add_div]; omega
theorem d8_add_low (o i z p : Nat) (h : p < i) : d8 (o + 256 ^ i * z) p = d8 o p := by
  unfold d8
  rw [← Nat.mod_mul_right_div_self, ← Nat.mod_mul_right_div_self, ← Nat.pow_succ]
  congr 1
  obtain ⟨m, rfl⟩ : ∃ m, i = (p + 1) + m := ⟨i - (p + 1), by omega⟩
  rw [Nat.pow_add, Nat.mul_assoc, Nat.add_mul_mod_self_left]
/-- The product's digits below place i + k, above them what was there. -/
def mulFn8 (o t i k : Nat) : Nat → Nat := fun p => if p < i + k then d8 t p else d8 o p
theorem mulFn8_zero (o z i n : Nat) : arr .i64 (d8 o) n = arr .i64 (mulFn8 o (o + 256 ^ i * z) i 0) n := by
  apply arr_congr; intro p _; unfold mulFn8
  split
  · rw [d8_add_low _ _ _ _ (by omega)]
  · rfl
theorem mulFn8_at (o t i k : Nat) : mulFn8 o t i k (i + k) = d8 o (i + k) := by unfold mulFn8; rw [if_neg (by omega)]
theorem mulFn8_succ (o t i k : Nat) : upd (mulFn8 o t i k) (i + k) (d8 t (i + k)) = mulFn8 o t i (k + 1) := by
  funext p
  unfold upd mulFn8
  by_cases h : p = i + k
  · subst h; rw [if_pos rfl, if_pos (by omega)]
  · rw [if_neg h]
    by_cases h2 : p < i + k
    · rw [if_pos h2, if_pos (by omega)]
    · rw [if_neg h2, if_neg (by omega)]
theorem row_lt8 (o d y i n : Nat) (ho : o < 256 ^ (i + n)) (hy : y < 256 ^ n) (hd : d < 256) : o + 256 ^ i * (d * y) < 256 ^ (i + n + 1) := by
  have h3 : 256 ^ i * (d * y) ≤ 256 ^ i * (255 * 256 ^ n) :=
    Nat.mul_le_mul_left _ (Nat.mul_le_mul (by omega) (by omega))
  have h4 : 256 ^ i * (255 * 256 ^ n) = 255 * 256 ^ (i + n) := by
    rw [Nat.mul_left_comm, Nat.pow_add]
  rw [Nat.pow_succ]
  omega
theorem my8_last (o d y i n : Nat) (ho : o < 256 ^ (i + n)) (hy : y < 256 ^ n) (hd : d < 256) : my8 o d y i n = d8 (o + 256 ^ i * (d * y)) (i + n) := by
  have h := row_lt8 o d y i n ho hy hd
  unfold my8 d8
  rw [Nat.mod_eq_of_lt ho, Nat.mod_eq_of_lt hy]
  symm
  apply Nat.mod_eq_of_lt
  rw [Nat.div_lt_iff_lt_mul (Nat.pow_pos (by omega)), show 256 * 256 ^ (i + n) = 256 ^ (i + n + 1) by rw [Nat.pow_succ, Nat.mul_comm]]
  exact h
theorem mulFn8_all (o d y i n m : Nat) (ho : o < 256 ^ (i + n)) (hy : y < 256 ^ n) (hd : d < 256) :
    arr .i64 (upd (mulFn8 o (o + 256 ^ i * (d * y)) i n) (i + n) (my8 o d y i n)) m = arr .i64 (d8 (o + 256 ^ i * (d * y))) m := by
  have h := row_lt8 o d y i n ho hy hd
  apply arr_congr
  intro p _
  unfold upd mulFn8
  by_cases h1 : p = i + n
  · subst h1; rw [if_pos rfl, my8_last o d y i n ho hy hd]
  · rw [if_neg h1]
    by_cases h2 : p < i + n
    · rw [if_pos h2]
    · rw [if_neg h2, d8_big o (i + n) p ho (by omega), d8_big _ (i + n + 1) p h (by omega)]
theorem part_mul8 (x y i : Nat) : x % 256 ^ i * y + 256 ^ i * (d8 x i * y) = x % 256 ^ (i + 1) * y := by
  rw [mod_succ8, Nat.add_mul, Nat.mul_assoc]
theorem zero_row8 (n x y : Nat) : arr .i64 (fun _ => 0) n = arr .i64 (d8 (x % 256 ^ 0 * y)) n := by
  apply arr_congr; intro i _; rw [Nat.pow_zero, Nat.mod_one, Nat.zero_mul, d8_zero]
theorem prod_lt8 (x y nx ny : Nat) (hx : x < 256 ^ nx) (hy : y < 256 ^ ny) : x * y < 256 ^ (nx + ny + 1) := by
  have h1 : x * y ≤ 256 ^ nx * 256 ^ ny := Nat.mul_le_mul (by omega) (by omega)
  rw [← Nat.pow_add] at h1
  have h2 : 0 < 256 ^ (nx + ny) := Nat.pow_pos (by omega)
  rw [Nat.pow_succ]; omega
theorem part_lt8 (x y i n : Nat) (hy : y < 256 ^ n) : x % 256 ^ i * y < 256 ^ (i + n) := by
  rw [Nat.pow_add]
  have h1 := Nat.mod_lt x (Nat.pow_pos (n := i) (show 0 < 256 by omega))
  calc x % 256 ^ i * y ≤ x % 256 ^ i * 256 ^ n := Nat.mul_le_mul_left _ (by omega)
    _ < 256 ^ i * 256 ^ n := Nat.mul_lt_mul_of_pos_right h1 (Nat.pow_pos (by omega))
theorem makeInt (n : Nat) (w : World) (h : n ≤ 8589934592) : (Instr.makeSlice 68 (.int .i64 (n : Int)) (.int .i64 (n : Int))).run Tryz.prog w = .ok (.slice (some ⟨w.heap.size, 0, none⟩) n n) (w.alloc (.cells (arr .i64 (fun _ => 0) n) 3)) := by
  obtain ⟨i0, hi, hz0, hz1, hz2⟩ := info_parts info3
  have hr := run_make (P := Tryz.prog) w 68 3 i0 (.int .i64 0) (by kernel_rfl) hi hz0 .i64 .i64 n n (by omega) (Int.le_refl _) (by rw [hz2]; omega) (by omega)
  rw [hr, hz1]
  simp only [Int.toNat_natCast, Nat.mul_one, Value.cells]
  rw [madeCells_arr]
theorem makeIntT (n m : Nat) (w : World) (h : n + m ≤ 8589934591) : (Instr.makeSlice 68 (.int .i64 ((n : Int) + (m : Int) + 1)) (.int .i64 ((n : Int) + (m : Int) + 1))).run Tryz.prog w = .ok (.slice (some ⟨w.heap.size, 0, none⟩) (n + m + 1) (n + m + 1)) (w.alloc (.cells (arr .i64 (fun _ => 0) (n + m + 1)) 3)) :=
  makeInt (n + m + 1) w (by omega)
theorem mulFn8_end (o d y i n m : Nat) (ho : o < 256 ^ (i + n)) (hy : y < 256 ^ n) (hd : d < 256) :
    arr .i64 (mulFn8 o (o + 256 ^ i * (d * y)) i (n + 1)) m = arr .i64 (d8 (o + 256 ^ i * (d * y))) m := by
  have h := row_lt8 o d y i n ho hy hd
  apply arr_congr
  intro p _
  unfold mulFn8
  by_cases h2 : p < i + (n + 1)
  · rw [if_pos h2]
  · rw [if_neg h2, d8_big o (i + n) p ho (by omega), d8_big _ (i + n + 1) p h (by omega)]
theorem Dl.of_arr (g N c z : Nat) (w : World) (h : ∀ i, i < N → w.cell? ⟨g, i, none⟩ = some (.int .i64 (d8 z i : Nat))) (hg : g < w.heap.size) (hz : z < 256 ^ N) (hc : N ≤ c) (hm : c ≤ maxLen) : Dl w (.slice (some ⟨g, 0, none⟩) N c) N z :=
  ⟨hz, .inr ⟨g, c, rfl, hc, hm, hg, h⟩⟩
theorem mul_signed (x y : Int) : x * y = if (sg x != sg y) then -((x.natAbs * y.natAbs : Nat) : Int) else ((x.natAbs * y.natAbs : Nat) : Int) := by
  rcases Int.natAbs_eq x with hx | hx <;> rcases Int.natAbs_eq y with hy | hy <;> by_cases h1 : x < 0 <;> by_cases h2 : y < 0
  all_goals
    first | rw [sg_true x h1] | rw [sg_false x (by omega)]
    first | rw [sg_true y h2] | rw [sg_false y (by omega)]
    simp only [bne_self_eq_false, Bool.true_bne, Bool.bne_true, Bool.not_true, Bool.not_false, if_true, if_false, Bool.false_bne, Bool.bne_false, Bool.false_eq_true]
  all_goals
    generalize x.natAbs = m at *
    generalize y.natAbs = n at *
    subst hx
    subst hy
    simp only [Int.natCast_mul, Int.neg_mul, Int.mul_neg, Int.neg_neg]
    first | done | skip
  all_goals
    first
      | done
      | (have e : m = 0 := by omega
         subst e; simp)
      | (have e : n = 0 := by omega
         subst e; simp)
end Go.Proofs.YtgkccbnnkkklmaaGreatDoor
set_option linter.unusedSimpArgs false
set_option linter.unusedVariables false
namespace Go.Proofs.YtgkccbnnkkklmaaGreatDoor
open Go Go.RowKit
open Vi
/-- Quotient and remainder behind the binary digits from p up. -/
def bq (X Y p : Nat) : Nat := X / Y / 2 ^ p * 2 ^ p
def br (X Y p : Nat) : Nat := X / 2 ^ p % Y
def bstep (X Y i : Nat) : Nat := br X Y (i + 1) + br X Y (i + 1) + X / 2 ^ i % 2
theorem half_step (X i : Nat) : X / 2 ^ i = 2 * (X / 2 ^ (i + 1)) + X / 2 ^ i % 2 := by
  rw [Nat.pow_succ, ← Nat.div_div_eq_div_mul]; omega
theorem bstep_lt (X Y i : Nat) (hY : 0 < Y) : bstep X Y i < 2 * Y := by
  have := Nat.mod_lt (X / 2 ^ (i + 1)) hY
  unfold bstep br; omega
theorem step_eq (X Y i : Nat) : X / 2 ^ i = Y * (2 * (X / 2 ^ (i + 1) / Y)) + bstep X Y i := by
  have h1 := half_step X i
  have h2 := Nat.div_add_mod (X / 2 ^ (i + 1)) Y
  unfold bstep br
  rw [Nat.mul_left_comm]
  generalize X / 2 ^ (i + 1) = A at *
  have h3 : 2 * A = 2 * (Y * (A / Y)) + 2 * (A % Y) := by rw [← Nat.mul_add, h2]
  omega
theorem br_step (X Y i : Nat) (hY : 0 < Y) : br X Y i = if Y ≤ bstep X Y i then bstep X Y i - Y else bstep X Y i := by
  have h1 := step_eq X Y i
  have h2 := bstep_lt X Y i hY
  have e : br X Y i = bstep X Y i % Y := by
    show X / 2 ^ i % Y = _
    rw [h1, Nat.mul_add_mod]
  rw [e]
  by_cases h : Y ≤ bstep X Y i
  · rw [if_pos h, Nat.mod_eq_sub_mod h, Nat.mod_eq_of_lt (by omega)]
  · rw [if_neg h, Nat.mod_eq_of_lt (by omega)]
theorem bq_step (X Y i : Nat) (hY : 0 < Y) : bq X Y i = bq X Y (i + 1) + (if Y ≤ bstep X Y i then 2 ^ i else 0) := by
  have h1 := step_eq X Y i
  have h2 := bstep_lt X Y i hY
  have sw : ∀ p, X / Y / 2 ^ p = X / 2 ^ p / Y := fun p => by rw [Nat.div_div_eq_div_mul, Nat.div_div_eq_div_mul, Nat.mul_comm]
  unfold bq
  rw [sw, sw, h1, Nat.mul_add_div hY]
  have hp : 2 ^ (i + 1) = 2 ^ i * 2 := Nat.pow_succ ..
  have h3 : bstep X Y i / Y = if Y ≤ bstep X Y i then 1 else 0 := by
    by_cases h : Y ≤ bstep X Y i
    · rw [if_pos h]
      exact Nat.div_eq_of_lt_le (by omega) (by omega)
    · rw [if_neg h]; exact Nat.div_eq_of_lt (by omega)
  rw [h3]
  generalize X / 2 ^ (i + 1) / Y = a
  rw [hp]
  have e : (2 * a) * 2 ^ i = a * (2 ^ i * 2) := by rw [Nat.mul_comm 2 a, Nat.mul_assoc, Nat.mul_comm 2]
  split
  · rw [Nat.add_mul, e, Nat.one_mul]
  · rw [Nat.add_zero, e, Nat.add_zero]
theorem pow8 (n : Nat) : (256 : Nat) ^ n = 2 ^ (8 * n) := by rw [show (256 : Nat) = 2 ^ 8 from rfl, ← Nat.pow_mul]
theorem br_top (X Y n : Nat) (h : X < 256 ^ n) : br X Y (8 * n) = 0 := by
  unfold br; rw [Nat.div_eq_of_lt (by rw [← pow8]; exact h), Nat.zero_mod]
theorem bq_top (X Y n : Nat) (h : X < 256 ^ n) : bq X Y (8 * n) = 0 := by
  unfold bq
  rw [Nat.div_eq_of_lt (Nat.lt_of_le_of_lt (Nat.div_le_self X Y) (by rw [← pow8]; exact h)), Nat.zero_mul]
theorem bq_zero (X Y : Nat) : bq X Y 0 = X / Y := by unfold bq; rw [Nat.pow_zero, Nat.div_one, Nat.mul_one]
theorem br_zero (X Y : Nat) : br X Y 0 = X % Y := by unfold br; rw [Nat.pow_zero, Nat.div_one]
theorem bit_d8 (X c e : Nat) (he : e < 8) : d8 X c / 2 ^ e % 2 = X / 2 ^ (8 * c + e) % 2 := by
  unfold d8
  rw [Nat.pow_add, ← Nat.div_div_eq_div_mul, ← pow8]
  generalize X / 256 ^ c = v
  match e, he with
  | 0, _ => simp only [Nat.pow_zero]; omega
  | 1, _ => simp only [Nat.reducePow]; omega
  | 2, _ => simp only [Nat.reducePow]; omega
  | 3, _ => simp only [Nat.reducePow]; omega
  | 4, _ => simp only [Nat.reducePow]; omega
  | 5, _ => simp only [Nat.reducePow]; omega
  | 6, _ => simp only [Nat.reducePow]; omega
  | 7, _ => simp only [Nat.reducePow]; omega
theorem set_bit (t e : Nat) (he : e < 8) : (2 ^ (e + 1) * t + 2 ^ e) / 256 = 2 ^ (e + 1) * t / 256 ∧ (2 ^ (e + 1) * t + 2 ^ e) % 256 = 2 ^ (e + 1) * t % 256 + 2 ^ e := by
  match e, he with
  | 0, _ => simp only [Nat.reduceAdd, Nat.reducePow, Nat.pow_zero]; omega
  | 1, _ => simp only [Nat.reduceAdd, Nat.reducePow]; omega
  | 2, _ => simp only [Nat.reduceAdd, Nat.reducePow]; omega
  | 3, _ => simp only [Nat.reduceAdd, Nat.reducePow]; omega
  | 4, _ => simp only [Nat.reduceAdd, Nat.reducePow]; omega
  | 5, _ => simp only [Nat.reduceAdd, Nat.reducePow]; omega
  | 6, _ => simp only [Nat.reduceAdd, Nat.reducePow]; omega
  | 7, _ => simp only [Nat.reduceAdd, Nat.reducePow]; omega
theorem d8_div2 (R j k : Nat) : d8 R (j + k) = d8 (R / 256 ^ j) k := by
  unfold d8; rw [Nat.div_div_eq_div_mul, ← Nat.pow_add]
theorem bq_upd (Z t c e : Nat) (he : e < 8) (hZ : Z = t * 2 ^ (8 * c + e + 1)) : upd (d8 Z) c (d8 Z c + 2 ^ e) = d8 (Z + 2 ^ (8 * c + e)) := by
  have e1 : 2 ^ (8 * c + e) = 256 ^ c * 2 ^ e := by rw [Nat.pow_add, pow8]
  have hp : 0 < 256 ^ c := Nat.pow_pos (by omega)
  have e2 : Z / 256 ^ c = 2 ^ (e + 1) * t := by
    rw [hZ, show 8 * c + e + 1 = 8 * c + (e + 1) by omega, Nat.pow_add, ← pow8, Nat.mul_comm t, Nat.mul_assoc, Nat.mul_div_cancel_left _ hp]
  have e3 : (Z + 256 ^ c * 2 ^ e) / 256 ^ c = 2 ^ (e + 1) * t + 2 ^ e := by rw [Nat.add_mul_div_left _ _ hp, e2]
  have hs := set_bit t e he
  rw [e1]
  funext p
  unfold upd
  by_cases h1 : p = c
  · subst h1
    rw [if_pos rfl]
    show d8 Z p + 2 ^ e = (Z + 256 ^ p * 2 ^ e) / 256 ^ p % 256
    rw [e3, hs.2, ← e2]; rfl
  · rw [if_neg h1]
    by_cases h2 : p < c
    · rw [d8_add_low _ _ _ _ h2]
    · obtain ⟨k, rfl⟩ : ∃ k, p = c + (k + 1) := ⟨p - c - 1, by omega⟩
      rw [d8_div2 Z c (k + 1), d8_div2 (Z + 256 ^ c * 2 ^ e) c (k + 1), e2, e3]
      unfold d8
      have e5 : (256 : Nat) ^ (k + 1) = 256 * 256 ^ k := by rw [Nat.pow_succ, Nat.mul_comm]
      rw [e5, ← Nat.div_div_eq_div_mul, ← Nat.div_div_eq_div_mul, hs.1]
theorem bq_form (X Y i : Nat) : ∃ t, bq X Y (i + 1) = t * 2 ^ (i + 1) := ⟨_, rfl⟩
theorem plus_block (w : World) (o1 o2 : Obj) (u : World) (k : Nat) (h : w.heap.size + 1 ≤ k) : ((w.alloc o2).plus u).heap[k]? = ((w.alloc o1).plus u).heap[k]? := by
  have h1 : (w.alloc o1).heap.size = w.heap.size + 1 := by simp
  have h2 : (w.alloc o2).heap.size = w.heap.size + 1 := by simp
  show ((w.alloc o2).heap ++ u.heap.extract (w.alloc o2).heap.size u.heap.size)[k]? = ((w.alloc o1).heap ++ u.heap.extract (w.alloc o1).heap.size u.heap.size)[k]?
  rw [Array.getElem?_append_right (by omega), Array.getElem?_append_right (by omega), h1, h2]
theorem plus_size (w : World) (o1 o2 : Obj) (u : World) : ((w.alloc o2).plus u).heap.size = ((w.alloc o1).plus u).heap.size := by
  have h1 : (w.alloc o1).heap.size = w.heap.size + 1 := by simp
  have h2 : (w.alloc o2).heap.size = w.heap.size + 1 := by simp
  show ((w.alloc o2).heap ++ u.heap.extract (w.alloc o2).heap.size u.heap.size).size = ((w.alloc o1).heap ++ u.heap.extract (w.alloc o1).heap.size u.heap.size).size
  rw [Array.size_append, Array.size_append, h1, h2]
/-- A list that lies behind a block does not change with it. -/
theorem DL.swap {w : World} {o1 o2 : Obj} {u : World} {v : Value} {M x : Nat} (h : DL ((w.alloc o1).plus u) v M x) (hf : ∀ k, v.ownBlock = some k → w.heap.size + 1 ≤ k) : DL ((w.alloc o2).plus u) v M x := by
  obtain ⟨N, hN, hx, hd⟩ := h
  refine ⟨N, hN, hx, ?_⟩
  rcases hd with hd | ⟨g, c, rfl, hc, hm, hg, hcell⟩
  · exact .inl hd
  · refine .inr ⟨g, c, rfl, hc, hm, by rw [plus_size w o1 o2 u]; exact hg, fun i hi => ?_⟩
    rw [← hcell i hi]
    exact World.cell?_of_block (plus_block w o1 o2 u g (hf g rfl))
theorem one_D (w : World) : DL (w.alloc (.cells #[.int .i64 1] 3)) (.slice (some ⟨w.heap.size, 0, none⟩) 1 1) 1 1 :=
  ⟨1, Nat.le_refl _, by decide, .inr ⟨_, _, rfl, Nat.le_refl _, by decide, by simp, fun i hi => by
    have e : i = 0 := by omega
    subst e
    simp [go_sem]; rfl⟩⟩
/-- A pair of lists. -/
def DP (w : World) (v : Value) (M1 x1 M2 x2 : Nat) : Prop := ∃ q r, v = .tuple #[q, r] ∧ DL w q M1 x1 ∧ DL w r M2 x2
theorem DP.below {w w' : World} {v : Value} {M1 x1 M2 x2 : Nat} (h : DP w v M1 x1 M2 x2) (hb : Below w.heap.size w w') : DP w' v M1 x1 M2 x2 := by
  obtain ⟨q, r, h1, h2, h3⟩ := h
  exact ⟨q, r, h1, h2.below hb, h3.below hb⟩
end Go.Proofs.YtgkccbnnkkklmaaGreatDoor
set_option linter.unusedSimpArgs false
set_option linter.unusedVariables false
namespace Go.Proofs.YtgkccbnnkkklmaaGreatDoor
open Go Go.RowKit
open Vi
theorem tmod256 (q : Nat) : (q : Int).tmod 256 = ((q % 256 : Nat) : Int) := by rw [Int.tmod_eq_emod_of_nonneg (by omega)]; omega
theorem tdiv256 (q : Nat) : (q : Int).tdiv 256 = ((q / 256 : Nat) : Int) := by rw [Int.tdiv_eq_ediv_of_nonneg (by omega)]; omega
theorem cur_zero (X k : Nat) (h : X / 256 ^ k = 0) : X < 256 ^ k := (Nat.div_eq_zero_iff_lt (Nat.pow_pos (by omega))).1 h
theorem cur_next (X k : Nat) : X / 256 ^ k / 256 = X / 256 ^ (k + 1) := by rw [Nat.div_div_eq_div_mul, ← Nat.pow_succ]
end Go.Proofs.YtgkccbnnkkklmaaGreatDoor
