/- Part 6 of the proof; what it holds is said text by text. -/
import Derived.Test.YtlblfgbpogljoaaGreatDoorProg
import Derived.Test.YtlblfgbpogljoaaGreatDoorWbC
import Derived.Test.YtlblfgbpogljoaaGreatDoorWbD
import Derived.OwnWalk
import Derived.Test.YtlblfgbpogljoaaGreatDoorWbE
import Derived.Test.YtlblfgbpogljoaaGreatDoorWbA
set_option linter.unusedSimpArgs false
set_option linter.unusedVariables false
section
namespace Go.Proofs.YtlblfgbpogljoaaGreatDoor
open Go Go.RowKit
open Vi
def d8 (x i : Nat) : Nat := x / 256 ^ i % 256
theorem d8_lt (x i : Nat) : d8 x i < 256 := Nat.mod_lt _ (by omega)
def dvals (x k : Nat) : List Value := (List.range k).map fun i => Value.int .i64 (d8 x i : Nat)
theorem dvals_length (x k : Nat) : (dvals x k).length = k := by unfold dvals; simp
theorem dvals_succ (x k : Nat) : dvals x k ++ [Value.int .i64 (d8 x k : Nat)] = dvals x (k + 1) := by unfold dvals; simp [List.range_succ]
theorem dvals_get (x k i : Nat) (h : i < k) : (dvals x k)[i]? = some (Value.int .i64 (d8 x i : Nat)) := by unfold dvals; simp [h]
def Dl (w : World) (v : Value) (n x : Nat) : Prop := x < 256 ^ n ∧ ((v = .slice none 0 0 ∧ n = 0) ∨ ∃ g c, v = .slice (some ⟨g, 0, none⟩) n c ∧ n ≤ c ∧ c ≤ maxLen ∧ g < w.heap.size ∧ ∀ i, i < n → w.cell? ⟨g, i, none⟩ = some (.int .i64 (d8 x i : Nat)))
theorem Dl.below {w w' : World} {v : Value} {n x : Nat} (h : Dl w v n x) (hb : Below w.heap.size w w') : Dl w' v n x := by
 obtain ⟨h1, h2⟩ := h
 refine ⟨h1, ?_⟩
 rcases h2 with h2 | ⟨g, c, hv, hc, hm, hg, hcell⟩
 ·exact .inl h2
 ·exact .inr ⟨g, c, hv, hc, hm, Nat.lt_of_lt_of_le hg hb.size, fun i hi => (hb.cell (p := ⟨g, i, none⟩) hg).trans (hcell i hi)⟩
theorem Dl.of_owned {w : World} {B n x : Nat} {v : Value} (h : w.ownsRow B 3 1 v n (dvals x n)) (hx : x < 256 ^ n) : Dl w v n x := by
 refine ⟨hx, ?_⟩
 rcases h.2 with ⟨hv, hn⟩ | ⟨g, cap, cur, hv, hb, hh, hn, hm, hs, ht⟩
 ·exact .inl ⟨hv, hn⟩
 ·refine .inr ⟨g, cap, hv, hn, hm, by have := (Array.getElem?_eq_some_iff.1 hh).1; exact this, fun i hi => ?_⟩
  subst hv
  rw [h.cellAt i (by omega), dvals_get x n i hi]
theorem info3 : (Tryz.prog.info? 3).map (fun i => (i.zero, i.size, i.bytes)) = some (some (.int .i64 0), 1, 8) := by kernel_rfl
set_option maxHeartbeats 400000 in
theorem rdigits_c (b : Bool) (s : ByteArray) (w : World) (hs : s.size ≤ 4294967296) : Calls Tryz.prog 200 #[.agg #[.bool b, .string s]] w fun e w' => ∃ v, e = .returned v ∧ Dl w' v s.size (num s) ∧ Below w.heap.size w w' := by
 obtain ⟨i0, hi, hz0, hz1, hz2⟩ := info_parts info3
 have hx := Lib.hid (num_lt s)
 go_enter Tryz.func200, Tryz.ntmps200
 go_wp2
 go_loopw [3, 4] (fun v i wr => ∃ p k : Nat, p + k = s.size ∧ i = .int .i64 ((p : Int) - 1) ∧ wr.ownsRow (w.heap.size + 1) 3 1 v k (dvals (num s) k) ∧ Below (w.heap.size + 1) (w.alloc (.cells #[.bool b, .string s] 26)) wr) (fun _ i _ => (intOf i + 1).toNat)
 case atStart => exact ⟨s.size, 0, rfl, rfl, World.ownsRow_nil _ _ _ _, Below.refl _ _⟩
 case round =>
  obtain ⟨p, k, hpk, rfl, hown, hbel⟩ := hrel
  have hc0 := hbel.cell (p := ⟨w.heap.size, 0, none⟩) (by simp)
  have hc1 := hbel.cell (p := ⟨w.heap.size, 1, none⟩) (by simp)
  simp [go_sem] at hc0 hc1
  cases p with
  | zero =>
   go_wp2
   go_ret
   have e : k = s.size := by omega
   subst e
   exact ⟨_, rfl, Dl.of_owned hown hx.out, (Below.alloc (Below.refl _ _) (Nat.le_refl _) _).trans (hbel.mono (Nat.le_succ _))⟩
  | succ q =>
   have hq : ((q + 1 : Nat) : Int) - 1 = (q : Int) := by omega
   rw [hq]
   have hq1 : (0 : Int) ≤ (q : Int) := by omega
   have hq2 : q < s.size := by omega
   have hget : (s[q]'hq2).toNat = d8 (num s) k := by rw [get_num, show s.size - 1 - q = k by omega]; rfl
   have hd := d8_lt (num s) k
   have hw : wrap64 (d8 (num s) k : Int) = (d8 (num s) k : Int) := by unfold wrap64; omega
   go_wp2_with (first | (at_builtin; refine wpList_append_own _ rfl _ _ 136 rfl (w.heap.size + 1) 3 i0 (.int .i64 0) 1 8 Tryz.underlying136 hi hz0 hz1 hz2 rfl (by decide) _ _ _ rfl (hown.alloc _) ⟨wr.heap.size, 0, none⟩ 1 1 [.int .i64 (d8 (num s) k : Nat)] rfl rfl ?c1 ?c2 ?c3 ?c4 ?c5 ?_) | go_in)
   case c1 =>
    intro j u hj
    match j, hj with
    | 0, hj => simp at hj; subst hj; simp [Addr.add, hget, hw]
   case c2 => intro u hu; simp at hu; subst hu; rfl
   case c3 => unfold maxLen; omega
   case c4 => omega
   case c5 => have := hbel.size; simp at this; first | (simp; done) | (simp; omega)
   intro v' w1 hown' hgrow _
   rw [dvals_succ] at hown'
   have hb2 : Below (w.heap.size + 1) (w.alloc (Obj.cells #[Value.bool b, Value.string s] 26)) w1 := by
    have hsz : w.heap.size + 1 ≤ wr.heap.size := by have := hbel.size; simpa using this
    refine (hbel.alloc hsz _).grown hgrow (by first | (simp; done) | (simp; omega)) fun k' hk' => (hown.lt k' hk').1
   clear hown hgrow hbel hc0 hc1 hget hd hw
   go_wp2
   go_roundw
   case rel => exact ⟨q, k + 1, by omega, rfl, hown', hb2⟩
   case measure => first | (simp [intOf]; done) | (simp [intOf]; omega)
theorem d8_big (x n i : Nat) (h : x < 256 ^ n) (hi : n ≤ i) : d8 x i = 0 := by
 unfold d8
 rw [Nat.div_eq_of_lt (Nat.lt_of_lt_of_le h (Nat.pow_le_pow_right (by omega) hi))]
theorem nd_top8 (x m : Nat) (h1 : nd 256 x ≤ m + 1) (h : d8 x m ≠ 0) : nd 256 x = m + 1 := by
 apply Decidable.byContradiction
 intro h2
 have h3 := lt_pow_nd 256 (by omega) x
 exact h (d8_big x _ m h3 (by omega))
theorem nd_low8 (x m : Nat) (h1 : nd 256 x ≤ m + 1) (h : d8 x m = 0) : nd 256 x ≤ m := by
 apply nd_le 256 (by omega)
 have h3 := Nat.lt_of_lt_of_le (lt_pow_nd 256 (by omega) x) (Nat.pow_le_pow_right (by omega) h1)
 unfold d8 at h
 have h4 : x / 256 ^ m < 256 := by
  rw [Nat.div_lt_iff_lt_mul (Nat.pow_pos (by omega)), Nat.mul_comm, ← Nat.pow_succ]; exact h3
 have h5 : x / 256 ^ m = 0 := by rw [Nat.mod_eq_of_lt h4] at h; exact h
 exact (Nat.div_eq_zero_iff_lt (Nat.pow_pos (by omega))).1 h5
def nbFn (x N k : Nat) : Nat → Nat := fun p => if p < N ∧ N - 1 - p < k then d8 x (N - 1 - p) else 0
theorem nbFn_zero (x N n : Nat) : arr .u8 (nbFn x N 0) n = arr .u8 (fun _ => 0) n := by
 apply arr_congr; intro i _; unfold nbFn; rw [if_neg (by omega)]
theorem nbFn_succ (x N c p : Nat) (hp : p + 1 + c = N) : upd (nbFn x N c) p (d8 x c) = nbFn x N (c + 1) := by
 funext k
 unfold upd nbFn
 by_cases h : k = p
 ·subst h
  rw [if_pos rfl, show N - 1 - k = c by omega, if_pos (by omega)]
 ·rw [if_neg h]
  by_cases h2 : k < N ∧ N - 1 - k < c
  ·rw [if_pos h2, if_pos (by omega)]
  ·rw [if_neg h2, if_neg (by omega)]
theorem nbFn_lt (x N c p : Nat) : nbFn x N c p < 256 := by
 unfold nbFn; split
 ·exact d8_lt _ _
 ·omega
theorem nb_mag (x N : Nat) (hN : nd 256 x = N) : strFn (nbFn x N N) N = mag x := by
 unfold strFn mag
 congr 2
 subst hN
 apply List.ext_getElem?
 intro i
 by_cases hi : i < nd 256 x
 ·have hl : ((dig 256 x).map UInt8.ofNat).length = nd 256 x := by simp [nd]
  rw [List.getElem?_reverse (by omega), hl]
  simp only [List.getElem?_map]
  rw [List.getElem?_range hi]
  have h2 : (dig 256 x)[nd 256 x - 1 - i]? = some (d8 x (nd 256 x - 1 - i)) := by
   have h3 := dig_getD 256 (by omega) x (nd 256 x - 1 - i)
   have h4 : nd 256 x - 1 - i < (dig 256 x).length := by show _ < nd 256 x; omega
   rw [List.getD_eq_getElem?_getD, List.getElem?_eq_getElem h4] at h3
   rw [List.getElem?_eq_getElem h4]
   exact congrArg some h3
  rw [h2]
  simp only [Option.map_some]
  unfold nbFn
  rw [if_pos (by omega)]
 ·rw [List.getElem?_eq_none (by simp; omega), List.getElem?_eq_none (by simp; show nd 256 x ≤ i; omega)]
theorem sign_empty (neg : Bool) (x : Nat) : (Value.agg #[.bool (neg && decide ((0 : Int) < (nd 256 x : Int))), .string (mag x)]) = .agg #[.bool (sg (if neg then -(x : Int) else x)), .string (mg (if neg then -(x : Int) else x))] := by
 rw [← made_int neg _ x rfl, mag_isEmpty]
 have : decide ((0 : Int) < (nd 256 x : Int)) = !(x == 0) := by
  by_cases h : x = 0
  ·subst h; rfl
  ·have := nd_pos 256 (by omega) x (by omega)
   rw [beq_eq_false_iff_ne.2 h]; simp; omega
 rw [this]
theorem d8_byte (x i : Nat) : IntKind.u8.wrap (d8 x i : Int) = (d8 x i : Int) := by
 have := d8_lt x i
 rw [IntKind.wrap_u8]; omega
theorem make8z (w : World) : (Instr.makeSlice 184 (.int .i64 0) (.int .i64 0)).run Tryz.prog w = .ok (.slice (some ⟨w.heap.size, 0, none⟩) 0 0) (w.alloc (.cells (arr .u8 (fun _ => 0) 0) 5)) := make8 0 w (by omega)
theorem conv8z (w : World) :
    (convert 184 9 (.slice (some ⟨w.heap.size, 0, none⟩) 0 0)).run Tryz.prog (w.alloc (.cells (arr .u8 (fun _ => 0) 0) 5)) = .ok (.string ⟨#[]⟩) (w.alloc (.cells (arr .u8 (fun _ => 0) 0) 5)) := conv8 (fun _ => 0) 0 0 w (fun _ => by omega)
set_option maxRecDepth 100000 in
set_option maxHeartbeats 400000 in
theorem rnumber_nil (neg : Bool) (w : World) : Calls Tryz.prog 90 #[.bool neg, .slice none 0 0] w fun e w' => e = .returned (.agg #[.bool false, .string ⟨#[]⟩]) ∧ Below w.heap.size w w' := by
 have hm := make8z (w.alloc (.cells #[Value.bool false, .string ⟨#[]⟩] 26))
 have hc := conv8z (w.alloc (.cells #[Value.bool false, .string ⟨#[]⟩] 26))
 simp only [World.size_alloc] at hc
 cases neg
 all_goals
  go_enter Tryz.func90, Tryz.ntmps90
  go_wp2
  go_rounds 1
  go_wp2
  go_rounds 1
  go_wp2
  refine bodyPost_ret (by simp [results, Tryz.results90, go_sem]; rfl) rfl ?_
  exact ⟨rfl, by (exact belA)⟩
set_option maxRecDepth 100000 in
set_option maxHeartbeats 400000 in
theorem rnumber_some (neg : Bool) (x n c g : Nat) (w : World) (hx : x < 256 ^ n) (hn : n ≤ 8589934592) (hg : g < w.heap.size) (hr : ∀ i, i < n → w.cell? ⟨g, i, none⟩ = some (.int .i64 (d8 x i : Nat))) : Calls Tryz.prog 90 #[.bool neg, .slice (some ⟨g, 0, none⟩) n c] w fun e w' => e = .returned (.agg #[.bool (neg && decide ((0 : Int) < (nd 256 x : Int))), .string (mag x)]) ∧ Below w.heap.size w w' := by
 have hle := nd_le 256 (by omega) x n hx
 go_enter Tryz.func90, Tryz.ntmps90
 go_wp2_with fail
 go_loop [5] (fun v => ∃ j : Nat, nd 256 x ≤ j ∧ j ≤ n ∧ v = .int .i64 j) (fun v => (intOf v).toNat)
 case atStart => exact ⟨n, hle, Nat.le_refl _, rfl⟩
 case round =>
  obtain ⟨j, h1, h2, rfl⟩ := hrel
  by_cases hj : j = 0
  ·subst hj
   have e0 : x = 0 := by
    have := lt_pow_nd 256 (by omega) x
    rw [show nd 256 x = 0 by omega, Nat.pow_zero] at this; omega
   subst e0
   have hm := make8z (w.alloc (.cells #[Value.bool false, .string ⟨#[]⟩] 26))
   have hc := conv8z (w.alloc (.cells #[Value.bool false, .string ⟨#[]⟩] 26))
   simp only [World.size_alloc] at hc
   clear hr
   cases neg
   all_goals
    go_wp2_with fail
    go_rounds 1
    go_wp2_with fail
    refine bodyPost_ret (by simp [results, Tryz.results90, go_sem]; rfl) rfl ?_
    exact ⟨rfl, by (exact belA)⟩
  ·obtain ⟨m, hm⟩ : ∃ m, j = m + 1 := ⟨j - 1, by omega⟩
   have hcell := hr m (by omega)
   have hj0 : (0 : Int) < (j : Int) := by omega
   have e1 : (j : Int) - 1 = (m : Int) := by omega
   have hmn : m < n := by omega
   have Hm := Lib.hid hm
   have Hc := hcell
   have ht : nd 256 x ≤ m + 1 := by omega
   have Ht := Lib.hid ht
   clear ht hm
   by_cases h0 : d8 x m = 0
   ·have hb : ((d8 x m : Int) == 0) = true := by rw [h0]; rfl
    have H := Lib.hid (nd_low8 x m Ht.out h0)
    clear h0
    go_wp2_with fail
    exact ⟨⟨m, H.out, by omega, rfl⟩, by have := Hm.out; simp [intOf]; omega⟩
   ·have hb : ((d8 x m : Int) == 0) = false := by rw [beq_eq_false_iff_ne]; omega
    have hnd := nd_top8 x m Ht.out h0
    rw [← Hm.out] at hnd
    have H := Lib.hid hnd
    have hm := make8 j (w.alloc (.cells #[Value.bool false, .string ⟨#[]⟩] 26)) (by omega)
    have hcv := conv8 (nbFn x j j) j j (w.alloc (.cells #[Value.bool false, .string ⟨#[]⟩] 26)) (nbFn_lt x j j)
    simp only [World.size_alloc] at hcv
    have H0 := Lib.hid (nbFn_zero x j j)
    clear h0 hnd h1 hle
    go_wp2_with fail
    go_loopw [7] (fun v wr => ∃ i : Nat, i ≤ j ∧ v = .int .i64 i ∧ wr = (w.alloc (.cells #[Value.bool false, .string ⟨#[]⟩] 26)).alloc (.cells (arr .u8 (nbFn x j i) j) 5)) (fun v _ => j - (intOf v).toNat)
    case atStart => exact ⟨0, Nat.zero_le _, rfl, by rw [H0.out]⟩
    case round =>
     obtain ⟨i, hi, rfl, rfl⟩ := hrel
     by_cases hlt : i < j
     ·obtain ⟨p, hp⟩ : ∃ p : Nat, p + 1 + i = j := ⟨j - 1 - i, by omega⟩
      have hci := hr i (by omega)
      have e5 : (m : Int) - (i : Int) = (p : Int) := by omega
      have hpl : p < j := by omega
      have hget := arr_get .u8 (nbFn x j i) j p hpl
      have hd := d8_byte x i
      have H1 := Lib.hid (nbFn_succ x j i p hp)
      clear hp
      go_wp2_with fail
      refine ⟨⟨i + 1, by omega, by go_num, ?_⟩, by simp [intOf]; omega⟩
      rw [← H1.out, arr_set]
     ·have e : i = j := by omega
      subst e
      clear hr
      cases neg
      all_goals
       go_wp2_with fail
       refine bodyPost_ret (by simp [results, Tryz.results90, go_sem]; rfl) rfl ?_
       refine ⟨?_, by (exact belA)⟩
       rw [nb_mag x i H.out, H.out]
       first | (simp; done) | (simp; omega)
theorem rnumber_c (neg : Bool) (v : Value) (x n : Nat) (w : World) (h : Dl w v n x) (hn : n ≤ 8589934592) : Calls Tryz.prog 90 #[.bool neg, v] w fun e w' => e = .returned (.agg #[.bool (sg (if neg then -(x : Int) else x)), .string (mg (if neg then -(x : Int) else x))]) ∧ Below w.heap.size w w' := by
 rcases h.2 with ⟨rfl, rfl⟩ | ⟨g, c, rfl, _, _, hg, hcell⟩
 ·have hx : x = 0 := by have := h.1; rw [Nat.pow_zero] at this; omega
  subst hx
  have := rnumber_nil neg w
  rw [show (if neg then -((0 : Nat) : Int) else ((0 : Nat) : Int)) = 0 by cases neg <;> rfl]
  exact this
 ·rw [← sign_empty]
  exact rnumber_some neg x n c g w h.1 hn hg hcell
end Go.Proofs.YtlblfgbpogljoaaGreatDoor
namespace Go.Proofs.YtlblfgbpogljoaaGreatDoor
open Go Go.RowKit
open Vi
end Go.Proofs.YtlblfgbpogljoaaGreatDoor
namespace Go.Proofs.YtlblfgbpogljoaaGreatDoor
open Go Go.RowKit
open Vi
set_option maxHeartbeats 400000 in
theorem at_c (v : Value) (n x i : Nat) (w : World) (h : Dl w v n x) : Calls Tryz.prog 219 #[v, .int .i64 (i : Int)] w fun e w' => e = .returned (.int .i64 (d8 x i : Nat)) ∧ w = w' := by
 rcases h.2 with ⟨rfl, rfl⟩ | ⟨g, c, rfl, hc, hm, hg, hcell⟩
 ·have e0 : d8 x i = 0 := d8_big x 0 i h.1 (Nat.zero_le _)
  rw [e0]
  have hi : ¬ (i : Int) < 0 := by omega
  clear h e0
  go_enter Tryz.func219, Tryz.ntmps219
  go_wp2
  go_ret
  exact ⟨rfl, rfl⟩
 ·by_cases hi : i < n
  ·have hci := hcell i hi
   have hi2 : (i : Int) < (n : Int) := by omega
   clear h hcell
   go_enter Tryz.func219, Tryz.ntmps219
   go_wp2
   go_ret
   exact ⟨rfl, rfl⟩
  ·have e0 : d8 x i = 0 := d8_big x n i h.1 (by omega)
   rw [e0]
   have hi2 : ¬ (i : Int) < (n : Int) := by omega
   clear h hcell e0
   go_enter Tryz.func219, Tryz.ntmps219
   go_wp2
   go_ret
   exact ⟨rfl, rfl⟩
theorem Dl.lenForm {w : World} {v : Value} {n x : Nat} (h : Dl w v n x) : ∃ ao c, v = .slice ao n c := by
 rcases h.2 with ⟨rfl, rfl⟩ | ⟨g, c, rfl, _⟩
 ·exact ⟨_, _, rfl⟩
 ·exact ⟨_, _, rfl⟩
theorem d8_div (x p : Nat) : x / 256 ^ p = d8 x p + 256 * (x / 256 ^ (p + 1)) := by
 unfold d8
 rw [Nat.pow_succ, ← Nat.div_div_eq_div_mul]; omega
theorem cmp_lt_of (x y p : Nat) (h : x / 256 ^ (p + 1) = y / 256 ^ (p + 1)) (hd : d8 x p < d8 y p) : x < y := by
 have h1 := d8_div x p
 have h2 := d8_div y p
 have h3 : x / 256 ^ p < y / 256 ^ p := by omega
 apply Nat.lt_of_not_le
 intro hle
 have := Nat.div_le_div_right (c := 256 ^ p) hle
 omega
theorem cmpN_of_lt (x y : Nat) (h : x < y) : cmpN x y = -1 := by unfold cmpN; rw [if_pos h]
theorem cmpN_of_gt (x y : Nat) (h : y < x) : cmpN x y = 1 := by unfold cmpN; rw [if_neg (by omega), if_neg (by omega)]
theorem cmpN_of_eq (x y : Nat) (h : x = y) : cmpN x y = 0 := by unfold cmpN; rw [if_neg (by omega), if_pos h]
theorem div_step (x y q : Nat) (h : x / 256 ^ (q + 1) = y / 256 ^ (q + 1)) (hd : d8 x q = d8 y q) : x / 256 ^ q = y / 256 ^ q := by
 rw [d8_div x q, d8_div y q, h, hd]
set_option maxHeartbeats 800000 in
theorem order_c (v1 v2 : Value) (n m x y : Nat) (w : World) (h1 : Dl w v1 n x) (h2 : Dl w v2 m y) (hn : n ≤ 8589934592) (hm : m ≤ 8589934592) : Calls Tryz.prog 202 #[v1, v2] w fun e w' => e = .returned (.int .i64 (cmpN x y)) ∧ w = w' := by
 obtain ⟨a1, c1, e1⟩ := h1.lenForm
 obtain ⟨a2, c2, e2⟩ := h2.lenForm
 subst e1
 subst e2
 have hmax : max (n : Int) (m : Int) = ((max n m : Nat) : Int) := by omega
 obtain ⟨N, hN⟩ : ∃ N, N = max n m := ⟨_, rfl⟩
 rw [← hN] at hmax
 have hx : x / 256 ^ N = y / 256 ^ N := by
  rw [Nat.div_eq_of_lt (Nat.lt_of_lt_of_le h1.1 (Nat.pow_le_pow_right (by omega) (by omega))), Nat.div_eq_of_lt (Nat.lt_of_lt_of_le h2.1 (Nat.pow_le_pow_right (by omega) (by omega)))]
 have hNb : N ≤ 8589934592 := by omega
 have HX := Lib.hid hx
 have A1 := Lib.hid (fun i => at_c _ n x i w h1)
 have A2 := Lib.hid (fun i => at_c _ m y i w h2)
 clear hx hN h1 h2
 go_enter Tryz.func202, Tryz.ntmps202
 go_wp2_with fail
 go_loop [5] (fun i => ∃ p : Nat, p ≤ N ∧ i = .int .i64 ((p : Int) - 1) ∧ Hid (x / 256 ^ p = y / 256 ^ p)) (fun i => (intOf i + 1).toNat)
 case atStart => exact ⟨N, Nat.le_refl _, rfl, HX⟩
 case round =>
  obtain ⟨p, hp, rfl, HP⟩ := hrel
  cases p with
  | zero =>
   go_wp2_with fail
   go_ret
   refine ⟨?_, rfl⟩
   have := HP.out
   rw [Nat.pow_zero, Nat.div_one, Nat.div_one] at this
   rw [cmpN_of_eq x y this]; rfl
  | succ q =>
   have hq : ((q + 1 : Nat) : Int) - 1 = (q : Int) := by omega
   rw [hq]
   by_cases hlt : d8 x q < d8 y q
   ·have H := Lib.hid (cmpN_of_lt x y (cmp_lt_of x y q HP.out hlt))
    have hl2 : (d8 x q : Int) < (d8 y q : Int) := by omega
    clear hlt
    go_wp2_with (go_at_call 219; (first | (with_reducible refine (A1.out _).mono ?_) | (with_reducible refine (A2.out _).mono ?_)); rintro e w' ⟨rfl, rfl⟩)
    go_ret
    exact ⟨by rw [H.out]; rfl, rfl⟩
   ·by_cases hgt : d8 y q < d8 x q
    ·have H := Lib.hid (cmpN_of_gt x y (cmp_lt_of y x q HP.out.symm hgt))
     have hl2 : ¬ (d8 x q : Int) < (d8 y q : Int) := by omega
     have hl3 : (d8 y q : Int) < (d8 x q : Int) := by omega
     clear hlt hgt
     go_wp2_with (go_at_call 219; (first | (with_reducible refine (A1.out _).mono ?_) | (with_reducible refine (A2.out _).mono ?_)); rintro e w' ⟨rfl, rfl⟩)
     go_ret
     exact ⟨by rw [H.out]; rfl, rfl⟩
    ·have hd : d8 x q = d8 y q := by omega
     have H := Lib.hid (div_step x y q HP.out hd)
     have hl2 : ¬ (d8 x q : Int) < (d8 y q : Int) := by omega
     have hl3 : ¬ (d8 y q : Int) < (d8 x q : Int) := by omega
     clear hlt hgt hd
     go_wp2_with (go_at_call 219; (first | (with_reducible refine (A1.out _).mono ?_) | (with_reducible refine (A2.out _).mono ?_)); rintro e w' ⟨rfl, rfl⟩)
     refine ⟨⟨q, by omega, by go_num, H⟩, by first | (simp [intOf]; done) | (simp [intOf]; omega)⟩
theorem agg_mg (x : Int) : num (mg x) = x.natAbs := num_mag _
set_option maxHeartbeats 400000 in
theorem rdig_c (x : Int) (w : World) (hx : (mg x).size ≤ 4294967296) : Calls Tryz.prog 200 #[.agg #[.bool (sg x), .string (mg x)]] w fun e w' => ∃ v, e = .returned v ∧ Dl w' v (mg x).size x.natAbs ∧ Below w.heap.size w w' := by
 have h := rdigits_c (sg x) (mg x) w hx
 rw [agg_mg] at h
 exact h
end Go.Proofs.YtlblfgbpogljoaaGreatDoor
namespace Go.Proofs.YtlblfgbpogljoaaGreatDoor
open Go Go.RowKit
open Vi
def cr8 (x y k : Nat) : Nat := (x % 256 ^ k + y % 256 ^ k) / 256 ^ k
theorem mod_succ8 (x k : Nat) : x % 256 ^ (k + 1) = x % 256 ^ k + 256 ^ k * d8 x k := by
 unfold d8
 rw [Nat.pow_succ, Nat.mod_mul]
theorem cr8_zero (x y : Nat) : cr8 x y 0 = 0 := by unfold cr8; simp [Nat.mod_one]
theorem cr8_mid (x y k : Nat) : (x % 256 ^ (k + 1) + y % 256 ^ (k + 1)) / 256 ^ k = d8 x k + d8 y k + cr8 x y k := by
 have hp : 0 < 256 ^ k := Nat.pow_pos (by omega)
 unfold cr8
 rw [mod_succ8, mod_succ8]
 have e : x % 256 ^ k + 256 ^ k * d8 x k + (y % 256 ^ k + 256 ^ k * d8 y k) = (x % 256 ^ k + y % 256 ^ k) + (d8 x k + d8 y k) * 256 ^ k := by
  rw [Nat.add_mul, Nat.mul_comm (d8 x k), Nat.mul_comm (d8 y k)]; omega
 rw [e, Nat.add_mul_div_right _ _ hp]; omega
theorem cr8_succ (x y k : Nat) : cr8 x y (k + 1) = (d8 x k + d8 y k + cr8 x y k) / 256 := by
 rw [← cr8_mid, Nat.div_div_eq_div_mul, ← Nat.pow_succ]; rfl
theorem d8_add (x y k : Nat) : d8 (x + y) k = (d8 x k + d8 y k + cr8 x y k) % 256 := by
 rw [← cr8_mid]
 unfold d8
 have e : (x + y) % 256 ^ (k + 1) = (x % 256 ^ (k + 1) + y % 256 ^ (k + 1)) % 256 ^ (k + 1) := Nat.add_mod _ _ _
 have h1 : ∀ z : Nat, z / 256 ^ k % 256 = z % 256 ^ (k + 1) / 256 ^ k := fun z => by
  rw [Nat.pow_succ, Nat.mod_mul_right_div_self]
 rw [h1, h1, e]
theorem cr8_le (x y k : Nat) : cr8 x y k ≤ 1 := by
 unfold cr8
 have hp : 0 < 256 ^ k := Nat.pow_pos (by omega)
 have h1 := Nat.mod_lt x hp
 have h2 := Nat.mod_lt y hp
 have : (x % 256 ^ k + y % 256 ^ k) / 256 ^ k < 2 := by
  rw [Nat.div_lt_iff_lt_mul hp]; omega
 omega
theorem cr8_end (x y k : Nat) (hx : x < 256 ^ k) (hy : y < 256 ^ k) (h : cr8 x y k = 0) : x + y < 256 ^ k := by
 unfold cr8 at h
 rw [Nat.mod_eq_of_lt hx, Nat.mod_eq_of_lt hy] at h
 exact (Nat.div_eq_zero_iff_lt (Nat.pow_pos (by omega))).1 h
theorem cr8_big (x y k : Nat) (hx : x < 256 ^ k) (hy : y < 256 ^ k) : cr8 x y (k + 1) = 0 := by
 unfold cr8
 have h1 : (256 : Nat) ^ (k + 1) = 256 ^ k * 256 := Nat.pow_succ ..
 rw [Nat.mod_eq_of_lt (by omega), Nat.mod_eq_of_lt (by omega)]
 exact Nat.div_eq_of_lt (by omega)
set_option maxRecDepth 100000 in
set_option maxHeartbeats 1600000 in
theorem rsum_c (v1 v2 : Value) (n m x y : Nat) (w : World) (h1 : Dl w v1 n x) (h2 : Dl w v2 m y) (hn : n ≤ 8589934592) (hm : m ≤ 8589934592) : Calls Tryz.prog 201 #[v1, v2] w fun e w' => ∃ v N, e = .returned v ∧ N ≤ max n m + 1 ∧ Dl w' v N (x + y) ∧ Below w.heap.size w w' := by
 obtain ⟨i0, hi, hz0, hz1, hz2⟩ := info_parts info3
 obtain ⟨a1, c1, e1⟩ := h1.lenForm
 obtain ⟨a2, c2, e2⟩ := h2.lenForm
 subst e1
 subst e2
 have hmax : max (n : Int) (m : Int) = ((max n m : Nat) : Int) := by omega
 obtain ⟨M, hM⟩ : ∃ M, M = max n m := ⟨_, rfl⟩
 rw [← hM] at hmax ⊢
 have hx : x < 256 ^ M := Nat.lt_of_lt_of_le h1.1 (Nat.pow_le_pow_right (by omega) (by omega))
 have hy : y < 256 ^ M := Nat.lt_of_lt_of_le h2.1 (Nat.pow_le_pow_right (by omega) (by omega))
 have hMb : M ≤ 8589934592 := by omega
 have A1 : Hid (∀ (i : Nat) (wr : World), Below w.heap.size w wr → Calls Tryz.prog 219 #[.slice a1 n c1, .int .i64 (i : Int)] wr fun e w' => e = .returned (.int .i64 (d8 x i : Nat)) ∧ wr = w') := Lib.hid fun i wr hb => at_c _ n x i wr (h1.below hb)
 have A2 : Hid (∀ (i : Nat) (wr : World), Below w.heap.size w wr → Calls Tryz.prog 219 #[.slice a2 m c2, .int .i64 (i : Int)] wr fun e w' => e = .returned (.int .i64 (d8 y i : Nat)) ∧ wr = w') := Lib.hid fun i wr hb => at_c _ m y i wr (h2.below hb)
 have HX := Lib.hid hx
 have HY := Lib.hid hy
 have HC0 := Lib.hid (cr8_zero x y)
 clear h1 h2 hM hx hy
 go_enter Tryz.func201, Tryz.ntmps201
 go_wp2_with fail
 go_loopw [5, 6, 7] (fun v c i wr => ∃ k : Nat, k ≤ M + 1 ∧ i = .int .i64 k ∧ c = .int .i64 (cr8 x y k : Nat) ∧ wr.ownsRow w.heap.size 3 1 v k (dvals (x + y) k) ∧ Below w.heap.size w wr) (fun _ _ i _ => M + 2 - (intOf i).toNat)
 case atStart => exact ⟨0, Nat.zero_le _, rfl, by rw [HC0.out]; rfl, World.ownsRow_nil _ _ _ _, Below.refl _ _⟩
 case round =>
  obtain ⟨k, hk, rfl, rfl, hown, hbel⟩ := hrel
  have hcle := cr8_le x y k
  by_cases hgo : k < M ∨ 0 < cr8 x y k
  ·have hkM : k ≤ M := by
     rcases hgo with h | h
     ·omega
     ·apply Decidable.byContradiction
      intro hn
      have e : k = M + 1 := by omega
      rw [e, cr8_big x y M HX.out HY.out] at h
      omega
   obtain ⟨a, ha⟩ : ∃ a, a = d8 x k := ⟨_, rfl⟩
   obtain ⟨b, hb⟩ : ∃ b, b = d8 y k := ⟨_, rfl⟩
   obtain ⟨cr, hcr⟩ : ∃ c, c = cr8 x y k := ⟨_, rfl⟩
   obtain ⟨dg1, hdg⟩ : ∃ d, d = d8 (x + y) k := ⟨_, rfl⟩
   obtain ⟨cr1, hcr1⟩ : ∃ c, c = cr8 x y (k + 1) := ⟨_, rfl⟩
   have ha2 : a < 256 := ha ▸ d8_lt x k
   have hb2 : b < 256 := hb ▸ d8_lt y k
   have hs1 : dg1 = (a + b + cr) % 256 := by rw [hdg, d8_add, ← ha, ← hb, ← hcr]
   have hs2 : cr1 = (a + b + cr) / 256 := by rw [hcr1, cr8_succ, ← ha, ← hb, ← hcr]
   have B1 := A1.out k
   have B2 := A2.out k
   rw [← ha] at B1
   rw [← hb] at B2
   have HB1 := Lib.hid (B1 wr hbel)
   have HB2 := Lib.hid (B2 wr hbel)
   rw [← hcr] at hcle hgo ⊢
   have em : ((a : Int) + (b : Int) + (cr : Int)).tmod 256 = (dg1 : Int) := by rw [Int.tmod_eq_emod_of_nonneg (by omega)]; omega
   have ed : ((a : Int) + (b : Int) + (cr : Int)).tdiv 256 = (cr1 : Int) := by rw [Int.tdiv_eq_ediv_of_nonneg (by omega)]; omega
   have Hs : Hid (dvals (x + y) k ++ [Value.int .i64 (dg1 : Nat)] = dvals (x + y) (k + 1)) := Lib.hid (by rw [hdg, dvals_succ])
   have Hc1 := Lib.hid hcr1
   have hd2 : dg1 < 256 := hdg ▸ d8_lt _ _
   have hcw : wrap64 (cr1 : Int) = (cr1 : Int) := by unfold wrap64; omega
   clear B1 B2 ha hb hcr hdg hcr1 hs1 hs2
   have hsz := hbel.size
   by_cases hlt : k < M
   ·have hlt2 : (k : Int) < (M : Int) := by omega
    clear hgo
    go_wp2_with (first | (go_at_call 219; (first | (with_reducible refine (HB1.out).mono ?_) | (with_reducible refine (HB2.out).mono ?_)); rintro e w' ⟨rfl, rfl⟩) | (at_builtin; refine wpList_append_own _ rfl _ _ 136 rfl w.heap.size 3 i0 (.int .i64 0) 1 8 Tryz.underlying136 hi hz0 hz1 hz2 rfl (by decide) _ _ _ rfl (hown.alloc _) ⟨wr.heap.size, 0, none⟩ 1 1 [.int .i64 (dg1 : Nat)] rfl rfl ?c1 ?c2 ?c3 ?c4 ?c5 ?_) | go_in)
    case c1 =>
     intro j u hj
     match j, hj with
     | 0, hj => simp at hj; subst hj; simp [Addr.add]
    case c2 => intro u hu; simp at hu; subst hu; rfl
    case c3 => unfold maxLen; omega
    case c4 => omega
    case c5 => first | (simp; done) | (simp; omega)
    intro v' w1 hown' hgrow _
    rw [Hs.out] at hown'
    have hb2 : Below w.heap.size w w1 := (hbel.alloc hsz _).grown hgrow (by first | (simp; done) | (simp; omega)) fun k' hk' => (hown.lt k' hk').1
    clear hown hgrow hbel
    go_wp2
    go_roundw
    case rel => exact ⟨k + 1, by omega, by go_num, by rw [← Hc1.out, hcw], hown', hb2⟩
    case measure => first | (simp [intOf]; done) | (simp [intOf]; omega)
   ·have hlt2 : ¬ (k : Int) < (M : Int) := by omega
    have hcp : (0 : Int) < (cr : Int) := by omega
    clear hgo
    go_wp2_with (first | (go_at_call 219; (first | (with_reducible refine (HB1.out).mono ?_) | (with_reducible refine (HB2.out).mono ?_)); rintro e w' ⟨rfl, rfl⟩) | (at_builtin; refine wpList_append_own _ rfl _ _ 136 rfl w.heap.size 3 i0 (.int .i64 0) 1 8 Tryz.underlying136 hi hz0 hz1 hz2 rfl (by decide) _ _ _ rfl (hown.alloc _) ⟨wr.heap.size, 0, none⟩ 1 1 [.int .i64 (dg1 : Nat)] rfl rfl ?c1 ?c2 ?c3 ?c4 ?c5 ?_) | go_in)
    case c1 =>
     intro j u hj
     match j, hj with
     | 0, hj => simp at hj; subst hj; simp [Addr.add]
    case c2 => intro u hu; simp at hu; subst hu; rfl
    case c3 => unfold maxLen; omega
    case c4 => omega
    case c5 => first | (simp; done) | (simp; omega)
    intro v' w1 hown' hgrow _
    rw [Hs.out] at hown'
    have hb2 : Below w.heap.size w w1 := (hbel.alloc hsz _).grown hgrow (by first | (simp; done) | (simp; omega)) fun k' hk' => (hown.lt k' hk').1
    clear hown hgrow hbel
    go_wp2
    go_roundw
    case rel => exact ⟨k + 1, by omega, by go_num, by rw [← Hc1.out, hcw], hown', hb2⟩
    case measure => first | (simp [intOf]; done) | (simp [intOf]; omega)
  ·have hk2 : ¬ (k : Int) < (M : Int) := by omega
   have hc0 : cr8 x y k = 0 := by omega
   have hxk : x < 256 ^ k := Nat.lt_of_lt_of_le HX.out (Nat.pow_le_pow_right (by omega) (by omega))
   have hyk : y < 256 ^ k := Nat.lt_of_lt_of_le HY.out (Nat.pow_le_pow_right (by omega) (by omega))
   have He := Lib.hid (cr8_end x y k hxk hyk hc0)
   rw [hc0]
   clear hxk hyk hgo hcle hc0
   go_wp2_with fail
   go_ret
   first | exact ⟨_, rfl, k, by omega, Dl.of_owned hown He.out, hbel⟩ | exact ⟨_, k, rfl, by omega, Dl.of_owned hown He.out, hbel⟩
theorem World.ownsRow.plus {w : World} {B : Nat} {e : TypeId} {size : Nat} {v : Value} {n : Nat} {xs : List Value} (h : w.ownsRow B e size v n xs) (u : World) : (w.plus u).ownsRow B e size v n xs :=
 h.kept (row := none) ⟨rfl, rfl, rfl, World.size_plus w u, fun k hk _ => World.heap_plus w u k hk⟩ (by cases hv : v.ownBlock <;> simp)
theorem cr8_sub (x y k : Nat) (h : y ≤ x) : d8 (x - y) k + d8 y k + cr8 (x - y) y k = d8 x k + 256 * cr8 (x - y) y (k + 1) := by
 have h1 := d8_add (x - y) y k
 rw [Nat.sub_add_cancel h] at h1
 have h2 := cr8_succ (x - y) y k
 omega
set_option maxRecDepth 100000 in
set_option maxHeartbeats 1600000 in
theorem rdifference_c (v1 v2 : Value) (n m x y : Nat) (w : World) (h1 : Dl w v1 n x) (h2 : Dl w v2 m y) (hn : n ≤ 8589934592) (hm : m ≤ 8589934592) (hle : y ≤ x) : Calls Tryz.prog 203 #[v1, v2] w fun e w' => ∃ v, e = .returned v ∧ Dl w' v n (x - y) ∧ Below w.heap.size w w' := by
 obtain ⟨i0, hi, hz0, hz1, hz2⟩ := info_parts info3
 obtain ⟨a1, c1, e1⟩ := h1.lenForm
 obtain ⟨a2, c2, e2⟩ := h2.lenForm
 subst e1
 subst e2
 have hx : x - y < 256 ^ n := Nat.lt_of_le_of_lt (Nat.sub_le _ _) h1.1
 have A1 : Hid (∀ (i : Nat) (wr : World), Below w.heap.size w wr → i < n → ∃ g, a1 = some ⟨g, 0, none⟩ ∧ n ≤ c1 ∧ g < wr.heap.size ∧ wr.cell? ⟨g, i, none⟩ = some (.int .i64 (d8 x i : Nat))) := Lib.hid fun i wr hb hlt => by
  rcases h1.2 with ⟨e, rfl⟩ | ⟨g, c, e, hc, _, hg, hcell⟩
  ·exact absurd hlt (by omega)
  ·cases e
   exact ⟨g, rfl, hc, Nat.lt_of_lt_of_le hg hb.size, (hb.cell (p := ⟨g, i, none⟩) hg).trans (hcell i hlt)⟩
 have A2 : Hid (∀ (i : Nat) (wr : World), Below w.heap.size w wr → Calls Tryz.prog 219 #[.slice a2 m c2, .int .i64 (i : Int)] wr fun e w' => e = .returned (.int .i64 (d8 y i : Nat)) ∧ wr = w') := Lib.hid fun i wr hb => at_c _ m y i wr (h2.below hb)
 have HX := Lib.hid hx
 have HL := Lib.hid hle
 have HC0 := Lib.hid (cr8_zero (x - y) y)
 clear h1 h2 hx hle
 go_enter Tryz.func203, Tryz.ntmps203
 go_wp2_with fail
 go_loopw [5, 6, 7] (fun v c i wr => ∃ k : Nat, k ≤ n ∧ i = .int .i64 k ∧ c = .int .i64 (cr8 (x - y) y k : Nat) ∧ wr.ownsRow w.heap.size 3 1 v k (dvals (x - y) k) ∧ Below w.heap.size w wr) (fun _ _ i _ => n - (intOf i).toNat)
 case atStart => exact ⟨0, Nat.zero_le _, rfl, by rw [HC0.out]; rfl, World.ownsRow_nil _ _ _ _, Below.refl _ _⟩
 case round =>
  obtain ⟨k, hk, rfl, rfl, hown, hbel⟩ := hrel
  by_cases hgo : k < n
  ·have hsz := hbel.size
   obtain ⟨g, rfl, hcap, hgl, hcell⟩ := A1.out k wr hbel hgo
   obtain ⟨a, ha⟩ : ∃ a, a = d8 x k := ⟨_, rfl⟩
   obtain ⟨b, hb⟩ : ∃ b, b = d8 y k := ⟨_, rfl⟩
   obtain ⟨cr, hcr⟩ : ∃ c, c = cr8 (x - y) y k := ⟨_, rfl⟩
   obtain ⟨dg1, hdg⟩ : ∃ d, d = d8 (x - y) k := ⟨_, rfl⟩
   obtain ⟨cr1, hcr1⟩ : ∃ c, c = cr8 (x - y) y (k + 1) := ⟨_, rfl⟩
   have hst := cr8_sub x y k HL.out
   have hcle := cr8_le (x - y) y k
   have hcle1 := cr8_le (x - y) y (k + 1)
   have ha2 : a < 256 := ha ▸ d8_lt x k
   have hb2 : b < 256 := hb ▸ d8_lt y k
   have hd2 : dg1 < 256 := hdg ▸ d8_lt _ _
   have Hs : Hid (dvals (x - y) k ++ [Value.int .i64 (dg1 : Nat)] = dvals (x - y) (k + 1)) := Lib.hid (by rw [hdg, dvals_succ])
   have B2 := fun u => A2.out k (wr.plus u) (hbel.trans ((World.below_plus wr u).mono hsz))
   simp only [← hb] at B2
   rw [← ha] at hcell
   rw [← hdg, ← hb, ← hcr, ← ha, ← hcr1] at hst
   rw [← hcr] at hcle ⊢
   rw [← hcr1] at hcle1
   have Hc1 := Lib.hid hcr1
   have HB2 := Lib.hid B2
   have hkn : (k : Int) < (n : Int) := by omega
   clear ha hb hcr hdg hcr1 B2
   rcases (by omega : cr1 = 0 ∨ cr1 = 1) with hz | hz
   ·subst hz
    have e1 : (a : Int) - (b : Int) - (cr : Int) = (dg1 : Int) := by omega
    have e2 : ¬ ((dg1 : Int) < 0) := by omega
    clear hst
    go_wp2_with fail
    ((first | (with_reducible refine wp_region_steady_plus (by kernel_rfl) (by kernel_rfl) ?_) | refine wp_region_steady (by kernel_rfl) (by kernel_rfl) ?_); repeat go_big_quiet_step (first | (go_at_call 219; refine Calls.same_steady (HB2.out _)))); (refine wpQuiet_nil ?_; rintro _ ⟨u, rfl⟩)
    go_wp2_with (first | (at_builtin; refine wpList_append_own _ rfl _ _ 136 rfl w.heap.size 3 i0 (.int .i64 0) 1 8 Tryz.underlying136 hi hz0 hz1 hz2 rfl (by decide) _ _ _ rfl ((World.ownsRow.plus hown u).alloc _) ⟨(wr.plus u).heap.size, 0, none⟩ 1 1 [.int .i64 (dg1 : Nat)] rfl rfl ?c1 ?c2 ?c3 ?c4 ?c5 ?_) | go_in)
    case c1 =>
     intro j u hj
     match j, hj with
     | 0, hj => simp at hj; subst hj; simp [Addr.add]
    case c2 => intro u hu; simp at hu; subst hu; rfl
    case c3 => unfold maxLen; omega
    case c4 => omega
    case c5 => have := World.size_plus wr u; first | (simp; done) | (simp; omega)
    intro v' w1 hown' hgrow _
    rw [Hs.out] at hown'
    have hbp : Below w.heap.size w (wr.plus u) := hbel.trans ((World.below_plus wr u).mono hsz)
    have hb2 : Below w.heap.size w w1 := (hbp.alloc hbp.size _).grown hgrow (by have := hbp.size; first | omega | (simp only [World.size_alloc]; omega)) fun k' hk' => ((World.ownsRow.plus hown u).lt k' hk').1
    clear hown hgrow hbel hbp
    go_wp2
    go_roundw
    case rel => exact ⟨k + 1, by omega, by go_num, by rw [← Hc1.out]; rfl, hown', hb2⟩
    case measure => first | (simp [intOf]; done) | (simp [intOf]; omega)
   ·subst hz
    have e1 : (a : Int) - (b : Int) - (cr : Int) = (dg1 : Int) - 256 := by omega
    have e2 : (dg1 : Int) - 256 < 0 := by omega
    clear hst
    go_wp2_with fail
    ((first | (with_reducible refine wp_region_steady_plus (by kernel_rfl) (by kernel_rfl) ?_) | refine wp_region_steady (by kernel_rfl) (by kernel_rfl) ?_); repeat go_big_quiet_step (first | (go_at_call 219; refine Calls.same_steady (HB2.out _)))); (refine wpQuiet_nil ?_; rintro _ ⟨u, rfl⟩)
    go_wp2_with (first | (at_builtin; refine wpList_append_own _ rfl _ _ 136 rfl w.heap.size 3 i0 (.int .i64 0) 1 8 Tryz.underlying136 hi hz0 hz1 hz2 rfl (by decide) _ _ _ rfl ((World.ownsRow.plus hown u).alloc _) ⟨(wr.plus u).heap.size, 0, none⟩ 1 1 [.int .i64 (dg1 : Nat)] rfl rfl ?c1 ?c2 ?c3 ?c4 ?c5 ?_) | go_in)
    case c1 =>
     intro j u hj
     match j, hj with
     | 0, hj => simp at hj; subst hj; simp [Addr.add]
    case c2 => intro u hu; simp at hu; subst hu; rfl
    case c3 => unfold maxLen; omega
    case c4 => omega
    case c5 => have := World.size_plus wr u; first | (simp; done) | (simp; omega)
    intro v' w1 hown' hgrow _
    rw [Hs.out] at hown'
    have hbp : Below w.heap.size w (wr.plus u) := hbel.trans ((World.below_plus wr u).mono hsz)
    have hb2 : Below w.heap.size w w1 := (hbp.alloc hbp.size _).grown hgrow (by have := hbp.size; first | omega | (simp only [World.size_alloc]; omega)) fun k' hk' => ((World.ownsRow.plus hown u).lt k' hk').1
    clear hown hgrow hbel hbp
    go_wp2
    go_roundw
    case rel => exact ⟨k + 1, by omega, by go_num, by rw [← Hc1.out]; rfl, hown', hb2⟩
    case measure => first | (simp [intOf]; done) | (simp [intOf]; omega)
  ·have e : k = n := by omega
   subst e
   go_wp2_with fail
   go_ret
   first | exact ⟨_, rfl, Dl.of_owned hown HX.out, hbel⟩ | exact ⟨_, rfl, Dl.of_owned hown HX.out, by (exact belA)⟩
def DL (w : World) (v : Value) (M x : Nat) : Prop := ∃ N, N ≤ M ∧ Dl w v N x
theorem DL.below {w w' : World} {v : Value} {M x : Nat} (h : DL w v M x) (hb : Below w.heap.size w w') : DL w' v M x := by
 obtain ⟨N, h1, h2⟩ := h
 exact ⟨N, h1, h2.below hb⟩
theorem DL.more {w : World} {v : Value} {M M' x : Nat} (h : DL w v M x) (hm : M ≤ M') : DL w v M' x := by
 obtain ⟨N, h1, h2⟩ := h
 exact ⟨N, by omega, h2⟩
theorem dig_D (x : Int) (w : World) (M : Nat) (hx : (mg x).size ≤ M) (hM : M ≤ 4294967296) : Calls Tryz.prog 200 #[.agg #[.bool (sg x), .string (mg x)]] w fun e w' => ∃ v, e = .returned v ∧ DL w' v M x.natAbs ∧ Below w.heap.size w w' :=
 (rdig_c x w (by omega)).mono fun _ _ ⟨v, h1, h2, h3⟩ => ⟨v, h1, ⟨_, hx, h2⟩, h3⟩
theorem sum_D (v1 v2 : Value) (M x y : Nat) (w : World) (h1 : DL w v1 M x) (h2 : DL w v2 M y) (hM : M ≤ 8589934592) : Calls Tryz.prog 201 #[v1, v2] w fun e w' => ∃ v, e = .returned v ∧ DL w' v (M + 1) (x + y) ∧ Below w.heap.size w w' := by
 obtain ⟨n, hn, h1⟩ := h1
 obtain ⟨m, hm, h2⟩ := h2
 exact (rsum_c v1 v2 n m x y w h1 h2 (by omega) (by omega)).mono fun _ _ ⟨v, N, h1, h2, h3, h4⟩ => ⟨v, h1, ⟨N, by omega, h3⟩, h4⟩
theorem difference_D (v1 v2 : Value) (M M2 x y z : Nat) (w : World) (h1 : DL w v1 M x) (h2 : DL w v2 M2 y) (hM : M ≤ 8589934592) (hM2 : M2 ≤ 8589934592) (hle : y ≤ x) (hz : z = x - y) : Calls Tryz.prog 203 #[v1, v2] w fun e w' => ∃ v, e = .returned v ∧ DL w' v M z ∧ Below w.heap.size w w' := by
 obtain ⟨n, hn, h1⟩ := h1
 obtain ⟨m, hm, h2⟩ := h2
 subst hz
 exact (rdifference_c v1 v2 n m x y w h1 h2 (by omega) (by omega) hle).mono fun _ _ ⟨v, h1, h2, h3⟩ => ⟨v, h1, ⟨n, hn, h2⟩, h3⟩
theorem order_D (v1 v2 : Value) (M M2 x y : Nat) (w : World) (h1 : DL w v1 M x) (h2 : DL w v2 M2 y) (hM : M ≤ 8589934592) (hM2 : M2 ≤ 8589934592) : Calls Tryz.prog 202 #[v1, v2] w fun e w' => e = .returned (.int .i64 (cmpN x y)) ∧ w = w' := by
 obtain ⟨n, hn, h1⟩ := h1
 obtain ⟨m, hm, h2⟩ := h2
 exact order_c v1 v2 n m x y w h1 h2 (by omega) (by omega)
theorem number_D (neg : Bool) (v : Value) (M x : Nat) (z : Int) (w : World) (h : DL w v M x) (hM : M ≤ 8589934592) (hz : z = if neg then -(x : Int) else x) : Calls Tryz.prog 90 #[.bool neg, v] w fun e w' => e = .returned (.agg #[.bool (sg z), .string (mg z)]) ∧ Below w.heap.size w w' := by
 obtain ⟨n, hn, h⟩ := h
 subst hz
 exact rnumber_c neg v x n w h (by omega)
theorem add_like (x y : Int) (h : sg x = sg y) : x + y = if sg x then -((x.natAbs + y.natAbs : Nat) : Int) else ((x.natAbs + y.natAbs : Nat) : Int) := by
 by_cases hx : x < 0
 ·have h1 := sg_true x hx
  rw [h1] at h ⊢
  by_cases hy : y < 0
  ·rw [if_pos rfl]; omega
  ·rw [sg_false y (by omega)] at h; cases h
 ·have h1 := sg_false x (by omega)
  rw [h1] at h ⊢
  by_cases hy : y < 0
  ·rw [sg_true y hy] at h; cases h
  ·rw [if_neg (by simp)]; omega
theorem add_unlike (x y : Int) (h : sg x ≠ sg y) (hle : y.natAbs ≤ x.natAbs) : x + y = if sg x then -((x.natAbs - y.natAbs : Nat) : Int) else ((x.natAbs - y.natAbs : Nat) : Int) := by
 by_cases hx : x < 0
 ·have h1 := sg_true x hx
  rw [h1] at h ⊢
  by_cases hy : y < 0
  ·rw [sg_true y hy] at h; exact absurd rfl h
  ·rw [if_pos rfl]; omega
 ·have h1 := sg_false x (by omega)
  rw [h1] at h ⊢
  by_cases hy : y < 0
  ·rw [if_neg (by simp)]; omega
  ·rw [sg_false y (by omega)] at h; exact absurd rfl h
theorem cmpN_neg_iff (x y : Nat) : (cmpN x y < 0) = (x < y) := by
 unfold cmpN; rw [eq_iff_iff]; repeat' split
 all_goals omega
set_option maxRecDepth 100000 in
set_option maxHeartbeats 800000 in
theorem rAdd_c (x y z : Int) (hz : z = x + y) (w : World) (hx : (mg x).size ≤ 4294967296) (hy : (mg y).size ≤ 4294967296) : Calls Tryz.prog 179 #[.agg #[.bool (sg x), .string (mg x)], .agg #[.bool (sg y), .string (mg y)]] w fun e w' => e = .returned (.agg #[.bool (sg z), .string (mg z)]) ∧ Below w.heap.size w w' := by
 have h3 := Lib.hid (fun w => dig_D x w 4294967296 hx (by omega))
 have h4 := Lib.hid (fun w => dig_D y w 4294967296 hy (by omega))
 go_enter Tryz.func179, Tryz.ntmps179
 go_wp2_with fail
 refine wp_region_facts (fun i v w9 => match i with
  | 0 => v = .agg #[.bool (sg x), .string (mg x)]
  | 1 => DL w9 v 4294967296 x.natAbs
  | 2 => v = .agg #[.bool (sg y), .string (mg y)]
  | 3 => DL w9 v 4294967296 y.natAbs
  | 4 => DL w9 v 4294967296 x.natAbs
  | 5 => DL w9 v 4294967296 y.natAbs
  | _ => True) (by kernel_rfl) (by kernel_rfl) ?_ ?_ ?_
 ·intro i v w1 w2 hb h
  match i, h with
  | 0, h => exact h
  | 1, h => exact DL.below h hb
  | 2, h => exact h
  | 3, h => exact DL.below h hb
  | 4, h => exact DL.below h hb
  | 5, h => exact DL.below h hb
  | k + 6, h => exact trivial
 ·refine KindSteps.cons ?_ ?_
  ·intro xs w9 hw hd
   (first | (with_reducible have hw2 := World.plus_of_below ((World.below_plus _ _).trans (hw.mono (World.size_plus _ _))); obtain ⟨u, rfl⟩ := hw2) | (obtain ⟨u, rfl⟩ := World.plus_of_below hw))
   simp only [fill, Act.put, List.take_succ_cons, List.take_zero, List.drop_succ_cons, List.drop_zero, Nat.reduceAdd, Nat.zero_add, List.setIfInBounds_toArray, List.set_cons_succ, List.set_cons_zero, if_true, if_false, Nat.reduceEqDiff, reduceIte]
   go_wp2_with fail
   all_goals (first | exact Below.refl _ _ | ((first | refine ⟨?_, _, rfl, rfl⟩ | refine ⟨rfl, ?_, _, rfl, rfl⟩ | refine ⟨?_, rfl⟩); (exact belA)) | exact Fresh.old rfl | exact Fresh.new _ _ _)
  refine KindSteps.cons ?_ ?_
  ·intro xs w9 hw hd
   (first | (with_reducible have hw2 := World.plus_of_below ((World.below_plus _ _).trans (hw.mono (World.size_plus _ _))); obtain ⟨u, rfl⟩ := hw2) | (obtain ⟨u, rfl⟩ := World.plus_of_below hw))
   simp only [fill, Act.put, List.take_succ_cons, List.take_zero, List.drop_succ_cons, List.drop_zero, Nat.reduceAdd, Nat.zero_add, List.setIfInBounds_toArray, List.set_cons_succ, List.set_cons_zero, if_true, if_false, Nat.reduceEqDiff, reduceIte]
   have f0 : (xs 0) = .agg #[.bool (sg x), .string (mg x)] := hd 0 (by kernel_rfl); simp only [f0]
   go_wp2_with (go_at_call 200; refine (h3.out _).mono ?_; rintro e w8 ⟨v, rfl, hdl, hb⟩)
   all_goals (first | exact Below.refl _ _ | exact hb | exact hdl | exact ⟨hb, hdl⟩ | exact ⟨hb, _, rfl, hdl⟩ | exact ⟨rfl, hb, _, rfl, hdl⟩)
  refine KindSteps.cons ?_ ?_
  ·intro xs w9 hw hd
   (first | (with_reducible have hw2 := World.plus_of_below ((World.below_plus _ _).trans (hw.mono (World.size_plus _ _))); obtain ⟨u, rfl⟩ := hw2) | (obtain ⟨u, rfl⟩ := World.plus_of_below hw))
   simp only [fill, Act.put, List.take_succ_cons, List.take_zero, List.drop_succ_cons, List.drop_zero, Nat.reduceAdd, Nat.zero_add, List.setIfInBounds_toArray, List.set_cons_succ, List.set_cons_zero, if_true, if_false, Nat.reduceEqDiff, reduceIte]
   go_wp2_with fail
   all_goals (first | exact Below.refl _ _ | ((first | refine ⟨?_, _, rfl, rfl⟩ | refine ⟨rfl, ?_, _, rfl, rfl⟩ | refine ⟨?_, rfl⟩); (exact belA)) | exact Fresh.old rfl | exact Fresh.new _ _ _)
  refine KindSteps.cons ?_ ?_
  ·intro xs w9 hw hd
   (first | (with_reducible have hw2 := World.plus_of_below ((World.below_plus _ _).trans (hw.mono (World.size_plus _ _))); obtain ⟨u, rfl⟩ := hw2) | (obtain ⟨u, rfl⟩ := World.plus_of_below hw))
   simp only [fill, Act.put, List.take_succ_cons, List.take_zero, List.drop_succ_cons, List.drop_zero, Nat.reduceAdd, Nat.zero_add, List.setIfInBounds_toArray, List.set_cons_succ, List.set_cons_zero, if_true, if_false, Nat.reduceEqDiff, reduceIte]
   have f2 : (xs 2) = .agg #[.bool (sg y), .string (mg y)] := hd 2 (by kernel_rfl); simp only [f2]
   go_wp2_with (go_at_call 200; refine (h4.out _).mono ?_; rintro e w8 ⟨v, rfl, hdl, hb⟩)
   all_goals (first | exact Below.refl _ _ | exact hb | exact hdl | exact ⟨hb, hdl⟩ | exact ⟨hb, _, rfl, hdl⟩ | exact ⟨rfl, hb, _, rfl, hdl⟩)
  refine KindSteps.cons ?_ ?_
  ·intro xs w9 hw hd
   (first | (with_reducible have hw2 := World.plus_of_below ((World.below_plus _ _).trans (hw.mono (World.size_plus _ _))); obtain ⟨u, rfl⟩ := hw2) | (obtain ⟨u, rfl⟩ := World.plus_of_below hw))
   simp only [fill, Act.put, List.take_succ_cons, List.take_zero, List.drop_succ_cons, List.drop_zero, Nat.reduceAdd, Nat.zero_add, List.setIfInBounds_toArray, List.set_cons_succ, List.set_cons_zero, if_true, if_false, Nat.reduceEqDiff, reduceIte]
   have f1 : DL _ (xs 1) 4294967296 x.natAbs := hd 1 (by kernel_rfl)
   go_wp2_with fail
   all_goals (first | exact Below.refl _ _ | ((first | refine ⟨?_, _, rfl, f1⟩ | refine ⟨rfl, ?_, _, rfl, f1⟩ | refine ⟨?_, f1⟩); (exact belA)) | exact Fresh.old rfl | exact Fresh.new _ _ _)
  refine KindSteps.cons ?_ ?_
  ·intro xs w9 hw hd
   (first | (with_reducible have hw2 := World.plus_of_below ((World.below_plus _ _).trans (hw.mono (World.size_plus _ _))); obtain ⟨u, rfl⟩ := hw2) | (obtain ⟨u, rfl⟩ := World.plus_of_below hw))
   simp only [fill, Act.put, List.take_succ_cons, List.take_zero, List.drop_succ_cons, List.drop_zero, Nat.reduceAdd, Nat.zero_add, List.setIfInBounds_toArray, List.set_cons_succ, List.set_cons_zero, if_true, if_false, Nat.reduceEqDiff, reduceIte]
   have f3 : DL _ (xs 3) 4294967296 y.natAbs := hd 3 (by kernel_rfl)
   go_wp2_with fail
   all_goals (first | exact Below.refl _ _ | ((first | refine ⟨?_, _, rfl, f3⟩ | refine ⟨rfl, ?_, _, rfl, f3⟩ | refine ⟨?_, f3⟩); (exact belA)) | exact Fresh.old rfl | exact Fresh.new _ _ _)
  exact KindSteps.nil
 intro xs w9 hw hd
 (first | (with_reducible have hw2 := World.plus_of_below ((World.below_plus _ _).trans (hw.mono (World.size_plus _ _))); obtain ⟨u, rfl⟩ := hw2) | (obtain ⟨u, rfl⟩ := World.plus_of_below hw))
 simp only [fill, Act.put, List.take_succ_cons, List.take_zero, List.drop_succ_cons, List.drop_zero, Nat.reduceAdd, Nat.zero_add, List.setIfInBounds_toArray, List.set_cons_succ, List.set_cons_zero, if_true, if_false, Nat.reduceEqDiff, reduceIte]
 have f0 : (xs 0) = .agg #[.bool (sg x), .string (mg x)] := hd 0 (by decide)
 simp only [f0]
 have f1 : DL _ (xs 1) 4294967296 x.natAbs := hd 1 (by decide)
 have f2 : (xs 2) = .agg #[.bool (sg y), .string (mg y)] := hd 2 (by decide)
 simp only [f2]
 have f3 : DL _ (xs 3) 4294967296 y.natAbs := hd 3 (by decide)
 have f4 : DL _ (xs 4) 4294967296 x.natAbs := hd 4 (by decide)
 have f5 : DL _ (xs 5) 4294967296 y.natAbs := hd 5 (by decide)
 clear hd
 obtain ⟨v1, hv1⟩ : ∃ v, v = xs 4 := ⟨_, rfl⟩
 obtain ⟨v2, hv2⟩ : ∃ v, v = xs 5 := ⟨_, rfl⟩
 rw [← hv1] at f4 ⊢
 rw [← hv2] at f5 ⊢
 have g1 := f4
 have g2 := f5
 clear f1 f3 f4 f5 hv1 hv2 hw
 by_cases h : sg x = sg y
 ·have hb : (sg x == sg y) = true := by simpa using h
  have hzz := add_like x y h
  rw [← hz] at hzz
  have HZ := Lib.hid hzz
  clear hz hzz h
  go_wp2_with fail
  refine wp_region_facts_t 6 (fun i v w9 => match i with
   | 0 => v = .pointer (some ⟨w.heap.size, 0, none⟩)
   | 1 => v = .bool (sg x)
   | 2 => v = v1
   | 3 => v = v2
   | 4 => DL w9 v 4294967297 (x.natAbs + y.natAbs)
   | 5 => v = .agg #[.bool (sg z), .string (mg z)]
   | _ => True) (by kernel_rfl) (by kernel_rfl) ?_ ?_ ?_
  ·intro i v w1 w2 hb h
   match i, h with
   | 0, h => exact h
   | 1, h => exact h
   | 2, h => exact h
   | 3, h => exact h
   | 4, h => exact DL.below h hb
   | 5, h => exact h
   | k + 6, h => exact trivial
  ·simp only [List.take_succ_cons, List.take_zero];
   refine KindSteps.cons ?_ ?_
   ·intro xs w9 hw hd
    have g1 := g1.below hw; have g2 := g2.below hw; (first | (with_reducible have hw2 := World.plus_of_below ((World.below_plus _ _).trans (hw.mono (World.size_plus _ _))); obtain ⟨u, rfl⟩ := hw2) | (obtain ⟨u, rfl⟩ := World.plus_of_below hw))
    simp only [fill, Act.put, List.take_succ_cons, List.take_zero, List.drop_succ_cons, List.drop_zero, Nat.reduceAdd, Nat.zero_add, List.setIfInBounds_toArray, List.set_cons_succ, List.set_cons_zero, if_true, if_false, Nat.reduceEqDiff, reduceIte]
    go_wp2_with fail
    all_goals (first | exact Below.refl _ _ | ((first | refine ⟨?_, _, rfl, rfl⟩ | refine ⟨rfl, ?_, _, rfl, rfl⟩ | refine ⟨?_, rfl⟩); (exact belA)) | exact Fresh.old rfl | exact Fresh.new _ _ _)
   refine KindSteps.cons ?_ ?_
   ·intro xs w9 hw hd
    have g1 := g1.below hw; have g2 := g2.below hw; (first | (with_reducible have hw2 := World.plus_of_below ((World.below_plus _ _).trans (hw.mono (World.size_plus _ _))); obtain ⟨u, rfl⟩ := hw2) | (obtain ⟨u, rfl⟩ := World.plus_of_below hw))
    simp only [fill, Act.put, List.take_succ_cons, List.take_zero, List.drop_succ_cons, List.drop_zero, Nat.reduceAdd, Nat.zero_add, List.setIfInBounds_toArray, List.set_cons_succ, List.set_cons_zero, if_true, if_false, Nat.reduceEqDiff, reduceIte]
    have f0 : (xs 0) = .pointer (some ⟨w.heap.size, 0, none⟩) := hd 0 (by kernel_rfl); simp only [f0]
    go_wp2_with fail
    all_goals (first | exact Below.refl _ _ | ((first | refine ⟨?_, _, rfl, rfl⟩ | refine ⟨rfl, ?_, _, rfl, rfl⟩ | refine ⟨?_, rfl⟩); (exact belA)) | exact Fresh.old rfl | exact Fresh.new _ _ _)
   refine KindSteps.cons ?_ ?_
   ·intro xs w9 hw hd
    have g1 := g1.below hw; have g2 := g2.below hw; (first | (with_reducible have hw2 := World.plus_of_below ((World.below_plus _ _).trans (hw.mono (World.size_plus _ _))); obtain ⟨u, rfl⟩ := hw2) | (obtain ⟨u, rfl⟩ := World.plus_of_below hw))
    simp only [fill, Act.put, List.take_succ_cons, List.take_zero, List.drop_succ_cons, List.drop_zero, Nat.reduceAdd, Nat.zero_add, List.setIfInBounds_toArray, List.set_cons_succ, List.set_cons_zero, if_true, if_false, Nat.reduceEqDiff, reduceIte]
    go_wp2_with fail
    all_goals (first | exact Below.refl _ _ | ((first | refine ⟨?_, _, rfl, rfl⟩ | refine ⟨rfl, ?_, _, rfl, rfl⟩ | refine ⟨?_, rfl⟩); (exact belA)) | exact Fresh.old rfl | exact Fresh.new _ _ _)
   refine KindSteps.cons ?_ ?_
   ·intro xs w9 hw hd
    have g1 := g1.below hw; have g2 := g2.below hw; (first | (with_reducible have hw2 := World.plus_of_below ((World.below_plus _ _).trans (hw.mono (World.size_plus _ _))); obtain ⟨u, rfl⟩ := hw2) | (obtain ⟨u, rfl⟩ := World.plus_of_below hw))
    simp only [fill, Act.put, List.take_succ_cons, List.take_zero, List.drop_succ_cons, List.drop_zero, Nat.reduceAdd, Nat.zero_add, List.setIfInBounds_toArray, List.set_cons_succ, List.set_cons_zero, if_true, if_false, Nat.reduceEqDiff, reduceIte]
    go_wp2_with fail
    all_goals (first | exact Below.refl _ _ | ((first | refine ⟨?_, _, rfl, rfl⟩ | refine ⟨rfl, ?_, _, rfl, rfl⟩ | refine ⟨?_, rfl⟩); (exact belA)) | exact Fresh.old rfl | exact Fresh.new _ _ _)
   refine KindSteps.cons ?_ ?_
   ·intro xs w9 hw hd
    have g1 := g1.below hw; have g2 := g2.below hw; (first | (with_reducible have hw2 := World.plus_of_below ((World.below_plus _ _).trans (hw.mono (World.size_plus _ _))); obtain ⟨u, rfl⟩ := hw2) | (obtain ⟨u, rfl⟩ := World.plus_of_below hw))
    simp only [fill, Act.put, List.take_succ_cons, List.take_zero, List.drop_succ_cons, List.drop_zero, Nat.reduceAdd, Nat.zero_add, List.setIfInBounds_toArray, List.set_cons_succ, List.set_cons_zero, if_true, if_false, Nat.reduceEqDiff, reduceIte]
    have f2 : (xs 2) = v1 := hd 2 (by kernel_rfl); simp only [f2]
    have f3 : (xs 3) = v2 := hd 3 (by kernel_rfl); simp only [f3]
    go_wp2_with (go_at_call 201; refine (sum_D _ _ _ _ _ _ g1 g2 (by omega)).mono ?_; rintro e w8 ⟨v, rfl, hdl, hb⟩)
    all_goals (first | exact Below.refl _ _ | exact hb | exact hdl | exact ⟨hb, hdl⟩ | exact ⟨hb, _, rfl, hdl⟩ | exact ⟨rfl, hb, _, rfl, hdl⟩)
   refine KindSteps.cons ?_ ?_
   ·intro xs w9 hw hd
    have g1 := g1.below hw; have g2 := g2.below hw; (first | (with_reducible have hw2 := World.plus_of_below ((World.below_plus _ _).trans (hw.mono (World.size_plus _ _))); obtain ⟨u, rfl⟩ := hw2) | (obtain ⟨u, rfl⟩ := World.plus_of_below hw))
    simp only [fill, Act.put, List.take_succ_cons, List.take_zero, List.drop_succ_cons, List.drop_zero, Nat.reduceAdd, Nat.zero_add, List.setIfInBounds_toArray, List.set_cons_succ, List.set_cons_zero, if_true, if_false, Nat.reduceEqDiff, reduceIte]
    have f1 : (xs 1) = .bool (sg x) := hd 1 (by kernel_rfl); simp only [f1]
    have f4 : DL _ (xs 4) 4294967297 (x.natAbs + y.natAbs) := hd 4 (by kernel_rfl)
    go_wp2_with (go_at_call 90; refine (number_D _ _ _ _ _ _ f4 (by omega) HZ.out).mono ?_; rintro e w8 ⟨rfl, hb⟩)
    all_goals (first | exact Below.refl _ _ | exact hb | exact ⟨hb, _, rfl, rfl⟩ | exact ⟨rfl, hb, _, rfl, rfl⟩)
   exact KindSteps.nil
  intro xs w9 hw hd
  have g1 := g1.below hw; have g2 := g2.below hw; (first | (with_reducible have hw2 := World.plus_of_below ((World.below_plus _ _).trans (hw.mono (World.size_plus _ _))); obtain ⟨u, rfl⟩ := hw2) | (obtain ⟨u, rfl⟩ := World.plus_of_below hw))
  simp only [fill, Act.put, List.take_succ_cons, List.take_zero, List.drop_succ_cons, List.drop_zero, Nat.reduceAdd, Nat.zero_add, List.setIfInBounds_toArray, List.set_cons_succ, List.set_cons_zero, if_true, if_false, Nat.reduceEqDiff, reduceIte]
  have f0 : (xs 0) = .pointer (some ⟨w.heap.size, 0, none⟩) := hd 0 (by decide)
  simp only [f0]
  have f1 : (xs 1) = .bool (sg x) := hd 1 (by decide)
  simp only [f1]
  have f2 : (xs 2) = v1 := hd 2 (by decide)
  simp only [f2]
  have f3 : (xs 3) = v2 := hd 3 (by decide)
  simp only [f3]
  have f4 : DL _ (xs 4) 4294967297 (x.natAbs + y.natAbs) := hd 4 (by decide)
  have f5 : (xs 5) = .agg #[.bool (sg z), .string (mg z)] := hd 5 (by decide)
  simp only [f5]
  clear hd
  go_wp2_with fail
  refine bodyPost_ret (by simp [results, Tryz.results179, go_sem]; rfl) rfl ?_
  exact ⟨rfl, by (exact belA)⟩
 ·have hb : (sg x == sg y) = false := by simpa using h
  have HO := Lib.hid (order_D v1 v2 _ _ _ _ _ g1 g2 (by omega) (by omega))
  by_cases hlt : x.natAbs < y.natAbs
  ·have hc : (cmpN x.natAbs y.natAbs < 0) := by rw [cmpN_neg_iff]; exact hlt
   have hzz := add_unlike y x (Ne.symm h) (by omega)
   rw [Int.add_comm, ← hz] at hzz
   have HZ := Lib.hid hzz
   have HL := Lib.hid (Nat.le_of_lt hlt)
   clear hz hzz h hlt
   go_wp2_with fail
   refine (HO.out).mono ?_
   rintro e w' ⟨rfl, rfl⟩
   go_wp2_with fail
   refine wp_region_facts_t 6 (fun i v w9 => match i with
    | 0 => v = .pointer (some ⟨w.heap.size + 1, 0, none⟩)
    | 1 => v = .bool (sg y)
    | 2 => v = v2
    | 3 => v = v1
    | 4 => DL w9 v 4294967296 (y.natAbs - x.natAbs)
    | 5 => v = .agg #[.bool (sg z), .string (mg z)]
    | _ => True) (by kernel_rfl) (by kernel_rfl) ?_ ?_ ?_
   ·intro i v w1 w2 hb h
    match i, h with
    | 0, h => exact h
    | 1, h => exact h
    | 2, h => exact h
    | 3, h => exact h
    | 4, h => exact DL.below h hb
    | 5, h => exact h
    | k + 6, h => exact trivial
   ·simp only [List.take_succ_cons, List.take_zero];
    refine KindSteps.cons ?_ ?_
    ·intro xs w9 hw hd
     have g1 := g1.below hw; have g2 := g2.below hw; (first | (with_reducible have hw2 := World.plus_of_below ((World.below_plus _ _).trans (hw.mono (World.size_plus _ _))); obtain ⟨u, rfl⟩ := hw2) | (obtain ⟨u, rfl⟩ := World.plus_of_below hw))
     simp only [fill, Act.put, List.take_succ_cons, List.take_zero, List.drop_succ_cons, List.drop_zero, Nat.reduceAdd, Nat.zero_add, List.setIfInBounds_toArray, List.set_cons_succ, List.set_cons_zero, if_true, if_false, Nat.reduceEqDiff, reduceIte]
     go_wp2_with fail
     all_goals (first | exact Below.refl _ _ | ((first | refine ⟨?_, _, rfl, rfl⟩ | refine ⟨rfl, ?_, _, rfl, rfl⟩ | refine ⟨?_, rfl⟩); (exact belA)) | exact Fresh.old rfl | exact Fresh.new _ _ _)
    refine KindSteps.cons ?_ ?_
    ·intro xs w9 hw hd
     have g1 := g1.below hw; have g2 := g2.below hw; (first | (with_reducible have hw2 := World.plus_of_below ((World.below_plus _ _).trans (hw.mono (World.size_plus _ _))); obtain ⟨u, rfl⟩ := hw2) | (obtain ⟨u, rfl⟩ := World.plus_of_below hw))
     simp only [fill, Act.put, List.take_succ_cons, List.take_zero, List.drop_succ_cons, List.drop_zero, Nat.reduceAdd, Nat.zero_add, List.setIfInBounds_toArray, List.set_cons_succ, List.set_cons_zero, if_true, if_false, Nat.reduceEqDiff, reduceIte]
     have f0 : (xs 0) = .pointer (some ⟨w.heap.size + 1, 0, none⟩) := hd 0 (by kernel_rfl); simp only [f0]
     go_wp2_with fail
     all_goals (first | exact Below.refl _ _ | ((first | refine ⟨?_, _, rfl, rfl⟩ | refine ⟨rfl, ?_, _, rfl, rfl⟩ | refine ⟨?_, rfl⟩); (exact belA)) | exact Fresh.old rfl | exact Fresh.new _ _ _)
    refine KindSteps.cons ?_ ?_
    ·intro xs w9 hw hd
     have g1 := g1.below hw; have g2 := g2.below hw; (first | (with_reducible have hw2 := World.plus_of_below ((World.below_plus _ _).trans (hw.mono (World.size_plus _ _))); obtain ⟨u, rfl⟩ := hw2) | (obtain ⟨u, rfl⟩ := World.plus_of_below hw))
     simp only [fill, Act.put, List.take_succ_cons, List.take_zero, List.drop_succ_cons, List.drop_zero, Nat.reduceAdd, Nat.zero_add, List.setIfInBounds_toArray, List.set_cons_succ, List.set_cons_zero, if_true, if_false, Nat.reduceEqDiff, reduceIte]
     go_wp2_with fail
     all_goals (first | exact Below.refl _ _ | ((first | refine ⟨?_, _, rfl, rfl⟩ | refine ⟨rfl, ?_, _, rfl, rfl⟩ | refine ⟨?_, rfl⟩); (exact belA)) | exact Fresh.old rfl | exact Fresh.new _ _ _)
    refine KindSteps.cons ?_ ?_
    ·intro xs w9 hw hd
     have g1 := g1.below hw; have g2 := g2.below hw; (first | (with_reducible have hw2 := World.plus_of_below ((World.below_plus _ _).trans (hw.mono (World.size_plus _ _))); obtain ⟨u, rfl⟩ := hw2) | (obtain ⟨u, rfl⟩ := World.plus_of_below hw))
     simp only [fill, Act.put, List.take_succ_cons, List.take_zero, List.drop_succ_cons, List.drop_zero, Nat.reduceAdd, Nat.zero_add, List.setIfInBounds_toArray, List.set_cons_succ, List.set_cons_zero, if_true, if_false, Nat.reduceEqDiff, reduceIte]
     go_wp2_with fail
     all_goals (first | exact Below.refl _ _ | ((first | refine ⟨?_, _, rfl, rfl⟩ | refine ⟨rfl, ?_, _, rfl, rfl⟩ | refine ⟨?_, rfl⟩); (exact belA)) | exact Fresh.old rfl | exact Fresh.new _ _ _)
    refine KindSteps.cons ?_ ?_
    ·intro xs w9 hw hd
     have g1 := g1.below hw; have g2 := g2.below hw; (first | (with_reducible have hw2 := World.plus_of_below ((World.below_plus _ _).trans (hw.mono (World.size_plus _ _))); obtain ⟨u, rfl⟩ := hw2) | (obtain ⟨u, rfl⟩ := World.plus_of_below hw))
     simp only [fill, Act.put, List.take_succ_cons, List.take_zero, List.drop_succ_cons, List.drop_zero, Nat.reduceAdd, Nat.zero_add, List.setIfInBounds_toArray, List.set_cons_succ, List.set_cons_zero, if_true, if_false, Nat.reduceEqDiff, reduceIte]
     have f2 : (xs 2) = v2 := hd 2 (by kernel_rfl); simp only [f2]
     have f3 : (xs 3) = v1 := hd 3 (by kernel_rfl); simp only [f3]
     go_wp2_with (go_at_call 203; refine (difference_D _ _ _ _ _ _ _ _ g2 g1 (by omega) (by omega) HL.out rfl).mono ?_; rintro e w8 ⟨v, rfl, hdl, hb⟩)
     all_goals (first | exact Below.refl _ _ | exact hb | exact hdl | exact ⟨hb, hdl⟩ | exact ⟨hb, _, rfl, hdl⟩ | exact ⟨rfl, hb, _, rfl, hdl⟩)
    refine KindSteps.cons ?_ ?_
    ·intro xs w9 hw hd
     have g1 := g1.below hw; have g2 := g2.below hw; (first | (with_reducible have hw2 := World.plus_of_below ((World.below_plus _ _).trans (hw.mono (World.size_plus _ _))); obtain ⟨u, rfl⟩ := hw2) | (obtain ⟨u, rfl⟩ := World.plus_of_below hw))
     simp only [fill, Act.put, List.take_succ_cons, List.take_zero, List.drop_succ_cons, List.drop_zero, Nat.reduceAdd, Nat.zero_add, List.setIfInBounds_toArray, List.set_cons_succ, List.set_cons_zero, if_true, if_false, Nat.reduceEqDiff, reduceIte]
     have f1 : (xs 1) = .bool (sg y) := hd 1 (by kernel_rfl); simp only [f1]
     have f4 : DL _ (xs 4) 4294967296 (y.natAbs - x.natAbs) := hd 4 (by kernel_rfl)
     go_wp2_with (go_at_call 90; refine (number_D _ _ _ _ _ _ f4 (by omega) HZ.out).mono ?_; rintro e w8 ⟨rfl, hb⟩)
     all_goals (first | exact Below.refl _ _ | exact hb | exact ⟨hb, _, rfl, rfl⟩ | exact ⟨rfl, hb, _, rfl, rfl⟩)
    exact KindSteps.nil
   intro xs w9 hw hd
   have g1 := g1.below hw; have g2 := g2.below hw; (first | (with_reducible have hw2 := World.plus_of_below ((World.below_plus _ _).trans (hw.mono (World.size_plus _ _))); obtain ⟨u, rfl⟩ := hw2) | (obtain ⟨u, rfl⟩ := World.plus_of_below hw))
   simp only [fill, Act.put, List.take_succ_cons, List.take_zero, List.drop_succ_cons, List.drop_zero, Nat.reduceAdd, Nat.zero_add, List.setIfInBounds_toArray, List.set_cons_succ, List.set_cons_zero, if_true, if_false, Nat.reduceEqDiff, reduceIte]
   have f0 : (xs 0) = .pointer (some ⟨w.heap.size + 1, 0, none⟩) := hd 0 (by decide)
   simp only [f0]
   have f1 : (xs 1) = .bool (sg y) := hd 1 (by decide)
   simp only [f1]
   have f2 : (xs 2) = v2 := hd 2 (by decide)
   simp only [f2]
   have f3 : (xs 3) = v1 := hd 3 (by decide)
   simp only [f3]
   have f4 : DL _ (xs 4) 4294967296 (y.natAbs - x.natAbs) := hd 4 (by decide)
   have f5 : (xs 5) = .agg #[.bool (sg z), .string (mg z)] := hd 5 (by decide)
   simp only [f5]
   clear hd
   go_wp2_with fail
   refine bodyPost_ret (by simp [results, Tryz.results179, go_sem]; rfl) rfl ?_
   exact ⟨rfl, by (exact belA)⟩
  ·have hc : ¬ (cmpN x.natAbs y.natAbs < 0) := by rw [cmpN_neg_iff]; exact hlt
   have hzz := add_unlike x y h (by omega)
   rw [← hz] at hzz
   have HZ := Lib.hid hzz
   have HL := Lib.hid (Nat.le_of_not_lt hlt)
   clear hz hzz h hlt
   go_wp2_with fail
   refine (HO.out).mono ?_
   rintro e w' ⟨rfl, rfl⟩
   go_wp2_with fail
   refine wp_region_facts_t 6 (fun i v w9 => match i with
    | 0 => v = .pointer (some ⟨w.heap.size, 0, none⟩)
    | 1 => v = .bool (sg x)
    | 2 => v = v1
    | 3 => v = v2
    | 4 => DL w9 v 4294967296 (x.natAbs - y.natAbs)
    | 5 => v = .agg #[.bool (sg z), .string (mg z)]
    | _ => True) (by kernel_rfl) (by kernel_rfl) ?_ ?_ ?_
   ·intro i v w1 w2 hb h
    match i, h with
    | 0, h => exact h
    | 1, h => exact h
    | 2, h => exact h
    | 3, h => exact h
    | 4, h => exact DL.below h hb
    | 5, h => exact h
    | k + 6, h => exact trivial
   ·simp only [List.take_succ_cons, List.take_zero];
    refine KindSteps.cons ?_ ?_
    ·intro xs w9 hw hd
     have g1 := g1.below hw; have g2 := g2.below hw; (first | (with_reducible have hw2 := World.plus_of_below ((World.below_plus _ _).trans (hw.mono (World.size_plus _ _))); obtain ⟨u, rfl⟩ := hw2) | (obtain ⟨u, rfl⟩ := World.plus_of_below hw))
     simp only [fill, Act.put, List.take_succ_cons, List.take_zero, List.drop_succ_cons, List.drop_zero, Nat.reduceAdd, Nat.zero_add, List.setIfInBounds_toArray, List.set_cons_succ, List.set_cons_zero, if_true, if_false, Nat.reduceEqDiff, reduceIte]
     go_wp2_with fail
     all_goals (first | exact Below.refl _ _ | ((first | refine ⟨?_, _, rfl, rfl⟩ | refine ⟨rfl, ?_, _, rfl, rfl⟩ | refine ⟨?_, rfl⟩); (exact belA)) | exact Fresh.old rfl | exact Fresh.new _ _ _)
    refine KindSteps.cons ?_ ?_
    ·intro xs w9 hw hd
     have g1 := g1.below hw; have g2 := g2.below hw; (first | (with_reducible have hw2 := World.plus_of_below ((World.below_plus _ _).trans (hw.mono (World.size_plus _ _))); obtain ⟨u, rfl⟩ := hw2) | (obtain ⟨u, rfl⟩ := World.plus_of_below hw))
     simp only [fill, Act.put, List.take_succ_cons, List.take_zero, List.drop_succ_cons, List.drop_zero, Nat.reduceAdd, Nat.zero_add, List.setIfInBounds_toArray, List.set_cons_succ, List.set_cons_zero, if_true, if_false, Nat.reduceEqDiff, reduceIte]
     have f0 : (xs 0) = .pointer (some ⟨w.heap.size, 0, none⟩) := hd 0 (by kernel_rfl); simp only [f0]
     go_wp2_with fail
     all_goals (first | exact Below.refl _ _ | ((first | refine ⟨?_, _, rfl, rfl⟩ | refine ⟨rfl, ?_, _, rfl, rfl⟩ | refine ⟨?_, rfl⟩); (exact belA)) | exact Fresh.old rfl | exact Fresh.new _ _ _)
    refine KindSteps.cons ?_ ?_
    ·intro xs w9 hw hd
     have g1 := g1.below hw; have g2 := g2.below hw; (first | (with_reducible have hw2 := World.plus_of_below ((World.below_plus _ _).trans (hw.mono (World.size_plus _ _))); obtain ⟨u, rfl⟩ := hw2) | (obtain ⟨u, rfl⟩ := World.plus_of_below hw))
     simp only [fill, Act.put, List.take_succ_cons, List.take_zero, List.drop_succ_cons, List.drop_zero, Nat.reduceAdd, Nat.zero_add, List.setIfInBounds_toArray, List.set_cons_succ, List.set_cons_zero, if_true, if_false, Nat.reduceEqDiff, reduceIte]
     go_wp2_with fail
     all_goals (first | exact Below.refl _ _ | ((first | refine ⟨?_, _, rfl, rfl⟩ | refine ⟨rfl, ?_, _, rfl, rfl⟩ | refine ⟨?_, rfl⟩); (exact belA)) | exact Fresh.old rfl | exact Fresh.new _ _ _)
    refine KindSteps.cons ?_ ?_
    ·intro xs w9 hw hd
     have g1 := g1.below hw; have g2 := g2.below hw; (first | (with_reducible have hw2 := World.plus_of_below ((World.below_plus _ _).trans (hw.mono (World.size_plus _ _))); obtain ⟨u, rfl⟩ := hw2) | (obtain ⟨u, rfl⟩ := World.plus_of_below hw))
     simp only [fill, Act.put, List.take_succ_cons, List.take_zero, List.drop_succ_cons, List.drop_zero, Nat.reduceAdd, Nat.zero_add, List.setIfInBounds_toArray, List.set_cons_succ, List.set_cons_zero, if_true, if_false, Nat.reduceEqDiff, reduceIte]
     go_wp2_with fail
     all_goals (first | exact Below.refl _ _ | ((first | refine ⟨?_, _, rfl, rfl⟩ | refine ⟨rfl, ?_, _, rfl, rfl⟩ | refine ⟨?_, rfl⟩); (exact belA)) | exact Fresh.old rfl | exact Fresh.new _ _ _)
    refine KindSteps.cons ?_ ?_
    ·intro xs w9 hw hd
     have g1 := g1.below hw; have g2 := g2.below hw; (first | (with_reducible have hw2 := World.plus_of_below ((World.below_plus _ _).trans (hw.mono (World.size_plus _ _))); obtain ⟨u, rfl⟩ := hw2) | (obtain ⟨u, rfl⟩ := World.plus_of_below hw))
     simp only [fill, Act.put, List.take_succ_cons, List.take_zero, List.drop_succ_cons, List.drop_zero, Nat.reduceAdd, Nat.zero_add, List.setIfInBounds_toArray, List.set_cons_succ, List.set_cons_zero, if_true, if_false, Nat.reduceEqDiff, reduceIte]
     have f2 : (xs 2) = v1 := hd 2 (by kernel_rfl); simp only [f2]
     have f3 : (xs 3) = v2 := hd 3 (by kernel_rfl); simp only [f3]
     go_wp2_with (go_at_call 203; refine (difference_D _ _ _ _ _ _ _ _ g1 g2 (by omega) (by omega) HL.out rfl).mono ?_; rintro e w8 ⟨v, rfl, hdl, hb⟩)
     all_goals (first | exact Below.refl _ _ | exact hb | exact hdl | exact ⟨hb, hdl⟩ | exact ⟨hb, _, rfl, hdl⟩ | exact ⟨rfl, hb, _, rfl, hdl⟩)
    refine KindSteps.cons ?_ ?_
    ·intro xs w9 hw hd
     have g1 := g1.below hw; have g2 := g2.below hw; (first | (with_reducible have hw2 := World.plus_of_below ((World.below_plus _ _).trans (hw.mono (World.size_plus _ _))); obtain ⟨u, rfl⟩ := hw2) | (obtain ⟨u, rfl⟩ := World.plus_of_below hw))
     simp only [fill, Act.put, List.take_succ_cons, List.take_zero, List.drop_succ_cons, List.drop_zero, Nat.reduceAdd, Nat.zero_add, List.setIfInBounds_toArray, List.set_cons_succ, List.set_cons_zero, if_true, if_false, Nat.reduceEqDiff, reduceIte]
     have f1 : (xs 1) = .bool (sg x) := hd 1 (by kernel_rfl); simp only [f1]
     have f4 : DL _ (xs 4) 4294967296 (x.natAbs - y.natAbs) := hd 4 (by kernel_rfl)
     go_wp2_with (go_at_call 90; refine (number_D _ _ _ _ _ _ f4 (by omega) HZ.out).mono ?_; rintro e w8 ⟨rfl, hb⟩)
     all_goals (first | exact Below.refl _ _ | exact hb | exact ⟨hb, _, rfl, rfl⟩ | exact ⟨rfl, hb, _, rfl, rfl⟩)
    exact KindSteps.nil
   intro xs w9 hw hd
   have g1 := g1.below hw; have g2 := g2.below hw; (first | (with_reducible have hw2 := World.plus_of_below ((World.below_plus _ _).trans (hw.mono (World.size_plus _ _))); obtain ⟨u, rfl⟩ := hw2) | (obtain ⟨u, rfl⟩ := World.plus_of_below hw))
   simp only [fill, Act.put, List.take_succ_cons, List.take_zero, List.drop_succ_cons, List.drop_zero, Nat.reduceAdd, Nat.zero_add, List.setIfInBounds_toArray, List.set_cons_succ, List.set_cons_zero, if_true, if_false, Nat.reduceEqDiff, reduceIte]
   have f0 : (xs 0) = .pointer (some ⟨w.heap.size, 0, none⟩) := hd 0 (by decide)
   simp only [f0]
   have f1 : (xs 1) = .bool (sg x) := hd 1 (by decide)
   simp only [f1]
   have f2 : (xs 2) = v1 := hd 2 (by decide)
   simp only [f2]
   have f3 : (xs 3) = v2 := hd 3 (by decide)
   simp only [f3]
   have f4 : DL _ (xs 4) 4294967296 (x.natAbs - y.natAbs) := hd 4 (by decide)
   have f5 : (xs 5) = .agg #[.bool (sg z), .string (mg z)] := hd 5 (by decide)
   simp only [f5]
   clear hd
   go_wp2_with fail
   refine bodyPost_ret (by simp [results, Tryz.results179, go_sem]; rfl) rfl ?_
   exact ⟨rfl, by (exact belA)⟩
end Go.Proofs.YtlblfgbpogljoaaGreatDoor
namespace Go.Proofs.YtlblfgbpogljoaaGreatDoor
open Go Go.RowKit
open Vi
theorem d8_zero (i : Nat) : d8 0 i = 0 := by unfold d8; simp
def my8 (o d y i k : Nat) : Nat := (o % 256 ^ (i + k) + 256 ^ i * (d * (y % 256 ^ k))) / 256 ^ (i + k)
theorem my8_zero (o d y i : Nat) : my8 o d y i 0 = 0 := by
 unfold my8
 rw [Nat.pow_zero, Nat.mod_one, Nat.mul_zero, Nat.mul_zero, Nat.add_zero, Nat.add_zero]
 exact Nat.div_eq_of_lt (Nat.mod_lt _ (Nat.pow_pos (by omega)))
theorem my8_lt (o d y i k : Nat) (hd : d < 256) : my8 o d y i k < 256 := by
 unfold my8
 have hM : 0 < 256 ^ (i + k) := Nat.pow_pos (by omega)
 rw [Nat.div_lt_iff_lt_mul hM]
 have h1 := Nat.mod_lt o hM
 have h2 := Nat.mod_lt y (Nat.pow_pos (n := k) (show 0 < 256 by omega))
 have h3 : 256 ^ i * (d * (y % 256 ^ k)) ≤ 256 ^ i * (255 * 256 ^ k) :=
  Nat.mul_le_mul_left _ (Nat.mul_le_mul (by omega) (by omega))
 have h4 : 256 ^ i * (255 * 256 ^ k) = 255 * 256 ^ (i + k) := by
  rw [Nat.mul_left_comm, Nat.pow_add]
 omega
theorem my8_step (o d y i k : Nat) : my8 o d y i k + d8 o (i + k) + d * d8 y k = d8 (o + 256 ^ i * (d * y)) (i + k) + 256 * my8 o d y i (k + 1) := by
 have hM : 0 < 256 ^ (i + k) := Nat.pow_pos (by omega)
 have e1 : o % 256 ^ (i + (k + 1)) + 256 ^ i * (d * (y % 256 ^ (k + 1))) = (o % 256 ^ (i + k) + 256 ^ i * (d * (y % 256 ^ k))) + 256 ^ (i + k) * (d8 o (i + k) + d * d8 y k) := by
  rw [← Nat.add_assoc i k 1, mod_succ8 o, mod_succ8 y, Nat.pow_add 256 i k]
  simp only [Nat.mul_add]
  rw [Nat.mul_left_comm d (256 ^ k), Nat.mul_assoc (256 ^ i)  (256 ^ k) (d * d8 y k)]
  omega
 have e2 : (o % 256 ^ (i + (k + 1)) + 256 ^ i * (d * (y % 256 ^ (k + 1)))) / 256 ^ (i + k) = my8 o d y i k + (d8 o (i + k) + d * d8 y k) := by
  rw [e1, Nat.add_mul_div_left _ _ hM]; rfl
 have e3 : my8 o d y i (k + 1) = (my8 o d y i k + (d8 o (i + k) + d * d8 y k)) / 256 := by
  rw [← e2, Nat.div_div_eq_div_mul, ← Nat.pow_succ]; rfl
 have e4 : d8 (o + 256 ^ i * (d * y)) (i + k) = (my8 o d y i k + (d8 o (i + k) + d * d8 y k)) % 256 := by
  rw [← e2]
  unfold d8
  rw [← Nat.mod_mul_right_div_self, ← Nat.mod_mul_right_div_self (_ + _ : Nat), ← Nat.pow_succ]
  congr 1
  show _ = (o % 256 ^ (i + k + 1) + 256 ^ i * (d * (y % 256 ^ (k + 1)))) % 256 ^ (i + k + 1)
  have e5 : 256 ^ i * (d * y) = 256 ^ i * (d * (y % 256 ^ (k + 1))) + 256 ^ (i + k + 1) * (d * (y / 256 ^ (k + 1))) := by
   rw [Nat.add_assoc, Nat.pow_add 256 i (k + 1), Nat.mul_assoc, ← Nat.mul_add]
   congr 1
   rw [Nat.mul_left_comm, ← Nat.mul_add, Nat.mod_add_div]
  rw [e5, ← Nat.add_assoc, Nat.add_mul_mod_self_left, Nat.mod_add_mod]
 rw [e3, e4, Nat.mod_add_div]; omega
theorem d8_add_low (o i z p : Nat) (h : p < i) : d8 (o + 256 ^ i * z) p = d8 o p := by
 unfold d8
 rw [← Nat.mod_mul_right_div_self, ← Nat.mod_mul_right_div_self, ← Nat.pow_succ]
 congr 1
 obtain ⟨m, rfl⟩ : ∃ m, i = (p + 1) + m := ⟨i - (p + 1), by omega⟩
 rw [Nat.pow_add, Nat.mul_assoc, Nat.add_mul_mod_self_left]
def mulFn8 (o t i k : Nat) : Nat → Nat := fun p => if p < i + k then d8 t p else d8 o p
theorem mulFn8_zero (o z i n : Nat) : arr .i64 (d8 o) n = arr .i64 (mulFn8 o (o + 256 ^ i * z) i 0) n := by
 apply arr_congr; intro p _; unfold mulFn8
 split
 ·rw [d8_add_low _ _ _ _ (by omega)]
 ·rfl
theorem mulFn8_at (o t i k : Nat) : mulFn8 o t i k (i + k) = d8 o (i + k) := by unfold mulFn8; rw [if_neg (by omega)]
theorem mulFn8_succ (o t i k : Nat) : upd (mulFn8 o t i k) (i + k) (d8 t (i + k)) = mulFn8 o t i (k + 1) := by
 funext p
 unfold upd mulFn8
 by_cases h : p = i + k
 ·subst h; rw [if_pos rfl, if_pos (by omega)]
 ·rw [if_neg h]
  by_cases h2 : p < i + k
  ·rw [if_pos h2, if_pos (by omega)]
  ·rw [if_neg h2, if_neg (by omega)]
theorem row_lt8 (o d y i n : Nat) (ho : o < 256 ^ (i + n)) (hy : y < 256 ^ n) (hd : d < 256) : o + 256 ^ i * (d * y) < 256 ^ (i + n + 1) := by
 have h3 : 256 ^ i * (d * y) ≤ 256 ^ i * (255 * 256 ^ n) :=
  Nat.mul_le_mul_left _ (Nat.mul_le_mul (by omega) (by omega))
 have h4 : 256 ^ i * (255 * 256 ^ n) = 255 * 256 ^ (i + n) := by
  rw [Nat.mul_left_comm, Nat.pow_add]
 rw [Nat.pow_succ]
 omega
theorem my8_last (o d y i n : Nat) (ho : o < 256 ^ (i + n)) (hy : y < 256 ^ n) (hd : d < 256) : my8 o d y i n = d8 (o + 256 ^ i * (d * y)) (i + n) := by
 have h := row_lt8 o d y i n ho hy hd
 unfold my8 d8
 rw [Nat.mod_eq_of_lt ho, Nat.mod_eq_of_lt hy]
 symm
 apply Nat.mod_eq_of_lt
 rw [Nat.div_lt_iff_lt_mul (Nat.pow_pos (by omega)), show 256 * 256 ^ (i + n) = 256 ^ (i + n + 1) by rw [Nat.pow_succ, Nat.mul_comm]]
 exact h
theorem part_mul8 (x y i : Nat) : x % 256 ^ i * y + 256 ^ i * (d8 x i * y) = x % 256 ^ (i + 1) * y := by
 rw [mod_succ8, Nat.add_mul, Nat.mul_assoc]
theorem zero_row8 (n x y : Nat) : arr .i64 (fun _ => 0) n = arr .i64 (d8 (x % 256 ^ 0 * y)) n := by
 apply arr_congr; intro i _; rw [Nat.pow_zero, Nat.mod_one, Nat.zero_mul, d8_zero]
theorem prod_lt8 (x y nx ny : Nat) (hx : x < 256 ^ nx) (hy : y < 256 ^ ny) : x * y < 256 ^ (nx + ny + 1) := by
 have h1 : x * y ≤ 256 ^ nx * 256 ^ ny := Nat.mul_le_mul (by omega) (by omega)
 rw [← Nat.pow_add] at h1
 have h2 : 0 < 256 ^ (nx + ny) := Nat.pow_pos (by omega)
 rw [Nat.pow_succ]; omega
theorem part_lt8 (x y i n : Nat) (hy : y < 256 ^ n) : x % 256 ^ i * y < 256 ^ (i + n) := by
 rw [Nat.pow_add]
 have h1 := Nat.mod_lt x (Nat.pow_pos (n := i) (show 0 < 256 by omega))
 calc x % 256 ^ i * y ≤ x % 256 ^ i * 256 ^ n := Nat.mul_le_mul_left _ (by omega)
  _ < 256 ^ i * 256 ^ n := Nat.mul_lt_mul_of_pos_right h1 (Nat.pow_pos (by omega))
theorem makeInt (n : Nat) (w : World) (h : n ≤ 8589934592) : (Instr.makeSlice 136 (.int .i64 (n : Int)) (.int .i64 (n : Int))).run Tryz.prog w = .ok (.slice (some ⟨w.heap.size, 0, none⟩) n n) (w.alloc (.cells (arr .i64 (fun _ => 0) n) 3)) := by
 obtain ⟨i0, hi, hz0, hz1, hz2⟩ := info_parts info3
 have hr := run_make (P := Tryz.prog) w 136 3 i0 (.int .i64 0) (by kernel_rfl) hi hz0 .i64 .i64 n n (by omega) (Int.le_refl _) (by rw [hz2]; omega) (by omega)
 rw [hr, hz1]
 simp only [Int.toNat_natCast, Nat.mul_one, Value.cells]
 rw [madeCells_arr]
theorem makeIntT (n m : Nat) (w : World) (h : n + m ≤ 8589934591) : (Instr.makeSlice 136 (.int .i64 ((n : Int) + (m : Int) + 1)) (.int .i64 ((n : Int) + (m : Int) + 1))).run Tryz.prog w = .ok (.slice (some ⟨w.heap.size, 0, none⟩) (n + m + 1) (n + m + 1)) (w.alloc (.cells (arr .i64 (fun _ => 0) (n + m + 1)) 3)) :=
 makeInt (n + m + 1) w (by omega)
theorem mulFn8_end (o d y i n m : Nat) (ho : o < 256 ^ (i + n)) (hy : y < 256 ^ n) (hd : d < 256) :
    arr .i64 (mulFn8 o (o + 256 ^ i * (d * y)) i (n + 1)) m = arr .i64 (d8 (o + 256 ^ i * (d * y))) m := by
 have h := row_lt8 o d y i n ho hy hd
 apply arr_congr
 intro p _
 unfold mulFn8
 by_cases h2 : p < i + (n + 1)
 ·rw [if_pos h2]
 ·rw [if_neg h2, d8_big o (i + n) p ho (by omega), d8_big _ (i + n + 1) p h (by omega)]
theorem Dl.of_arr (g N c z : Nat) (w : World) (h : ∀ i, i < N → w.cell? ⟨g, i, none⟩ = some (.int .i64 (d8 z i : Nat))) (hg : g < w.heap.size) (hz : z < 256 ^ N) (hc : N ≤ c) (hm : c ≤ maxLen) : Dl w (.slice (some ⟨g, 0, none⟩) N c) N z :=
 ⟨hz, .inr ⟨g, c, rfl, hc, hm, hg, h⟩⟩
set_option maxRecDepth 100000 in
set_option maxHeartbeats 1600000 in
theorem rproduct_c (v1 v2 : Value) (n m x y : Nat) (w : World) (h1 : Dl w v1 n x) (h2 : Dl w v2 m y) (hn : n ≤ 4294967296) (hm : m ≤ 4294967290) : Calls Tryz.prog 220 #[v1, v2] w fun e w' => ∃ v, e = .returned v ∧ Dl w' v (n + m + 1) (x * y) ∧ Below w.heap.size w w' := by
 obtain ⟨a1, c1, e1⟩ := h1.lenForm
 obtain ⟨a2, c2, e2⟩ := h2.lenForm
 subst e1
 subst e2
 have A1 : Hid (∀ (i : Nat), i < n → ∃ g, a1 = some ⟨g, 0, none⟩ ∧ n ≤ c1 ∧ g < w.heap.size ∧ w.cell? ⟨g, i, none⟩ = some (.int .i64 (d8 x i : Nat))) := Lib.hid fun i hlt => by
  rcases h1.2 with ⟨e, rfl⟩ | ⟨g, c, e, hc, _, hg, hcell⟩
  ·exact absurd hlt (by omega)
  ·cases e
   exact ⟨g, rfl, hc, hg, hcell i hlt⟩
 have A2 : Hid (∀ (i : Nat) (o : Obj) (u : World), Calls Tryz.prog 219 #[.slice a2 m c2, .int .i64 (i : Int)] ((w.alloc o).plus u) fun e w' => e = .returned (.int .i64 (d8 y i : Nat)) ∧ (w.alloc o).plus u = w') := Lib.hid fun i o u => at_c _ m y i _ (h2.below (((Below.refl _ _).alloc (Nat.le_refl _) o).trans ((World.below_plus _ _).mono (by simp))))
 have HXL := Lib.hid h1.1
 have HYL := Lib.hid h2.1
 have HT := Lib.hid (prod_lt8 x y n m h1.1 h2.1)
 have HMK := Lib.hid (makeIntT n m · (by omega))
 clear h1 h2
 go_enter Tryz.func220, Tryz.ntmps220
 go_wp2_with fail
 have hmk := HMK.out
 simp only [hmk]
 clear hmk
 go_wp2_with fail
 have H0 := Lib.hid (zero_row8 (n + m + 1) x y)
 go_loopw [6] (fun v wr => ∃ (i : Nat) (u : World), i ≤ n ∧ v = .int .i64 i ∧ wr = (w.alloc (.cells (arr .i64 (d8 (x % 256 ^ i * y)) (n + m + 1)) 3)).plus u) (fun v _ => n - (intOf v).toNat)
 case atStart =>
  obtain ⟨u, hu⟩ := World.plus_of_below (Below.refl (w.alloc (.cells (arr .i64 (fun _ => 0) (n + m + 1)) 3)).heap.size (w.alloc (.cells (arr .i64 (fun _ => 0) (n + m + 1)) 3)))
  exact ⟨0, u, Nat.zero_le _, rfl, by rw [← H0.out]; exact hu⟩
 case round =>
  obtain ⟨i, u0, hi, rfl, rfl⟩ := hrel
  by_cases hlt : i < n
  ·obtain ⟨g, rfl, hcap, hg, hgx⟩ := A1.out i hlt
   have hdx1 := d8_lt x i
   have hli : (i : Int) < (n : Int) := by omega
   obtain ⟨o, ho⟩ : ∃ o, o = x % 256 ^ i * y := ⟨_, rfl⟩
   have hol := part_lt8 x y i m HYL.out
   rw [← ho] at hol ⊢
   have HOL := Lib.hid hol
   have HO := Lib.hid ho
   clear ho hol
   obtain ⟨d, hd⟩ : ∃ d, d = d8 x i := ⟨_, rfl⟩
   rw [← hd] at hdx1 hgx
   have HD := Lib.hid hd
   clear hd
   obtain ⟨t, ht⟩ : ∃ t, t = o + 256 ^ i * (d * y) := ⟨_, rfl⟩
   have HTT := Lib.hid ht
   have HZ := Lib.hid (mulFn8_zero o (d * y) i (n + m + 1))
   rw [← ht] at HZ
   clear ht
   have HM0 := Lib.hid (my8_zero o d y i)
   go_wp2_with fail
   go_loopw [7, 8] (fun c v wr => ∃ (k : Nat) (u : World), k ≤ m + 1 ∧ v = .int .i64 k ∧ c = .int .i64 (my8 o d y i k : Int) ∧ wr = (w.alloc (.cells (arr .i64 (mulFn8 o t i k) (n + m + 1)) 3)).plus u) (fun _ v _ => m + 1 - (intOf v).toNat)
   case atStart => exact ⟨0, u0, Nat.zero_le _, rfl, by rw [HM0.out]; rfl, by rw [HZ.out]⟩
   case round =>
    obtain ⟨k, u1, hk, rfl, rfl, rfl⟩ := hrel
    by_cases hlt2 : k ≤ m
    ·have hgo := arr_get .i64 (mulFn8 o t i k) (n + m + 1) (i + k) (by omega)
     rw [mulFn8_at] at hgo
     have hst := my8_step o d y i k
     rw [← HTT.out] at hst
     have hc1 := my8_lt o d y i k hdx1
     have ho1 := d8_lt o (i + k)
     have hy1 := d8_lt y k
     have ht1 := d8_lt t (i + k)
     obtain ⟨yk, hyk⟩ : ∃ z, z = d8 y k := ⟨_, rfl⟩
     have hp1 : d * d8 y k ≤ 255 * 255 := Nat.mul_le_mul (by omega) (by omega)
     obtain ⟨P, hP⟩ : ∃ P, P = d * d8 y k := ⟨_, rfl⟩
     rw [← hP] at hst hp1
     have HB2 := Lib.hid (A2.out k (.cells (arr .i64 (mulFn8 o t i k) (n + m + 1)) 3))
     rw [← hyk] at hP hy1 HB2
     have e1 : IntKind.i64.wrap ((d : Int) * (yk : Int)) = (P : Int) := by
      rw [← Int.natCast_mul, ← hP]; exact IntWalk.i64_in _ (by omega)
     clear hP hyk
     obtain ⟨ok, hok⟩ : ∃ z, z = d8 o (i + k) := ⟨_, rfl⟩
     rw [← hok] at hgo hst ho1
     obtain ⟨ck, hck⟩ : ∃ z, z = my8 o d y i k := ⟨_, rfl⟩
     rw [← hck] at hst hc1 ⊢
     obtain ⟨R, hR⟩ : ∃ R, R = ok + P + ck := ⟨_, rfl⟩
     have hRl : R < 9223372036854775807 := by omega
     have e3 : (ok : Int) + (P : Int) + (ck : Int) = (R : Int) := by omega
     have hR1 : (R : Int).tmod 256 = (d8 t (i + k) : Int) := by rw [Int.tmod_eq_emod_of_nonneg (by omega)]; omega
     have hR2 : (R : Int).tdiv 256 = (my8 o d y i (k + 1) : Int) := by rw [Int.tdiv_eq_ediv_of_nonneg (by omega)]; omega
     have hR3 : IntKind.i64.wrap (my8 o d y i (k + 1) : Int) = (my8 o d y i (k + 1) : Int) := IntWalk.i64_in _ (by omega)
     have hR4 : wrap64 (my8 o d y i (k + 1) : Int) = (my8 o d y i (k + 1) : Int) := by unfold wrap64; omega
     have HS3 := Lib.hid (mulFn8_succ o t i k)
     have e4 : IntKind.i64.wrap ((i : Int) + (k : Int)) = (i : Int) + (k : Int) := IntWalk.i64_in _ (by omega)
     have e5 : (0 : Int) ≤ (i : Int) + (k : Int) := by omega
     have e6 : ((i : Int) + (k : Int)).toNat = i + k := by omega
     have e7 : (i : Int) + (k : Int) < (n : Int) + (m : Int) + 1 := by omega
     have hkm : (k : Int) ≤ (m : Int) := by omega
     clear hst hR ht1 hp1 hck hok
     go_wp2_with fail
     ((first | (with_reducible refine wp_region_steady_plus (by kernel_rfl) (by kernel_rfl) ?_) | refine wp_region_steady (by kernel_rfl) (by kernel_rfl) ?_); repeat go_big_quiet_step (first | (go_at_call 219; refine Calls.same_steady (HB2.out _)))); (refine wpQuiet_nil ?_; rintro _ ⟨u, rfl⟩)
     go_wp2_with fail
     go_roundw
     case rel => exact ⟨k + 1, u, by omega, by go_num, rfl, by first | rw [arr_set, HS3.out] | simp only [arr_set, HS3.out]⟩
     case measure => first | (simp [intOf]; done) | (simp [intOf]; omega)
    ·have e : k = m + 1 := by omega
     subst e
     have HF := Lib.hid (mulFn8_end o d y i m (n + m + 1) HOL.out HYL.out hdx1)
     have HN := Lib.hid (part_mul8 x y i)
     go_wp2_with fail
     go_roundw
     case rel => exact ⟨i + 1, u1, by omega, by go_num, by rw [HTT.out, HF.out, HO.out, HD.out, HN.out]⟩
     case measure => first | (simp [intOf]; done) | (simp [intOf]; omega)
  ·have e : i = n := by omega
   subst e
   have HA := Lib.hid (Nat.mod_eq_of_lt HXL.out)
   go_wp2_with fail
   rw [HA.out]
   go_ret
   refine ⟨_, rfl, Dl.of_arr _ _ _ _ _ (fun j hj => ?_) ?_ HT.out (Nat.le_refl _) (by unfold maxLen; omega), by (exact belA)⟩
   ·simp [go_sem, arr_get _ _ _ _ hj]
   ·simp [go_sem]
theorem product_D (v1 v2 : Value) (M x y : Nat) (w : World) (h1 : DL w v1 M x) (h2 : DL w v2 M y) (hM : M ≤ 4294967290) : Calls Tryz.prog 220 #[v1, v2] w fun e w' => ∃ v, e = .returned v ∧ DL w' v (M + M + 1) (x * y) ∧ Below w.heap.size w w' := by
 obtain ⟨n, hn, h1⟩ := h1
 obtain ⟨m, hm, h2⟩ := h2
 exact (rproduct_c v1 v2 n m x y w h1 h2 (by omega) (by omega)).mono fun _ _ ⟨v, h1, h3, h4⟩ => ⟨v, h1, ⟨_, by omega, h3⟩, h4⟩
end Go.Proofs.YtlblfgbpogljoaaGreatDoor
namespace Go.Proofs.YtlblfgbpogljoaaGreatDoor
open Go Go.RowKit
open Vi
theorem half_step (X i : Nat) : X / 2 ^ i = 2 * (X / 2 ^ (i + 1)) + X / 2 ^ i % 2 := by
 rw [Nat.pow_succ, ← Nat.div_div_eq_div_mul]; omega
theorem pow8 (n : Nat) : (256 : Nat) ^ n = 2 ^ (8 * n) := by rw [show (256 : Nat) = 2 ^ 8 from rfl, ← Nat.pow_mul]
theorem bit_d8 (X c e : Nat) (he : e < 8) : d8 X c / 2 ^ e % 2 = X / 2 ^ (8 * c + e) % 2 := by
 unfold d8
 rw [Nat.pow_add, ← Nat.div_div_eq_div_mul, ← pow8]
 generalize X / 256 ^ c = v
 match e, he with
 | 0, _ => simp only [Nat.pow_zero]; omega
 | 1, _ => simp only [Nat.reducePow]; omega
 | 2, _ => simp only [Nat.reducePow]; omega
 | 3, _ => simp only [Nat.reducePow]; omega
 | 4, _ => simp only [Nat.reducePow]; omega
 | 5, _ => simp only [Nat.reducePow]; omega
 | 6, _ => simp only [Nat.reducePow]; omega
 | 7, _ => simp only [Nat.reducePow]; omega
theorem set_bit (t e : Nat) (he : e < 8) : (2 ^ (e + 1) * t + 2 ^ e) / 256 = 2 ^ (e + 1) * t / 256 ∧ (2 ^ (e + 1) * t + 2 ^ e) % 256 = 2 ^ (e + 1) * t % 256 + 2 ^ e := by
 match e, he with
 | 0, _ => simp only [Nat.reduceAdd, Nat.reducePow, Nat.pow_zero]; omega
 | 1, _ => simp only [Nat.reduceAdd, Nat.reducePow]; omega
 | 2, _ => simp only [Nat.reduceAdd, Nat.reducePow]; omega
 | 3, _ => simp only [Nat.reduceAdd, Nat.reducePow]; omega
 | 4, _ => simp only [Nat.reduceAdd, Nat.reducePow]; omega
 | 5, _ => simp only [Nat.reduceAdd, Nat.reducePow]; omega
 | 6, _ => simp only [Nat.reduceAdd, Nat.reducePow]; omega
 | 7, _ => simp only [Nat.reduceAdd, Nat.reducePow]; omega
theorem d8_div2 (R j k : Nat) : d8 R (j + k) = d8 (R / 256 ^ j) k := by
 unfold d8; rw [Nat.div_div_eq_div_mul, ← Nat.pow_add]
theorem bq_upd (Z t c e : Nat) (he : e < 8) (hZ : Z = t * 2 ^ (8 * c + e + 1)) : upd (d8 Z) c (d8 Z c + 2 ^ e) = d8 (Z + 2 ^ (8 * c + e)) := by
 have e1 : 2 ^ (8 * c + e) = 256 ^ c * 2 ^ e := by rw [Nat.pow_add, pow8]
 have hp : 0 < 256 ^ c := Nat.pow_pos (by omega)
 have e2 : Z / 256 ^ c = 2 ^ (e + 1) * t := by
  rw [hZ, show 8 * c + e + 1 = 8 * c + (e + 1) by omega, Nat.pow_add, ← pow8, Nat.mul_comm t, Nat.mul_assoc, Nat.mul_div_cancel_left _ hp]
 have e3 : (Z + 256 ^ c * 2 ^ e) / 256 ^ c = 2 ^ (e + 1) * t + 2 ^ e := by rw [Nat.add_mul_div_left _ _ hp, e2]
 have hs := set_bit t e he
 rw [e1]
 funext p
 unfold upd
 by_cases h1 : p = c
 ·subst h1
  rw [if_pos rfl]
  show d8 Z p + 2 ^ e = (Z + 256 ^ p * 2 ^ e) / 256 ^ p % 256
  rw [e3, hs.2, ← e2]; rfl
 ·rw [if_neg h1]
  by_cases h2 : p < c
  ·rw [d8_add_low _ _ _ _ h2]
  ·obtain ⟨k, rfl⟩ : ∃ k, p = c + (k + 1) := ⟨p - c - 1, by omega⟩
   rw [d8_div2 Z c (k + 1), d8_div2 (Z + 256 ^ c * 2 ^ e) c (k + 1), e2, e3]
   unfold d8
   have e5 : (256 : Nat) ^ (k + 1) = 256 * 256 ^ k := by rw [Nat.pow_succ, Nat.mul_comm]
   rw [e5, ← Nat.div_div_eq_div_mul, ← Nat.div_div_eq_div_mul, hs.1]
def DP (w : World) (v : Value) (M1 x1 M2 x2 : Nat) : Prop := ∃ q r, v = .tuple #[q, r] ∧ DL w q M1 x1 ∧ DL w r M2 x2
theorem DP.below {w w' : World} {v : Value} {M1 x1 M2 x2 : Nat} (h : DP w v M1 x1 M2 x2) (hb : Below w.heap.size w w') : DP w' v M1 x1 M2 x2 := by
 obtain ⟨q, r, h1, h2, h3⟩ := h
 exact ⟨q, r, h1, h2.below hb, h3.below hb⟩
end Go.Proofs.YtlblfgbpogljoaaGreatDoor
namespace Go.Proofs.YtlblfgbpogljoaaGreatDoor
open Go Go.RowKit
open Vi
theorem tmod256 (q : Nat) : (q : Int).tmod 256 = ((q % 256 : Nat) : Int) := by rw [Int.tmod_eq_emod_of_nonneg (by omega)]; omega
theorem tdiv256 (q : Nat) : (q : Int).tdiv 256 = ((q / 256 : Nat) : Int) := by rw [Int.tdiv_eq_ediv_of_nonneg (by omega)]; omega
theorem cur_zero (X k : Nat) (h : X / 256 ^ k = 0) : X < 256 ^ k := (Nat.div_eq_zero_iff_lt (Nat.pow_pos (by omega))).1 h
theorem cur_next (X k : Nat) : X / 256 ^ k / 256 = X / 256 ^ (k + 1) := by rw [Nat.div_div_eq_div_mul, ← Nat.pow_succ]
set_option maxRecDepth 100000 in
set_option maxHeartbeats 1600000 in
theorem rFromInt_pos (X : Nat) (w : World) (h2 : X < 9223372036854775808) : Calls Tryz.prog 21 #[.int .i64 (X : Int)] w fun e w' => e = .returned (.agg #[.bool (sg (X : Int)), .string (mg (X : Int))]) ∧ Below w.heap.size w w' := by
 obtain ⟨i0, hi, hz0, hz1, hz2⟩ := info_parts info3
 have hn : ¬ ((X : Int) < 0) := by omega
 go_enter Tryz.func21, Tryz.ntmps21
 go_wp2_with fail
 obtain ⟨W, hW⟩ : ∃ W, W = w.alloc (.cells #[.bool false, .string ⟨#[]⟩] 26) := ⟨_, rfl⟩
 go_loopw [0, 3] (fun c v wr => ∃ k q : Nat, k ≤ 8 ∧ Hid (q = X / 256 ^ k) ∧ c = .int .i64 (q : Int) ∧ wr.ownsRow W.heap.size 3 1 v k (dvals X k) ∧ Below W.heap.size W wr) (fun c _ _ => (intOf c).toNat)
 case atStart => exact ⟨0, X, Nat.zero_le _, Lib.hid (by rw [Nat.pow_zero, Nat.div_one]), rfl, World.ownsRow_nil _ _ _ _, by rw [hW]; exact Below.refl _ _⟩
 case round =>
  obtain ⟨k, q, hk, HQ, rfl, hown, hbel⟩ := hrel
  have HW := Lib.hid hW
  clear hW
  have hqX : q ≤ X := by rw [HQ.out]; exact Nat.div_le_self _ _
  by_cases h0 : q = 0
  ·subst h0
   have HX := Lib.hid (cur_zero X k HQ.out.symm)
   rw [show ((0 : Nat) : Int) = 0 from rfl]
   have hW := HW.out
   subst hW
   obtain ⟨u0, rfl⟩ := World.plus_of_below hbel
   clear hbel
   go_wp2_with fail
   (go_wp2_with fail; refine (rnumber_c false _ X k _ (Dl.of_owned hown HX.out) (by omega)).mono ?_; rintro e w' ⟨rfl, hb⟩; (first | (with_reducible (have hb2 := World.plus_of_below ((World.below_plus _ _).trans (hb.mono (World.size_plus _ _)))); obtain ⟨u, rfl⟩ := hb2) | (obtain ⟨u, rfl⟩ := World.plus_of_below hb)); clear hb)
   go_wp2_with fail
   refine bodyPost_ret (by simp [results, Tryz.results21, go_sem]; rfl) rfl ?_
   exact ⟨rfl, by (exact belA)⟩
  ·obtain ⟨q1, hq1⟩ : ∃ z, z = q / 256 := ⟨_, rfl⟩
   obtain ⟨dg1, hdg⟩ : ∃ z, z = d8 X k := ⟨_, rfl⟩
   have hk8 : k < 8 := by
    apply Decidable.byContradiction
    intro hc
    have e8 : k = 8 := by omega
    have := HQ.out
    rw [e8, Nat.div_eq_of_lt (show X < 256 ^ 8 by omega)] at this
    exact h0 this
   have hdq : dg1 = q % 256 := by rw [hdg, HQ.out]; rfl
   have hd2 : dg1 < 256 := hdg ▸ d8_lt _ _
   have HQ1 : Hid (q1 = X / 256 ^ (k + 1)) := Lib.hid (by rw [hq1, HQ.out, cur_next])
   have Hs : Hid (dvals X k ++ [Value.int .i64 (dg1 : Nat)] = dvals X (k + 1)) := Lib.hid (by rw [hdg, dvals_succ])
   have HM := Lib.hid (show q1 < q by omega)
   have hsz := hbel.size
   have hcw : wrap64 (q1 : Int) = (q1 : Int) := by unfold wrap64; omega
   have hz : ¬ ((q : Int) = 0) := fun h => h0 (Int.ofNat_eq_zero.1 h)
   have hzd : ¬ ((dg1 : Int) < 0) := by omega
   have em : (q : Int).tmod 256 = (dg1 : Int) := by rw [hdq]; exact tmod256 q
   have ed : (q : Int).tdiv 256 = (q1 : Int) := by rw [hq1]; exact tdiv256 q
   clear hq1 hdg hdq h0
   go_wp2_with (first | (at_builtin; refine wpList_append_own _ rfl _ _ 136 rfl W.heap.size 3 i0 (.int .i64 0) 1 8 Tryz.underlying136 hi hz0 hz1 hz2 rfl (by decide) _ _ _ rfl (hown.alloc _) ⟨wr.heap.size, 0, none⟩ 1 1 [.int .i64 (dg1 : Nat)] rfl rfl ?c1 ?c2 ?c3 ?c4 ?c5 ?_) | go_in)
   first
   | case c1 =>
       intro j u hj
       match j, hj with
       | 0, hj => simp at hj; subst hj; simp [Addr.add]
   | skip
   case c2 => first | rfl | (intro u hu; simp at hu; subst hu; rfl)
   case c3 => unfold maxLen; omega
   case c4 => omega
   case c5 => first | omega | (simp; done) | (simp; omega)
   intro v' w1 hown' hgrow _
   rw [Hs.out] at hown'
   have hb2 : Below W.heap.size W w1 := (hbel.alloc hsz _).grown hgrow (by first | omega | (simp; done) | (simp; omega)) fun k' hk' => (hown.lt k' hk').1
   clear hown hgrow hbel
   go_wp2
   go_roundw
   case rel => exact ⟨k + 1, q1, by omega, HQ1, rfl, hown', hb2⟩
   case measure => have := HM.out; first | (simp [intOf]; done) | (simp [intOf]; omega) | (show (intOf _).toNat < _; simp only [intOf]; omega) | (trace_state; omega)
set_option maxRecDepth 100000 in
set_option maxHeartbeats 1600000 in
theorem rFromInt_neg (X : Nat) (w : World) (h1 : 0 < X) (h2 : X ≤ 9223372036854775808) : Calls Tryz.prog 21 #[.int .i64 (-(X : Int))] w fun e w' => e = .returned (.agg #[.bool (sg (-(X : Int))), .string (mg (-(X : Int)))]) ∧ Below w.heap.size w w' := by
 obtain ⟨i0, hi, hz0, hz1, hz2⟩ := info_parts info3
 have hn : -(X : Int) < 0 := by omega
 go_enter Tryz.func21, Tryz.ntmps21
 go_wp2_with fail
 obtain ⟨W, hW⟩ : ∃ W, W = w.alloc (.cells #[.bool false, .string ⟨#[]⟩] 26) := ⟨_, rfl⟩
 go_loopw [0, 3] (fun c v wr => ∃ k q : Nat, k ≤ 8 ∧ Hid (q = X / 256 ^ k) ∧ c = .int .i64 (-(q : Int)) ∧ wr.ownsRow W.heap.size 3 1 v k (dvals X k) ∧ Below W.heap.size W wr) (fun c _ _ => (-intOf c).toNat)
 case atStart => exact ⟨0, X, Nat.zero_le _, Lib.hid (by rw [Nat.pow_zero, Nat.div_one]), rfl, World.ownsRow_nil _ _ _ _, by rw [hW]; exact Below.refl _ _⟩
 case round =>
  obtain ⟨k, q, hk, HQ, rfl, hown, hbel⟩ := hrel
  have HW := Lib.hid hW
  clear hW
  have hqX : q ≤ X := by rw [HQ.out]; exact Nat.div_le_self _ _
  by_cases h0 : q = 0
  ·subst h0
   have HX := Lib.hid (cur_zero X k HQ.out.symm)
   rw [show -((0 : Nat) : Int) = 0 from rfl]
   have hW := HW.out
   subst hW
   obtain ⟨u0, rfl⟩ := World.plus_of_below hbel
   clear hbel
   go_wp2_with fail
   (go_wp2_with fail; refine (rnumber_c true _ X k _ (Dl.of_owned hown HX.out) (by omega)).mono ?_; rintro e w' ⟨rfl, hb⟩; (first | (with_reducible (have hb2 := World.plus_of_below ((World.below_plus _ _).trans (hb.mono (World.size_plus _ _)))); obtain ⟨u, rfl⟩ := hb2) | (obtain ⟨u, rfl⟩ := World.plus_of_below hb)); clear hb)
   go_wp2_with fail
   refine bodyPost_ret (by simp [results, Tryz.results21, go_sem]; rfl) rfl ?_
   exact ⟨rfl, by (exact belA)⟩
  ·obtain ⟨q1, hq1⟩ : ∃ z, z = q / 256 := ⟨_, rfl⟩
   obtain ⟨dg1, hdg⟩ : ∃ z, z = d8 X k := ⟨_, rfl⟩
   have hk8 : k < 8 := by
    apply Decidable.byContradiction
    intro hc
    have e8 : k = 8 := by omega
    have := HQ.out
    rw [e8, Nat.div_eq_of_lt (show X < 256 ^ 8 by omega)] at this
    exact h0 this
   have hdq : dg1 = q % 256 := by rw [hdg, HQ.out]; rfl
   have hd2 : dg1 < 256 := hdg ▸ d8_lt _ _
   have HQ1 : Hid (q1 = X / 256 ^ (k + 1)) := Lib.hid (by rw [hq1, HQ.out, cur_next])
   have Hs : Hid (dvals X k ++ [Value.int .i64 (dg1 : Nat)] = dvals X (k + 1)) := Lib.hid (by rw [hdg, dvals_succ])
   have HM := Lib.hid (show q1 < q by omega)
   have hsz := hbel.size
   have hcw : wrap64 (-(q1 : Int)) = -(q1 : Int) := by unfold wrap64; omega
   have hz : ¬ (-(q : Int) = 0) := fun h => h0 (Int.ofNat_eq_zero.1 (Int.neg_eq_zero.1 h))
   have hzq : ¬ (q = 0) := h0
   by_cases hd0 : dg1 = 0
   ·have hzd : ¬ (-(dg1 : Int) < 0) := by omega
    have em : (-(q : Int)).tmod 256 = -(dg1 : Int) := by rw [Int.neg_tmod, hdq, tmod256 q]
    have ed : (-(q : Int)).tdiv 256 = -(q1 : Int) := by rw [Int.neg_tdiv, hq1, tdiv256 q]
    have em2 : (q : Int).tmod 256 = (dg1 : Int) := by rw [hdq]; exact tmod256 q
    have ed2 : (q : Int).tdiv 256 = (q1 : Int) := by rw [hq1]; exact tdiv256 q
    clear hq1 hdg hdq h0
    subst hd0
    simp only [Int.natCast_zero, Int.neg_zero] at em em2 hzd
    go_wp2_with (first | (at_builtin; refine wpList_append_own _ rfl _ _ 136 rfl W.heap.size 3 i0 (.int .i64 0) 1 8 Tryz.underlying136 hi hz0 hz1 hz2 rfl (by decide) _ _ _ rfl (hown.alloc _) ⟨wr.heap.size, 0, none⟩ 1 1 [.int .i64 0] rfl rfl ?c1 ?c2 ?c3 ?c4 ?c5 ?_) | go_in)
    all_goals clear em ed em2 ed2
    first
    | case c1 =>
        intro j u hj
        match j, hj with
        | 0, hj => simp at hj; subst hj; simp [Addr.add]
    | skip
    case c2 => first | rfl | (intro u hu; simp at hu; subst hu; rfl)
    case c3 => unfold maxLen; omega
    case c4 => omega
    case c5 => first | omega | (simp; done) | (simp; omega)
    intro v' w1 hown' hgrow _
    have Hs2 := Hs.out
    simp only [Int.natCast_zero] at Hs2
    rw [Hs2] at hown'
    have hb2 : Below W.heap.size W w1 := (hbel.alloc hsz _).grown hgrow (by first | omega | (simp; done) | (simp; omega)) fun k' hk' => (hown.lt k' hk').1
    clear hown hgrow hbel
    go_wp2
    go_roundw
    case rel => exact ⟨k + 1, q1, by omega, HQ1, rfl, hown', hb2⟩
    case measure => have := HM.out; first | (simp [intOf]; done) | (simp [intOf]; omega) | (show (intOf _).toNat < _; simp only [intOf]; omega) | (trace_state; omega)
   ·have hp0 : 0 < dg1 := by omega
    obtain ⟨nn, hnn⟩ : ∃ n : Int, n = -(q : Int) := ⟨_, rfl⟩
    obtain ⟨n1, hn1⟩ : ∃ n : Int, n = -(q1 : Int) := ⟨_, rfl⟩
    obtain ⟨r, hr⟩ : ∃ n : Int, n = -(dg1 : Int) := ⟨_, rfl⟩
    have hrn : -r = (dg1 : Int) := by omega
    have hr0 : r < 0 := by omega
    have hnz : (nn != 0) = true := by rw [hnn, bne_iff_ne]; exact hz
    have HR := Lib.hid (show wrap64 (-r) = (dg1 : Int) by rw [hrn]; unfold wrap64; omega)
    have em : nn.tmod 256 = r := by rw [hnn, hr, Int.neg_tmod, hdq, tmod256 q]
    have ed : nn.tdiv 256 = n1 := by rw [hnn, hn1, Int.neg_tdiv, hq1, tdiv256 q]
    rw [← hn1] at hcw
    have HCW := Lib.hid hcw
    clear hcw hrn
    rw [← hnn]
    have HN1 := Lib.hid hn1
    have HNN := Lib.hid hnn
    clear hq1 hdg hdq h0 hz hzq hd0 hr hn1 hnn
    go_upto_region 8 with fail
    clear em ed hr0 hnz
    rw [HR.out]
    go_wp2_with (at_builtin; (refine wpList_append_own _ rfl _ _ 136 rfl W.heap.size 3 i0 (.int .i64 0) 1 8 Tryz.underlying136 hi hz0 hz1 hz2 rfl (by decide) _ _ _ rfl (hown.alloc _) ⟨wr.heap.size, 0, none⟩ 1 1 [.int .i64 (dg1 : Nat)] rfl rfl ?d1 ?d2 ?d3 ?d4 ?d5 ?_))
    first
    | case d1 =>
        intro j u hj
        match j, hj with
        | 0, hj => simp at hj; subst hj; simp [Addr.add, HR.out]
    | skip
    case d2 => first | rfl | (intro u hu; simp at hu; subst hu; rfl)
    case d3 => unfold maxLen; omega
    case d4 => omega
    case d5 => first | omega | (simp; done) | (simp; omega)
    intro v' w1 hown' hgrow _
    rw [Hs.out] at hown'
    have hb2 : Below W.heap.size W w1 := (hbel.alloc hsz _).grown hgrow (by first | omega | (simp; done) | (simp; omega)) fun k' hk' => (hown.lt k' hk').1
    clear hown hgrow hbel
    go_wp2
    go_roundw
    case rel => exact ⟨k + 1, q1, by omega, HQ1, by rw [HCW.out, HN1.out], hown', hb2⟩
    case measure => have a1 := HM.out; have a2 := HN1.out; have a3 := HNN.out; have a4 := HCW.out; show (-(wrap64 n1)).toNat < (-nn).toNat; rw [a4]; omega
theorem rFromInt_c (n : Int) (w : World) (h1 : -9223372036854775808 ≤ n) (h2 : n ≤ 9223372036854775807) : Calls Tryz.prog 21 #[.int .i64 n] w fun e w' => e = .returned (.agg #[.bool (sg n), .string (mg n)]) ∧ Below w.heap.size w w' := by
 by_cases h : n < 0
 ·obtain ⟨X, rfl⟩ : ∃ X : Nat, n = -(X : Int) := ⟨n.natAbs, by omega⟩
  exact rFromInt_neg X w (by omega) (by omega)
 ·obtain ⟨X, rfl⟩ : ∃ X : Nat, n = (X : Int) := ⟨n.natAbs, by omega⟩
  exact rFromInt_pos X w (by omega)
end Go.Proofs.YtlblfgbpogljoaaGreatDoor

end
section
/- No program in sight: a region that draws its order, one of whose stores may come ahead of reads: a relation between worlds that lets one block k turn into a known object takes the place of 'all old blocks alike'; the store is a step of its own. -/
namespace Go
open Go.RowKit
section
variable {P : Program} {ops : Array Oper}
def RSteps (P : Program) (ops : Array Oper) (Rel : World → World → Prop) (A : (Nat → Value) → Act) (C : World → Prop) (T : Nat → Value → World → Prop) : List Oper → Nat → Prop
 | [], _ => True
 | o :: l, i => (∀ xs w', C w' → (∀ j, (o.after.any fun e => Region.binds .any e && e.on == j) = true → T j (xs j) w') →
     wpList P ops (fun ex a' w'' => ex = .normal ∧ Rel w' w'' ∧ ∃ v, a' = A (fun j => if j = i then v else xs j) ∧ T i v w'') [o] (A xs) w') ∧ RSteps P ops Rel A C T l (i + 1)
theorem RSteps.at {Rel : World → World → Prop} {A : (Nat → Value) → Act} {C : World → Prop} {T : Nat → Value → World → Prop} : ∀ {l : List Oper} {k i : Nat} {o : Oper}, RSteps P ops Rel A C T l k → l[i]? = some o →
    ∀ xs w', C w' → (∀ j, (o.after.any fun e => Region.binds .any e && e.on == j) = true → T j (xs j) w') →
     wpList P ops (fun ex a' w'' => ex = .normal ∧ Rel w' w'' ∧ ∃ v, a' = A (fun j => if j = k + i then v else xs j) ∧ T (k + i) v w'') [o] (A xs) w'
 | [], _, _, _, _, h => by cases h
 | o :: l, k, 0, o', hs, h => by
  have e : o = o' := by simpa using h
  subst e
  exact hs.1
 | o :: l, k, i + 1, o', hs, h => by
  have := RSteps.at hs.2 (i := i) (o := o') (by simpa using h)
  rw [show k + 1 + i = k + (i + 1) by omega] at this
  exact this
theorem RSteps.cons {Rel : World → World → Prop} {A : (Nat → Value) → Act} {C : World → Prop} {T : Nat → Value → World → Prop} {o : Oper} {l : List Oper} {i : Nat}
    (h : ∀ xs w', C w' → (∀ j, (o.after.any fun e => Region.binds .any e && e.on == j) = true → T j (xs j) w') →
     wpList P ops (fun ex a' w'' => ex = .normal ∧ Rel w' w'' ∧ ∃ v, a' = A (fun j => if j = i then v else xs j) ∧ T i v w'') [o] (A xs) w') (t : RSteps P ops Rel A C T l (i + 1)) : RSteps P ops Rel A C T (o :: l) i := ⟨h, t⟩
end
def SR (k : Nat) (O : Obj) (w w' : World) : Prop := w'.os = w.os ∧ w'.tape = w.tape ∧ w'.output = w.output ∧ w.heap.size ≤ w'.heap.size ∧ (∀ j, j < w.heap.size → j ≠ k → w'.heap[j]? = w.heap[j]?) ∧ (k < w.heap.size → w'.heap[k]? = w.heap[k]? ∨ w'.heap[k]? = some O)
theorem SR.of_below {k : Nat} {O : Obj} {w w' : World} (h : Below w.heap.size w w') : SR k O w w' := ⟨h.os, h.tape, h.output, h.size, fun j hj _ => h.block j hj, fun hk => .inl (h.block k hk)⟩
theorem SR.refl (k : Nat) (O : Obj) (w : World) : SR k O w w := SR.of_below (Below.refl _ _)
theorem SR.trans {k : Nat} {O : Obj} {a b c : World} (h1 : SR k O a b) (h2 : SR k O b c) : SR k O a c := by
 obtain ⟨a1, a2, a3, a4, a5, a6⟩ := h1
 obtain ⟨b1, b2, b3, b4, b5, b6⟩ := h2
 refine ⟨b1.trans a1, b2.trans a2, b3.trans a3, Nat.le_trans a4 b4, fun j hj hne => (b5 j (by omega) hne).trans (a5 j hj hne), fun hk => ?_⟩
 rcases b6 (by omega) with h | h
 ·rcases a6 hk with h' | h'
  ·exact .inl (h.trans h')
  ·exact .inr (h.trans h')
 ·exact .inr h
theorem SR.split {k : Nat} {ty : TypeId} {c0 c1 : Array Value} {W w' : World} (hk : k < W.heap.size) (h : SR k (.cells c1 ty (0, 0)) (W.row k ty c0) w') : (∃ u, w' = (W.row k ty c0).plus u) ∨ (∃ u, w' = (W.row k ty c1).plus u) := by
 obtain ⟨a1, a2, a3, a4, a5, a6⟩ := h
 rw [World.size_row] at a4 a5 a6
 rcases a6 hk with h' | h'
 ·refine .inl (World.plus_of_below ⟨a1, a2, a3, by rw [World.size_row]; exact a4, fun j hj => ?_⟩)
  rw [World.size_row] at hj
  by_cases e : j = k
  ·subst e; exact h'
  ·exact a5 j hj e
 ·refine .inr (World.plus_of_below ⟨a1, a2, a3, by rw [World.size_row]; exact a4, fun j hj => ?_⟩)
  rw [World.size_row] at hj
  by_cases e : j = k
  ·subst e; rw [h', World.heap_row_same _ _ _ _ hk]
  ·rw [a5 j hj e, World.heap_row_other _ _ _ _ _ e, World.heap_row_other _ _ _ _ _ e]
theorem SR.store {k : Nat} {ty : TypeId} {c c1 : Array Value} {W u : World} (hk : k < W.heap.size) : SR k (.cells c1 ty (0, 0)) ((W.row k ty c).plus u) ((W.row k ty c1).plus u) ∧ ((W.row k ty c1).plus u).heap[k]? = some (.cells c1 ty (0, 0)) := by
 have hs : ∀ cs, ((W.row k ty cs).plus u).heap.size = (W.plus u).heap.size := fun cs => by
  show ((W.row k ty cs).heap ++ u.heap.extract (W.row k ty cs).heap.size u.heap.size).size = (W.heap ++ u.heap.extract W.heap.size u.heap.size).size
  rw [Array.size_append, Array.size_append, World.size_row]
 have hat : ((W.row k ty c1).plus u).heap[k]? = some (.cells c1 ty (0, 0)) := by rw [World.heap_plus _ _ _ (by rw [World.size_row]; exact hk), World.heap_row_same _ _ _ _ hk]
 refine ⟨⟨rfl, rfl, rfl, by rw [hs, hs]; exact Nat.le_refl _, fun j hj hne => ?_, fun _ => .inr hat⟩, hat⟩
 show ((W.row k ty c1).heap ++ u.heap.extract (W.row k ty c1).heap.size u.heap.size)[j]? = ((W.row k ty c).heap ++ u.heap.extract (W.row k ty c).heap.size u.heap.size)[j]?
 rw [World.size_row, World.size_row]
 by_cases hlt : j < W.heap.size
 ·rw [Array.getElem?_append_left (by rw [World.size_row]; exact hlt), Array.getElem?_append_left (by rw [World.size_row]; exact hlt), World.heap_row_other _ _ _ _ _ hne, World.heap_row_other _ _ _ _ _ hne]
 ·rw [Array.getElem?_append_right (by rw [World.size_row]; omega), Array.getElem?_append_right (by rw [World.size_row]; omega), World.size_row, World.size_row]
end Go

end
section
/- No program in sight: as XRel's law, for a region with one store s among its head: an operation that s waits for still meets the world unstored (Rel0), any other one either world (Rel). -/
namespace Go
open Go.RowKit
section
variable {P : Program} {ops : Array Oper}
def waitsB (os : Oper) (i : Nat) : Bool := os.after.any fun e => Region.binds .any e && e.on == i
def SSteps (P : Program) (Rel0 Rel : World → World → Prop) (w : World) (A : (Nat → Value) → Act) (T : Nat → Value → World → Prop) (s : Nat) (bs : List Nat) : List Oper → Nat → Prop
 | [], _ => True
 | o :: l, i => (∀ xs w', Rel w w' → ((i = s ∨ bs.contains i = true) → Rel0 w w') → (∀ j, waitsB o j = true → T j (xs j) w') →
     wpList P ops (fun ex a' w'' => ex = .normal ∧ (if i = s then Rel w' w'' else Rel0 w' w'') ∧ ∃ v, a' = A (fun j => if j = i then v else xs j) ∧ T i v w'') [o] (A xs) w') ∧ SSteps P Rel0 Rel w A T s bs l (i + 1)
theorem SSteps.mk {Rel0 Rel : World → World → Prop} {w : World} {A : (Nat → Value) → Act} {T : Nat → Value → World → Prop} {s : Nat} {bs : List Nat} {o : Oper} {l : List Oper} {i : Nat}
    (h : ∀ xs w', Rel w w' → ((i = s ∨ bs.contains i = true) → Rel0 w w') → (∀ j, waitsB o j = true → T j (xs j) w') →
     wpList P ops (fun ex a' w'' => ex = .normal ∧ (if i = s then Rel w' w'' else Rel0 w' w'') ∧ ∃ v, a' = A (fun j => if j = i then v else xs j) ∧ T i v w'') [o] (A xs) w') (t : SSteps (ops := ops) P Rel0 Rel w A T s bs l (i + 1)) : SSteps (ops := ops) P Rel0 Rel w A T s bs (o :: l) i := ⟨h, t⟩
theorem SSteps.at {Rel0 Rel : World → World → Prop} {w : World} {A : (Nat → Value) → Act} {T : Nat → Value → World → Prop} {s : Nat} {bs : List Nat} : ∀ {l : List Oper} {k i : Nat} {o : Oper}, SSteps (ops := ops) P Rel0 Rel w A T s bs l k → l[i]? = some o →
    ∀ xs w', Rel w w' → ((k + i = s ∨ bs.contains (k + i) = true) → Rel0 w w') → (∀ j, waitsB o j = true → T j (xs j) w') →
     wpList P ops (fun ex a' w'' => ex = .normal ∧ (if k + i = s then Rel w' w'' else Rel0 w' w'') ∧ ∃ v, a' = A (fun j => if j = k + i then v else xs j) ∧ T (k + i) v w'') [o] (A xs) w'
 | [], _, _, _, _, h => by cases h
 | o :: l, k, 0, o', hs, h => by
  have e : o = o' := by simpa using h
  subst e
  exact hs.1
 | o :: l, k, i + 1, o', hs, h => by
  have := SSteps.at hs.2 (i := i) (o := o') (by simpa using h)
  rw [show k + 1 + i = k + (i + 1) by omega] at this
  exact this
end
def BR (w w' : World) : Prop := Below w.heap.size w w'
theorem BR.refl (w : World) : BR w w := Below.refl _ _
theorem BR.trans {a b c : World} (h1 : BR a b) (h2 : BR b c) : BR a c := Below.trans (show Below a.heap.size a b from h1) (Below.mono (show Below b.heap.size b c from h2) (Below.size h1))
theorem BR.split {w w' : World} (h : BR w w') : ∃ u, w' = w.plus u := World.plus_of_below h
end Go

end
