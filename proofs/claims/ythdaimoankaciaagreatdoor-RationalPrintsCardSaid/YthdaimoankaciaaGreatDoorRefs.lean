import Derived.Test.YthdaimoankaciaaGreatDoorProg
import Derived.Test.YthdaimoankaciaaGreatDoorShelf
import Derived.Test.YthdaimoankaciaaGreatDoorIntH
import Derived.OwnWalk
import Derived.Test.YthdaimoankaciaaGreatDoorKnown
import Derived.Test.YthdaimoankaciaaGreatDoorKinds
set_option linter.unusedSimpArgs false
set_option linter.unusedVariables false
namespace Go.Proofs.YthdaimoankaciaaGreatDoor
open Go Go.RowKit
open Vi
def d8 (x i : Nat) : Nat := x / 256 ^ i % 256
theorem d8_lt (x i : Nat) : d8 x i < 256 := Nat.mod_lt _ (by omega)
def dvals (x k : Nat) : List Value := (List.range k).map fun i => Value.int .i64 (d8 x i : Nat)
theorem dvals_length (x k : Nat) : (dvals x k).length = k := by unfold dvals; simp
theorem dvals_succ (x k : Nat) : dvals x k ++ [Value.int .i64 (d8 x k : Nat)] = dvals x (k + 1) := by unfold dvals; simp [List.range_succ]
theorem dvals_get (x k i : Nat) (h : i < k) : (dvals x k)[i]? = some (Value.int .i64 (d8 x i : Nat)) := by unfold dvals; simp [h]
def Dl (w : World) (v : Value) (n x : Nat) : Prop := x < 256 ^ n ∧ ((v = .slice none 0 0 ∧ n = 0) ∨ ∃ g c, v = .slice (some ⟨g, 0, none⟩) n c ∧ n ≤ c ∧ c ≤ maxLen ∧ g < w.heap.size ∧ ∀ i, i < n → w.cell? ⟨g, i, none⟩ = some (.int .i64 (d8 x i : Nat)))
theorem Dl.below {w w' : World} {v : Value} {n x : Nat} (h : Dl w v n x) (hb : Below w.heap.size w w') : Dl w' v n x := by
 obtain ⟨h1, h2⟩ := h
 refine ⟨h1, ?_⟩
 rcases h2 with h2 | ⟨g, c, hv, hc, hm, hg, hcell⟩
 ·exact .inl h2
 ·exact .inr ⟨g, c, hv, hc, hm, Nat.lt_of_lt_of_le hg hb.size, fun i hi => (hb.cell (p := ⟨g, i, none⟩) hg).trans (hcell i hi)⟩
theorem Dl.of_owned {w : World} {B n x : Nat} {v : Value} (h : w.ownsRow B 3 1 v n (dvals x n)) (hx : x < 256 ^ n) : Dl w v n x := by
 refine ⟨hx, ?_⟩
 rcases h.2 with ⟨hv, hn⟩ | ⟨g, cap, cur, hv, hb, hh, hn, hm, hs, ht⟩
 ·exact .inl ⟨hv, hn⟩
 ·refine .inr ⟨g, cap, hv, hn, hm, by have := (Array.getElem?_eq_some_iff.1 hh).1; exact this, fun i hi => ?_⟩
  subst hv
  rw [h.cellAt i (by omega), dvals_get x n i hi]
theorem info3 : (Tryz.prog.info? 3).map (fun i => (i.zero, i.size, i.bytes)) = some (some (.int .i64 0), 1, 8) := by kernel_rfl
set_option maxHeartbeats 400000 in
theorem rdigits_c (b : Bool) (s : ByteArray) (w : World) (hs : s.size ≤ 4294967296) : Calls Tryz.prog 155 #[.agg #[.bool b, .string s]] w fun e w' => ∃ v, e = .returned v ∧ Dl w' v s.size (num s) ∧ Below w.heap.size w w' := by
 obtain ⟨i0, hi, hz0, hz1, hz2⟩ := info_parts info3
 have hx := Lib.hid (num_lt s)
 go_enter Tryz.func155, Tryz.ntmps155
 go_wp2
 go_loopw [3, 4] (fun v i wr => ∃ p k : Nat, p + k = s.size ∧ i = .int .i64 ((p : Int) - 1) ∧ wr.ownsRow (w.heap.size + 1) 3 1 v k (dvals (num s) k) ∧ Below (w.heap.size + 1) (w.alloc (.cells #[.bool b, .string s] 23)) wr) (fun _ i _ => (intOf i + 1).toNat)
 case atStart => exact ⟨s.size, 0, rfl, rfl, World.ownsRow_nil _ _ _ _, Below.refl _ _⟩
 case round =>
  obtain ⟨p, k, hpk, rfl, hown, hbel⟩ := hrel
  have hc0 := hbel.cell (p := ⟨w.heap.size, 0, none⟩) (by simp)
  have hc1 := hbel.cell (p := ⟨w.heap.size, 1, none⟩) (by simp)
  simp [go_sem] at hc0 hc1
  cases p with
  | zero =>
   go_wp2
   go_ret
   have e : k = s.size := by omega
   subst e
   exact ⟨_, rfl, Dl.of_owned hown hx.out, (Below.alloc (Below.refl _ _) (Nat.le_refl _) _).trans (hbel.mono (Nat.le_succ _))⟩
  | succ q =>
   have hq : ((q + 1 : Nat) : Int) - 1 = (q : Int) := by omega
   rw [hq]
   have hq1 : (0 : Int) ≤ (q : Int) := by omega
   have hq2 : q < s.size := by omega
   have hget : (s[q]'hq2).toNat = d8 (num s) k := by rw [get_num, show s.size - 1 - q = k by omega]; rfl
   have hd := d8_lt (num s) k
   have hw : wrap64 (d8 (num s) k : Int) = (d8 (num s) k : Int) := by unfold wrap64; omega
   go_wp2_with (first | (at_builtin; refine wpList_append_own _ rfl _ _ 102 rfl (w.heap.size + 1) 3 i0 (.int .i64 0) 1 8 Tryz.underlying102 hi hz0 hz1 hz2 rfl (by decide) _ _ _ rfl (hown.alloc _) ⟨wr.heap.size, 0, none⟩ 1 1 [.int .i64 (d8 (num s) k : Nat)] rfl rfl ?c1 ?c2 ?c3 ?c4 ?c5 ?_) | go_in)
   case c1 =>
    intro j u hj
    match j, hj with
    | 0, hj => simp at hj; subst hj; simp [Addr.add, hget, hw]
   case c2 => intro u hu; simp at hu; subst hu; rfl
   case c3 => unfold maxLen; omega
   case c4 => omega
   case c5 => have := hbel.size; simp at this; first | (simp; done) | (simp; omega)
   intro v' w1 hown' hgrow _
   rw [dvals_succ] at hown'
   have hb2 : Below (w.heap.size + 1) (w.alloc (Obj.cells #[Value.bool b, Value.string s] 23)) w1 := by
    have hsz : w.heap.size + 1 ≤ wr.heap.size := by have := hbel.size; simpa using this
    refine (hbel.alloc hsz _).grown hgrow (by first | (simp; done) | (simp; omega)) fun k' hk' => (hown.lt k' hk').1
   clear hown hgrow hbel hc0 hc1 hget hd hw
   go_wp2
   go_roundw
   case rel => exact ⟨q, k + 1, by omega, rfl, hown', hb2⟩
   case measure => first | (simp [intOf]; done) | (simp [intOf]; omega)
theorem d8_big (x n i : Nat) (h : x < 256 ^ n) (hi : n ≤ i) : d8 x i = 0 := by
 unfold d8
 rw [Nat.div_eq_of_lt (Nat.lt_of_lt_of_le h (Nat.pow_le_pow_right (by omega) hi))]
theorem nd_top8 (x m : Nat) (h1 : nd 256 x ≤ m + 1) (h : d8 x m ≠ 0) : nd 256 x = m + 1 := by
 apply Decidable.byContradiction
 intro h2
 have h3 := lt_pow_nd 256 (by omega) x
 exact h (d8_big x _ m h3 (by omega))
theorem nd_low8 (x m : Nat) (h1 : nd 256 x ≤ m + 1) (h : d8 x m = 0) : nd 256 x ≤ m := by
 apply nd_le 256 (by omega)
 have h3 := Nat.lt_of_lt_of_le (lt_pow_nd 256 (by omega) x) (Nat.pow_le_pow_right (by omega) h1)
 unfold d8 at h
 have h4 : x / 256 ^ m < 256 := by
  rw [Nat.div_lt_iff_lt_mul (Nat.pow_pos (by omega)), Nat.mul_comm, ← Nat.pow_succ]; exact h3
 have h5 : x / 256 ^ m = 0 := by rw [Nat.mod_eq_of_lt h4] at h; exact h
 exact (Nat.div_eq_zero_iff_lt (Nat.pow_pos (by omega))).1 h5
def nbFn (x N k : Nat) : Nat → Nat := fun p => if p < N ∧ N - 1 - p < k then d8 x (N - 1 - p) else 0
theorem nbFn_zero (x N n : Nat) : arr .u8 (nbFn x N 0) n = arr .u8 (fun _ => 0) n := by
 apply arr_congr; intro i _; unfold nbFn; rw [if_neg (by omega)]
theorem nbFn_succ (x N c p : Nat) (hp : p + 1 + c = N) : upd (nbFn x N c) p (d8 x c) = nbFn x N (c + 1) := by
 funext k
 unfold upd nbFn
 by_cases h : k = p
 ·subst h
  rw [if_pos rfl, show N - 1 - k = c by omega, if_pos (by omega)]
 ·rw [if_neg h]
  by_cases h2 : k < N ∧ N - 1 - k < c
  ·rw [if_pos h2, if_pos (by omega)]
  ·rw [if_neg h2, if_neg (by omega)]
theorem nbFn_lt (x N c p : Nat) : nbFn x N c p < 256 := by
 unfold nbFn; split
 ·exact d8_lt _ _
 ·omega
theorem nb_mag (x N : Nat) (hN : nd 256 x = N) : strFn (nbFn x N N) N = mag x := by
 unfold strFn mag
 congr 2
 subst hN
 apply List.ext_getElem?
 intro i
 by_cases hi : i < nd 256 x
 ·have hl : ((dig 256 x).map UInt8.ofNat).length = nd 256 x := by simp [nd]
  rw [List.getElem?_reverse (by omega), hl]
  simp only [List.getElem?_map]
  rw [List.getElem?_range hi]
  have h2 : (dig 256 x)[nd 256 x - 1 - i]? = some (d8 x (nd 256 x - 1 - i)) := by
   have h3 := dig_getD 256 (by omega) x (nd 256 x - 1 - i)
   have h4 : nd 256 x - 1 - i < (dig 256 x).length := by show _ < nd 256 x; omega
   rw [List.getD_eq_getElem?_getD, List.getElem?_eq_getElem h4] at h3
   rw [List.getElem?_eq_getElem h4]
   exact congrArg some h3
  rw [h2]
  simp only [Option.map_some]
  unfold nbFn
  rw [if_pos (by omega)]
 ·rw [List.getElem?_eq_none (by simp; omega), List.getElem?_eq_none (by simp; show nd 256 x ≤ i; omega)]
theorem sign_empty (neg : Bool) (x : Nat) : (Value.agg #[.bool (neg && decide ((0 : Int) < (nd 256 x : Int))), .string (mag x)]) = .agg #[.bool (sg (if neg then -(x : Int) else x)), .string (mg (if neg then -(x : Int) else x))] := by
 rw [← made_int neg _ x rfl, mag_isEmpty]
 have : decide ((0 : Int) < (nd 256 x : Int)) = !(x == 0) := by
  by_cases h : x = 0
  ·subst h; rfl
  ·have := nd_pos 256 (by omega) x (by omega)
   rw [beq_eq_false_iff_ne.2 h]; simp; omega
 rw [this]
theorem d8_byte (x i : Nat) : IntKind.u8.wrap (d8 x i : Int) = (d8 x i : Int) := by
 have := d8_lt x i
 rw [IntKind.wrap_u8]; omega
theorem make8z (w : World) : (Instr.makeSlice 157 (.int .i64 0) (.int .i64 0)).run Tryz.prog w = .ok (.slice (some ⟨w.heap.size, 0, none⟩) 0 0) (w.alloc (.cells (arr .u8 (fun _ => 0) 0) 5)) := make8 0 w (by omega)
theorem conv8z (w : World) :
    (convert 157 9 (.slice (some ⟨w.heap.size, 0, none⟩) 0 0)).run Tryz.prog (w.alloc (.cells (arr .u8 (fun _ => 0) 0) 5)) = .ok (.string ⟨#[]⟩) (w.alloc (.cells (arr .u8 (fun _ => 0) 0) 5)) := conv8 (fun _ => 0) 0 0 w (fun _ => by omega)
set_option maxRecDepth 100000 in
set_option maxHeartbeats 400000 in
theorem rnumber_nil (neg : Bool) (w : World) : Calls Tryz.prog 154 #[.bool neg, .slice none 0 0] w fun e w' => e = .returned (.agg #[.bool false, .string ⟨#[]⟩]) ∧ Below w.heap.size w w' := by
 have hm := make8z (w.alloc (.cells #[Value.bool false, .string ⟨#[]⟩] 23))
 have hc := conv8z (w.alloc (.cells #[Value.bool false, .string ⟨#[]⟩] 23))
 simp only [World.size_alloc] at hc
 cases neg
 all_goals
  go_enter Tryz.func154, Tryz.ntmps154
  go_wp2
  go_rounds 1
  go_wp2
  go_rounds 1
  go_wp2
  refine bodyPost_ret (by simp [results, Tryz.results154, go_sem]; rfl) rfl ?_
  exact ⟨rfl, by (repeat' (first | (with_reducible first | exact Below.refl _ _ | assumption | refine Below.plus0 ?_ _ | refine Below.alloc0 ?_ _ | refine Below.plus ?_ ?_ _ | refine Below.alloc ?_ ?_ _ | refine Below.drew ?_ | refine Below.drewN ?_ _) | (simp [go_sem]; done) | (simp [go_sem]; omega)))⟩
set_option maxRecDepth 100000 in
set_option maxHeartbeats 400000 in
theorem rnumber_some (neg : Bool) (x n c g : Nat) (w : World) (hx : x < 256 ^ n) (hn : n ≤ 8589934592) (hg : g < w.heap.size) (hr : ∀ i, i < n → w.cell? ⟨g, i, none⟩ = some (.int .i64 (d8 x i : Nat))) : Calls Tryz.prog 154 #[.bool neg, .slice (some ⟨g, 0, none⟩) n c] w fun e w' => e = .returned (.agg #[.bool (neg && decide ((0 : Int) < (nd 256 x : Int))), .string (mag x)]) ∧ Below w.heap.size w w' := by
 have hle := nd_le 256 (by omega) x n hx
 go_enter Tryz.func154, Tryz.ntmps154
 go_wp2_with fail
 go_loop [5] (fun v => ∃ j : Nat, nd 256 x ≤ j ∧ j ≤ n ∧ v = .int .i64 j) (fun v => (intOf v).toNat)
 case atStart => exact ⟨n, hle, Nat.le_refl _, rfl⟩
 case round =>
  obtain ⟨j, h1, h2, rfl⟩ := hrel
  by_cases hj : j = 0
  ·subst hj
   have e0 : x = 0 := by
    have := lt_pow_nd 256 (by omega) x
    rw [show nd 256 x = 0 by omega, Nat.pow_zero] at this; omega
   subst e0
   have hm := make8z (w.alloc (.cells #[Value.bool false, .string ⟨#[]⟩] 23))
   have hc := conv8z (w.alloc (.cells #[Value.bool false, .string ⟨#[]⟩] 23))
   simp only [World.size_alloc] at hc
   clear hr
   cases neg
   all_goals
    go_wp2_with fail
    go_rounds 1
    go_wp2_with fail
    refine bodyPost_ret (by simp [results, Tryz.results154, go_sem]; rfl) rfl ?_
    exact ⟨rfl, by (repeat' (first | (with_reducible first | exact Below.refl _ _ | assumption | refine Below.plus0 ?_ _ | refine Below.alloc0 ?_ _ | refine Below.plus ?_ ?_ _ | refine Below.alloc ?_ ?_ _ | refine Below.drew ?_ | refine Below.drewN ?_ _) | (simp [go_sem]; done) | (simp [go_sem]; omega)))⟩
  ·obtain ⟨m, hm⟩ : ∃ m, j = m + 1 := ⟨j - 1, by omega⟩
   have hcell := hr m (by omega)
   have hj0 : (0 : Int) < (j : Int) := by omega
   have e1 : (j : Int) - 1 = (m : Int) := by omega
   have hmn : m < n := by omega
   have Hm := Lib.hid hm
   have Hc := hcell
   have ht : nd 256 x ≤ m + 1 := by omega
   have Ht := Lib.hid ht
   clear ht hm
   by_cases h0 : d8 x m = 0
   ·have hb : ((d8 x m : Int) == 0) = true := by rw [h0]; rfl
    have H := Lib.hid (nd_low8 x m Ht.out h0)
    clear h0
    go_wp2_with fail
    exact ⟨⟨m, H.out, by omega, rfl⟩, by have := Hm.out; simp [intOf]; omega⟩
   ·have hb : ((d8 x m : Int) == 0) = false := by rw [beq_eq_false_iff_ne]; omega
    have hnd := nd_top8 x m Ht.out h0
    rw [← Hm.out] at hnd
    have H := Lib.hid hnd
    have hm := make8 j (w.alloc (.cells #[Value.bool false, .string ⟨#[]⟩] 23)) (by omega)
    have hcv := conv8 (nbFn x j j) j j (w.alloc (.cells #[Value.bool false, .string ⟨#[]⟩] 23)) (nbFn_lt x j j)
    simp only [World.size_alloc] at hcv
    have H0 := Lib.hid (nbFn_zero x j j)
    clear h0 hnd h1 hle
    go_wp2_with fail
    go_loopw [7] (fun v wr => ∃ i : Nat, i ≤ j ∧ v = .int .i64 i ∧ wr = (w.alloc (.cells #[Value.bool false, .string ⟨#[]⟩] 23)).alloc (.cells (arr .u8 (nbFn x j i) j) 5)) (fun v _ => j - (intOf v).toNat)
    case atStart => exact ⟨0, Nat.zero_le _, rfl, by rw [H0.out]⟩
    case round =>
     obtain ⟨i, hi, rfl, rfl⟩ := hrel
     by_cases hlt : i < j
     ·obtain ⟨p, hp⟩ : ∃ p : Nat, p + 1 + i = j := ⟨j - 1 - i, by omega⟩
      have hci := hr i (by omega)
      have e5 : (m : Int) - (i : Int) = (p : Int) := by omega
      have hpl : p < j := by omega
      have hget := arr_get .u8 (nbFn x j i) j p hpl
      have hd := d8_byte x i
      have H1 := Lib.hid (nbFn_succ x j i p hp)
      clear hp
      go_wp2_with fail
      refine ⟨⟨i + 1, by omega, by go_num, ?_⟩, by simp [intOf]; omega⟩
      rw [← H1.out, arr_set]
     ·have e : i = j := by omega
      subst e
      clear hr
      cases neg
      all_goals
       go_wp2_with fail
       refine bodyPost_ret (by simp [results, Tryz.results154, go_sem]; rfl) rfl ?_
       refine ⟨?_, by (repeat' (first | (with_reducible first | exact Below.refl _ _ | assumption | refine Below.plus0 ?_ _ | refine Below.alloc0 ?_ _ | refine Below.plus ?_ ?_ _ | refine Below.alloc ?_ ?_ _ | refine Below.drew ?_ | refine Below.drewN ?_ _) | (simp [go_sem]; done) | (simp [go_sem]; omega)))⟩
       rw [nb_mag x i H.out, H.out]
       first | (simp; done) | (simp; omega)
theorem rnumber_c (neg : Bool) (v : Value) (x n : Nat) (w : World) (h : Dl w v n x) (hn : n ≤ 8589934592) : Calls Tryz.prog 154 #[.bool neg, v] w fun e w' => e = .returned (.agg #[.bool (sg (if neg then -(x : Int) else x)), .string (mg (if neg then -(x : Int) else x))]) ∧ Below w.heap.size w w' := by
 rcases h.2 with ⟨rfl, rfl⟩ | ⟨g, c, rfl, _, _, hg, hcell⟩
 ·have hx : x = 0 := by have := h.1; rw [Nat.pow_zero] at this; omega
  subst hx
  have := rnumber_nil neg w
  rw [show (if neg then -((0 : Nat) : Int) else ((0 : Nat) : Int)) = 0 by cases neg <;> rfl]
  exact this
 ·rw [← sign_empty]
  exact rnumber_some neg x n c g w h.1 hn hg hcell
end Go.Proofs.YthdaimoankaciaaGreatDoor
set_option linter.unusedSimpArgs false
set_option linter.unusedVariables false
namespace Go.Proofs.YthdaimoankaciaaGreatDoor
open Go Go.RowKit
open Vi
theorem extract_min (s : ByteArray) (k : Nat) : s.extract 0 (min (s.size : Int) (k : Int)).toNat = s.extract 0 k := by
 have e : (min (s.size : Int) (k : Int)).toNat = min s.size k := by omega
 rw [e]
 apply ByteArray.ext
 apply Array.ext_getElem?
 intro i
 simp only [ByteArray.data_extract, Array.getElem?_extract]
 have hs : s.data.size = s.size := rfl
 by_cases h : i < min s.size k
 ·rw [if_pos (by omega), if_pos (by omega)]
 ·rw [if_neg (by omega), if_neg (by omega)]
theorem size_extract_le (s : ByteArray) (k : Nat) : (s.extract 0 k).size ≤ s.size ∧ (s.extract 0 k).size ≤ k := by
 rw [ByteArray.size_extract]; omega
def canI (b : Bool) (s : ByteArray) (k : Nat) : Int := if b then -(num (s.extract 0 k) : Int) else num (s.extract 0 k)
theorem num_extract_lt (s : ByteArray) (k : Nat) : num (s.extract 0 k) < 256 ^ k :=
 Nat.lt_of_lt_of_le (num_lt _) (Nat.pow_le_pow_right (by omega) (size_extract_le s k).2)
theorem canI_lt (b : Bool) (s : ByteArray) (k : Nat) : (canI b s k).natAbs < 256 ^ k := by
 have h := num_extract_lt s k
 unfold canI
 cases b
 ·simpa using h
 ·simpa using h
theorem mg_size (x : Int) (k : Nat) (h : x.natAbs < 256 ^ k) : (mg x).size ≤ k := size_mag_le _ k h
end Go.Proofs.YthdaimoankaciaaGreatDoor
set_option linter.unusedSimpArgs false
set_option linter.unusedVariables false
namespace Go.Proofs.YthdaimoankaciaaGreatDoor
open Go Go.RowKit
open Vi
theorem d8_lt_i64 (x i : Nat) : (0 : Int) ≤ (d8 x i : Int) ∧ (d8 x i : Int) < 256 := by have := d8_lt x i; omega
set_option maxHeartbeats 400000 in
theorem at_c (v : Value) (n x i : Nat) (w : World) (h : Dl w v n x) : Calls Tryz.prog 186 #[v, .int .i64 (i : Int)] w fun e w' => e = .returned (.int .i64 (d8 x i : Nat)) ∧ w = w' := by
 rcases h.2 with ⟨rfl, rfl⟩ | ⟨g, c, rfl, hc, hm, hg, hcell⟩
 ·have e0 : d8 x i = 0 := d8_big x 0 i h.1 (Nat.zero_le _)
  rw [e0]
  have hi : ¬ (i : Int) < 0 := by omega
  clear h e0
  go_enter Tryz.func186, Tryz.ntmps186
  go_wp2
  go_ret
  exact ⟨rfl, rfl⟩
 ·by_cases hi : i < n
  ·have hci := hcell i hi
   have hi2 : (i : Int) < (n : Int) := by omega
   clear h hcell
   go_enter Tryz.func186, Tryz.ntmps186
   go_wp2
   go_ret
   exact ⟨rfl, rfl⟩
  ·have e0 : d8 x i = 0 := d8_big x n i h.1 (by omega)
   rw [e0]
   have hi2 : ¬ (i : Int) < (n : Int) := by omega
   clear h hcell e0
   go_enter Tryz.func186, Tryz.ntmps186
   go_wp2
   go_ret
   exact ⟨rfl, rfl⟩
theorem Dl.lenForm {w : World} {v : Value} {n x : Nat} (h : Dl w v n x) : ∃ ao c, v = .slice ao n c := by
 rcases h.2 with ⟨rfl, rfl⟩ | ⟨g, c, rfl, _⟩
 ·exact ⟨_, _, rfl⟩
 ·exact ⟨_, _, rfl⟩
theorem d8_div (x p : Nat) : x / 256 ^ p = d8 x p + 256 * (x / 256 ^ (p + 1)) := by
 unfold d8
 rw [Nat.pow_succ, ← Nat.div_div_eq_div_mul]; omega
theorem cmp_lt_of (x y p : Nat) (h : x / 256 ^ (p + 1) = y / 256 ^ (p + 1)) (hd : d8 x p < d8 y p) : x < y := by
 have h1 := d8_div x p
 have h2 := d8_div y p
 have h3 : x / 256 ^ p < y / 256 ^ p := by omega
 apply Nat.lt_of_not_le
 intro hle
 have := Nat.div_le_div_right (c := 256 ^ p) hle
 omega
theorem cmpN_of_lt (x y : Nat) (h : x < y) : cmpN x y = -1 := by unfold cmpN; rw [if_pos h]
theorem cmpN_of_gt (x y : Nat) (h : y < x) : cmpN x y = 1 := by unfold cmpN; rw [if_neg (by omega), if_neg (by omega)]
theorem cmpN_of_eq (x y : Nat) (h : x = y) : cmpN x y = 0 := by unfold cmpN; rw [if_neg (by omega), if_pos h]
theorem div_step (x y q : Nat) (h : x / 256 ^ (q + 1) = y / 256 ^ (q + 1)) (hd : d8 x q = d8 y q) : x / 256 ^ q = y / 256 ^ q := by
 rw [d8_div x q, d8_div y q, h, hd]
set_option maxHeartbeats 800000 in
theorem order_c (v1 v2 : Value) (n m x y : Nat) (w : World) (h1 : Dl w v1 n x) (h2 : Dl w v2 m y) (hn : n ≤ 8589934592) (hm : m ≤ 8589934592) : Calls Tryz.prog 156 #[v1, v2] w fun e w' => e = .returned (.int .i64 (cmpN x y)) ∧ w = w' := by
 obtain ⟨a1, c1, e1⟩ := h1.lenForm
 obtain ⟨a2, c2, e2⟩ := h2.lenForm
 subst e1
 subst e2
 have hmax : max (n : Int) (m : Int) = ((max n m : Nat) : Int) := by omega
 obtain ⟨N, hN⟩ : ∃ N, N = max n m := ⟨_, rfl⟩
 rw [← hN] at hmax
 have hx : x / 256 ^ N = y / 256 ^ N := by
  rw [Nat.div_eq_of_lt (Nat.lt_of_lt_of_le h1.1 (Nat.pow_le_pow_right (by omega) (by omega))), Nat.div_eq_of_lt (Nat.lt_of_lt_of_le h2.1 (Nat.pow_le_pow_right (by omega) (by omega)))]
 have hNb : N ≤ 8589934592 := by omega
 have HX := Lib.hid hx
 have A1 := Lib.hid (fun i => at_c _ n x i w h1)
 have A2 := Lib.hid (fun i => at_c _ m y i w h2)
 clear hx hN h1 h2
 go_enter Tryz.func156, Tryz.ntmps156
 go_wp2_with fail
 go_loop [5] (fun i => ∃ p : Nat, p ≤ N ∧ i = .int .i64 ((p : Int) - 1) ∧ Hid (x / 256 ^ p = y / 256 ^ p)) (fun i => (intOf i + 1).toNat)
 case atStart => exact ⟨N, Nat.le_refl _, rfl, HX⟩
 case round =>
  obtain ⟨p, hp, rfl, HP⟩ := hrel
  cases p with
  | zero =>
   go_wp2_with fail
   go_ret
   refine ⟨?_, rfl⟩
   have := HP.out
   rw [Nat.pow_zero, Nat.div_one, Nat.div_one] at this
   rw [cmpN_of_eq x y this]; rfl
  | succ q =>
   have hq : ((q + 1 : Nat) : Int) - 1 = (q : Int) := by omega
   rw [hq]
   by_cases hlt : d8 x q < d8 y q
   ·have H := Lib.hid (cmpN_of_lt x y (cmp_lt_of x y q HP.out hlt))
    have hl2 : (d8 x q : Int) < (d8 y q : Int) := by omega
    clear hlt
    go_wp2_with (go_at_call 186; (first | (with_reducible refine (A1.out _).mono ?_) | (with_reducible refine (A2.out _).mono ?_)); rintro e w' ⟨rfl, rfl⟩)
    go_ret
    exact ⟨by rw [H.out]; rfl, rfl⟩
   ·by_cases hgt : d8 y q < d8 x q
    ·have H := Lib.hid (cmpN_of_gt x y (cmp_lt_of y x q HP.out.symm hgt))
     have hl2 : ¬ (d8 x q : Int) < (d8 y q : Int) := by omega
     have hl3 : (d8 y q : Int) < (d8 x q : Int) := by omega
     clear hlt hgt
     go_wp2_with (go_at_call 186; (first | (with_reducible refine (A1.out _).mono ?_) | (with_reducible refine (A2.out _).mono ?_)); rintro e w' ⟨rfl, rfl⟩)
     go_ret
     exact ⟨by rw [H.out]; rfl, rfl⟩
    ·have hd : d8 x q = d8 y q := by omega
     have H := Lib.hid (div_step x y q HP.out hd)
     have hl2 : ¬ (d8 x q : Int) < (d8 y q : Int) := by omega
     have hl3 : ¬ (d8 y q : Int) < (d8 x q : Int) := by omega
     clear hlt hgt hd
     go_wp2_with (go_at_call 186; (first | (with_reducible refine (A1.out _).mono ?_) | (with_reducible refine (A2.out _).mono ?_)); rintro e w' ⟨rfl, rfl⟩)
     refine ⟨⟨q, by omega, by go_num, H⟩, by first | (simp [intOf]; done) | (simp [intOf]; omega)⟩
theorem wrap_cmp_mul (x y : Nat) (a b : Int) : IntKind.i64.wrap (cmpN x y * cmpI a b) = cmpN x y * cmpI a b := by
 unfold cmpN cmpI; repeat' split
 all_goals rfl
theorem agg_mg (x : Int) : num (mg x) = x.natAbs := num_mag _
set_option maxHeartbeats 400000 in
theorem rdig_c (x : Int) (w : World) (hx : (mg x).size ≤ 4294967296) : Calls Tryz.prog 155 #[.agg #[.bool (sg x), .string (mg x)]] w fun e w' => ∃ v, e = .returned v ∧ Dl w' v (mg x).size x.natAbs ∧ Below w.heap.size w w' := by
 have h := rdigits_c (sg x) (mg x) w hx
 rw [agg_mg] at h
 exact h
theorem cmpI_mul (x y : Int) (h : cmpI x 0 = cmpI y 0) : cmpN x.natAbs y.natAbs * cmpI x 0 = cmpI x y := by
 have e : ∀ z : Int, cmpI z 0 = if z < 0 then -1 else if z = 0 then 0 else 1 := fun z => rfl
 rw [e, e] at h
 rw [e]
 unfold cmpN cmpI
 repeat' split at h
 all_goals first | omega | skip
 all_goals repeat' split
 all_goals omega
theorem cmpI_other (x y : Int) (h : cmpI x 0 ≠ cmpI y 0) : (if cmpI x 0 < cmpI y 0 then -1 else 1 : Int) = cmpI x y := by
 have e : ∀ z : Int, cmpI z 0 = if z < 0 then -1 else if z = 0 then 0 else 1 := fun z => rfl
 rw [e, e] at h ⊢
 unfold cmpI
 repeat' split
 all_goals omega
end Go.Proofs.YthdaimoankaciaaGreatDoor
set_option linter.unusedSimpArgs false
set_option linter.unusedVariables false
namespace Go.Proofs.YthdaimoankaciaaGreatDoor
open Go Go.RowKit
open Vi
def cr8 (x y k : Nat) : Nat := (x % 256 ^ k + y % 256 ^ k) / 256 ^ k
theorem mod_succ8 (x k : Nat) : x % 256 ^ (k + 1) = x % 256 ^ k + 256 ^ k * d8 x k := by
 unfold d8
 rw [Nat.pow_succ, Nat.mod_mul]
theorem cr8_zero (x y : Nat) : cr8 x y 0 = 0 := by unfold cr8; simp [Nat.mod_one]
theorem cr8_mid (x y k : Nat) : (x % 256 ^ (k + 1) + y % 256 ^ (k + 1)) / 256 ^ k = d8 x k + d8 y k + cr8 x y k := by
 have hp : 0 < 256 ^ k := Nat.pow_pos (by omega)
 unfold cr8
 rw [mod_succ8, mod_succ8]
 have e : x % 256 ^ k + 256 ^ k * d8 x k + (y % 256 ^ k + 256 ^ k * d8 y k) = (x % 256 ^ k + y % 256 ^ k) + (d8 x k + d8 y k) * 256 ^ k := by
  rw [Nat.add_mul, Nat.mul_comm (d8 x k), Nat.mul_comm (d8 y k)]; omega
 rw [e, Nat.add_mul_div_right _ _ hp]; omega
theorem cr8_succ (x y k : Nat) : cr8 x y (k + 1) = (d8 x k + d8 y k + cr8 x y k) / 256 := by
 rw [← cr8_mid, Nat.div_div_eq_div_mul, ← Nat.pow_succ]; rfl
theorem d8_add (x y k : Nat) : d8 (x + y) k = (d8 x k + d8 y k + cr8 x y k) % 256 := by
 rw [← cr8_mid]
 unfold d8
 have e : (x + y) % 256 ^ (k + 1) = (x % 256 ^ (k + 1) + y % 256 ^ (k + 1)) % 256 ^ (k + 1) := Nat.add_mod _ _ _
 have h1 : ∀ z : Nat, z / 256 ^ k % 256 = z % 256 ^ (k + 1) / 256 ^ k := fun z => by
  rw [Nat.pow_succ, Nat.mod_mul_right_div_self]
 rw [h1, h1, e]
theorem cr8_le (x y k : Nat) : cr8 x y k ≤ 1 := by
 unfold cr8
 have hp : 0 < 256 ^ k := Nat.pow_pos (by omega)
 have h1 := Nat.mod_lt x hp
 have h2 := Nat.mod_lt y hp
 have : (x % 256 ^ k + y % 256 ^ k) / 256 ^ k < 2 := by
  rw [Nat.div_lt_iff_lt_mul hp]; omega
 omega
theorem cr8_end (x y k : Nat) (hx : x < 256 ^ k) (hy : y < 256 ^ k) (h : cr8 x y k = 0) : x + y < 256 ^ k := by
 unfold cr8 at h
 rw [Nat.mod_eq_of_lt hx, Nat.mod_eq_of_lt hy] at h
 exact (Nat.div_eq_zero_iff_lt (Nat.pow_pos (by omega))).1 h
theorem cr8_big (x y k : Nat) (hx : x < 256 ^ k) (hy : y < 256 ^ k) : cr8 x y (k + 1) = 0 := by
 unfold cr8
 have h1 : (256 : Nat) ^ (k + 1) = 256 ^ k * 256 := Nat.pow_succ ..
 rw [Nat.mod_eq_of_lt (by omega), Nat.mod_eq_of_lt (by omega)]
 exact Nat.div_eq_of_lt (by omega)
theorem World.ownsRow.plus {w : World} {B : Nat} {e : TypeId} {size : Nat} {v : Value} {n : Nat} {xs : List Value} (h : w.ownsRow B e size v n xs) (u : World) : (w.plus u).ownsRow B e size v n xs :=
 h.kept (row := none) ⟨rfl, rfl, rfl, World.size_plus w u, fun k hk _ => World.heap_plus w u k hk⟩ (by cases hv : v.ownBlock <;> simp)
theorem cr8_sub (x y k : Nat) (h : y ≤ x) : d8 (x - y) k + d8 y k + cr8 (x - y) y k = d8 x k + 256 * cr8 (x - y) y (k + 1) := by
 have h1 := d8_add (x - y) y k
 rw [Nat.sub_add_cancel h] at h1
 have h2 := cr8_succ (x - y) y k
 omega
def DL (w : World) (v : Value) (M x : Nat) : Prop := ∃ N, N ≤ M ∧ Dl w v N x
theorem DL.below {w w' : World} {v : Value} {M x : Nat} (h : DL w v M x) (hb : Below w.heap.size w w') : DL w' v M x := by
 obtain ⟨N, h1, h2⟩ := h
 exact ⟨N, h1, h2.below hb⟩
theorem DL.more {w : World} {v : Value} {M M' x : Nat} (h : DL w v M x) (hm : M ≤ M') : DL w v M' x := by
 obtain ⟨N, h1, h2⟩ := h
 exact ⟨N, by omega, h2⟩
theorem dig_D (x : Int) (w : World) (M : Nat) (hx : (mg x).size ≤ M) (hM : M ≤ 4294967296) : Calls Tryz.prog 155 #[.agg #[.bool (sg x), .string (mg x)]] w fun e w' => ∃ v, e = .returned v ∧ DL w' v M x.natAbs ∧ Below w.heap.size w w' :=
 (rdig_c x w (by omega)).mono fun _ _ ⟨v, h1, h2, h3⟩ => ⟨v, h1, ⟨_, hx, h2⟩, h3⟩
theorem order_D (v1 v2 : Value) (M M2 x y : Nat) (w : World) (h1 : DL w v1 M x) (h2 : DL w v2 M2 y) (hM : M ≤ 8589934592) (hM2 : M2 ≤ 8589934592) : Calls Tryz.prog 156 #[v1, v2] w fun e w' => e = .returned (.int .i64 (cmpN x y)) ∧ w = w' := by
 obtain ⟨n, hn, h1⟩ := h1
 obtain ⟨m, hm, h2⟩ := h2
 exact order_c v1 v2 n m x y w h1 h2 (by omega) (by omega)
theorem number_D (neg : Bool) (v : Value) (M x : Nat) (z : Int) (w : World) (h : DL w v M x) (hM : M ≤ 8589934592) (hz : z = if neg then -(x : Int) else x) : Calls Tryz.prog 154 #[.bool neg, v] w fun e w' => e = .returned (.agg #[.bool (sg z), .string (mg z)]) ∧ Below w.heap.size w w' := by
 obtain ⟨n, hn, h⟩ := h
 subst hz
 exact rnumber_c neg v x n w h (by omega)
theorem add_like (x y : Int) (h : sg x = sg y) : x + y = if sg x then -((x.natAbs + y.natAbs : Nat) : Int) else ((x.natAbs + y.natAbs : Nat) : Int) := by
 by_cases hx : x < 0
 ·have h1 := sg_true x hx
  rw [h1] at h ⊢
  by_cases hy : y < 0
  ·rw [if_pos rfl]; omega
  ·rw [sg_false y (by omega)] at h; cases h
 ·have h1 := sg_false x (by omega)
  rw [h1] at h ⊢
  by_cases hy : y < 0
  ·rw [sg_true y hy] at h; cases h
  ·rw [if_neg (by simp)]; omega
theorem add_unlike (x y : Int) (h : sg x ≠ sg y) (hle : y.natAbs ≤ x.natAbs) : x + y = if sg x then -((x.natAbs - y.natAbs : Nat) : Int) else ((x.natAbs - y.natAbs : Nat) : Int) := by
 by_cases hx : x < 0
 ·have h1 := sg_true x hx
  rw [h1] at h ⊢
  by_cases hy : y < 0
  ·rw [sg_true y hy] at h; exact absurd rfl h
  ·rw [if_pos rfl]; omega
 ·have h1 := sg_false x (by omega)
  rw [h1] at h ⊢
  by_cases hy : y < 0
  ·rw [if_neg (by simp)]; omega
  ·rw [sg_false y (by omega)] at h; exact absurd rfl h
theorem cmpN_neg_iff (x y : Nat) : (cmpN x y < 0) = (x < y) := by
 unfold cmpN; rw [eq_iff_iff]; repeat' split
 all_goals omega
end Go.Proofs.YthdaimoankaciaaGreatDoor
set_option linter.unusedSimpArgs false
set_option linter.unusedVariables false
namespace Go.Proofs.YthdaimoankaciaaGreatDoor
open Go Go.RowKit
open Vi
theorem d8_zero (i : Nat) : d8 0 i = 0 := by unfold d8; simp
def my8 (o d y i k : Nat) : Nat := (o % 256 ^ (i + k) + 256 ^ i * (d * (y % 256 ^ k))) / 256 ^ (i + k)
theorem my8_zero (o d y i : Nat) : my8 o d y i 0 = 0 := by
 unfold my8
 rw [Nat.pow_zero, Nat.mod_one, Nat.mul_zero, Nat.mul_zero, Nat.add_zero, Nat.add_zero]
 exact Nat.div_eq_of_lt (Nat.mod_lt _ (Nat.pow_pos (by omega)))
theorem my8_lt (o d y i k : Nat) (hd : d < 256) : my8 o d y i k < 256 := by
 unfold my8
 have hM : 0 < 256 ^ (i + k) := Nat.pow_pos (by omega)
 rw [Nat.div_lt_iff_lt_mul hM]
 have h1 := Nat.mod_lt o hM
 have h2 := Nat.mod_lt y (Nat.pow_pos (n := k) (show 0 < 256 by omega))
 have h3 : 256 ^ i * (d * (y % 256 ^ k)) ≤ 256 ^ i * (255 * 256 ^ k) :=
  Nat.mul_le_mul_left _ (Nat.mul_le_mul (by omega) (by omega))
 have h4 : 256 ^ i * (255 * 256 ^ k) = 255 * 256 ^ (i + k) := by
  rw [Nat.mul_left_comm, Nat.pow_add]
 omega
theorem my8_step (o d y i k : Nat) : my8 o d y i k + d8 o (i + k) + d * d8 y k = d8 (o + 256 ^ i * (d * y)) (i + k) + 256 * my8 o d y i (k + 1) := by
 have hM : 0 < 256 ^ (i + k) := Nat.pow_pos (by omega)
 have e1 : o % 256 ^ (i + (k + 1)) + 256 ^ i * (d * (y % 256 ^ (k + 1))) = (o % 256 ^ (i + k) + 256 ^ i * (d * (y % 256 ^ k))) + 256 ^ (i + k) * (d8 o (i + k) + d * d8 y k) := by
  rw [← Nat.add_assoc i k 1, mod_succ8 o, mod_succ8 y, Nat.pow_add 256 i k]
  simp only [Nat.mul_add]
  rw [Nat.mul_left_comm d (256 ^ k), Nat.mul_assoc (256 ^ i)  (256 ^ k) (d * d8 y k)]
  omega
 have e2 : (o % 256 ^ (i + (k + 1)) + 256 ^ i * (d * (y % 256 ^ (k + 1)))) / 256 ^ (i + k) = my8 o d y i k + (d8 o (i + k) + d * d8 y k) := by
  rw [e1, Nat.add_mul_div_left _ _ hM]; rfl
 have e3 : my8 o d y i (k + 1) = (my8 o d y i k + (d8 o (i + k) + d * d8 y k)) / 256 := by
  rw [← e2, Nat.div_div_eq_div_mul, ← Nat.pow_succ]; rfl
 have e4 : d8 (o + 256 ^ i * (d * y)) (i + k) = (my8 o d y i k + (d8 o (i + k) + d * d8 y k)) % 256 := by
  rw [← e2]
  unfold d8
  rw [← Nat.mod_mul_right_div_self, ← Nat.mod_mul_right_div_self (_ + _ : Nat), ← Nat.pow_succ]
  congr 1
  show _ = (o % 256 ^ (i + k + 1) + 256 ^ i * (d * (y % 256 ^ (k + 1)))) % 256 ^ (i + k + 1)
  have e5 : 256 ^ i * (d * y) = 256 ^ i * (d * (y % 256 ^ (k + 1))) + 256 ^ (i + k + 1) * (d * (y / 256 ^ (k + 1))) := by
   rw [Nat.add_assoc, Nat.pow_add 256 i (k + 1), Nat.mul_assoc, ← Nat.mul_add]
   congr 1
   rw [Nat.mul_left_comm, ← Nat.mul_add, Nat.mod_add_div]
  rw [e5, ← Nat.add_assoc, Nat.add_mul_mod_self_left, Nat.mod_add_mod]
 rw [e3, e4, Nat.mod_add_div]; omega
theorem d8_add_low (o i z p : Nat) (h : p < i) : d8 (o + 256 ^ i * z) p = d8 o p := by
 unfold d8
 rw [← Nat.mod_mul_right_div_self, ← Nat.mod_mul_right_div_self, ← Nat.pow_succ]
 congr 1
 obtain ⟨m, rfl⟩ : ∃ m, i = (p + 1) + m := ⟨i - (p + 1), by omega⟩
 rw [Nat.pow_add, Nat.mul_assoc, Nat.add_mul_mod_self_left]
def mulFn8 (o t i k : Nat) : Nat → Nat := fun p => if p < i + k then d8 t p else d8 o p
theorem mulFn8_zero (o z i n : Nat) : arr .i64 (d8 o) n = arr .i64 (mulFn8 o (o + 256 ^ i * z) i 0) n := by
 apply arr_congr; intro p _; unfold mulFn8
 split
 ·rw [d8_add_low _ _ _ _ (by omega)]
 ·rfl
theorem mulFn8_at (o t i k : Nat) : mulFn8 o t i k (i + k) = d8 o (i + k) := by unfold mulFn8; rw [if_neg (by omega)]
theorem mulFn8_succ (o t i k : Nat) : upd (mulFn8 o t i k) (i + k) (d8 t (i + k)) = mulFn8 o t i (k + 1) := by
 funext p
 unfold upd mulFn8
 by_cases h : p = i + k
 ·subst h; rw [if_pos rfl, if_pos (by omega)]
 ·rw [if_neg h]
  by_cases h2 : p < i + k
  ·rw [if_pos h2, if_pos (by omega)]
  ·rw [if_neg h2, if_neg (by omega)]
theorem row_lt8 (o d y i n : Nat) (ho : o < 256 ^ (i + n)) (hy : y < 256 ^ n) (hd : d < 256) : o + 256 ^ i * (d * y) < 256 ^ (i + n + 1) := by
 have h3 : 256 ^ i * (d * y) ≤ 256 ^ i * (255 * 256 ^ n) :=
  Nat.mul_le_mul_left _ (Nat.mul_le_mul (by omega) (by omega))
 have h4 : 256 ^ i * (255 * 256 ^ n) = 255 * 256 ^ (i + n) := by
  rw [Nat.mul_left_comm, Nat.pow_add]
 rw [Nat.pow_succ]
 omega
theorem my8_last (o d y i n : Nat) (ho : o < 256 ^ (i + n)) (hy : y < 256 ^ n) (hd : d < 256) : my8 o d y i n = d8 (o + 256 ^ i * (d * y)) (i + n) := by
 have h := row_lt8 o d y i n ho hy hd
 unfold my8 d8
 rw [Nat.mod_eq_of_lt ho, Nat.mod_eq_of_lt hy]
 symm
 apply Nat.mod_eq_of_lt
 rw [Nat.div_lt_iff_lt_mul (Nat.pow_pos (by omega)), show 256 * 256 ^ (i + n) = 256 ^ (i + n + 1) by rw [Nat.pow_succ, Nat.mul_comm]]
 exact h
theorem mulFn8_all (o d y i n m : Nat) (ho : o < 256 ^ (i + n)) (hy : y < 256 ^ n) (hd : d < 256) :
    arr .i64 (upd (mulFn8 o (o + 256 ^ i * (d * y)) i n) (i + n) (my8 o d y i n)) m = arr .i64 (d8 (o + 256 ^ i * (d * y))) m := by
 have h := row_lt8 o d y i n ho hy hd
 apply arr_congr
 intro p _
 unfold upd mulFn8
 by_cases h1 : p = i + n
 ·subst h1; rw [if_pos rfl, my8_last o d y i n ho hy hd]
 ·rw [if_neg h1]
  by_cases h2 : p < i + n
  ·rw [if_pos h2]
  ·rw [if_neg h2, d8_big o (i + n) p ho (by omega), d8_big _ (i + n + 1) p h (by omega)]
theorem part_mul8 (x y i : Nat) : x % 256 ^ i * y + 256 ^ i * (d8 x i * y) = x % 256 ^ (i + 1) * y := by
 rw [mod_succ8, Nat.add_mul, Nat.mul_assoc]
theorem zero_row8 (n x y : Nat) : arr .i64 (fun _ => 0) n = arr .i64 (d8 (x % 256 ^ 0 * y)) n := by
 apply arr_congr; intro i _; rw [Nat.pow_zero, Nat.mod_one, Nat.zero_mul, d8_zero]
theorem prod_lt8 (x y nx ny : Nat) (hx : x < 256 ^ nx) (hy : y < 256 ^ ny) : x * y < 256 ^ (nx + ny + 1) := by
 have h1 : x * y ≤ 256 ^ nx * 256 ^ ny := Nat.mul_le_mul (by omega) (by omega)
 rw [← Nat.pow_add] at h1
 have h2 : 0 < 256 ^ (nx + ny) := Nat.pow_pos (by omega)
 rw [Nat.pow_succ]; omega
theorem part_lt8 (x y i n : Nat) (hy : y < 256 ^ n) : x % 256 ^ i * y < 256 ^ (i + n) := by
 rw [Nat.pow_add]
 have h1 := Nat.mod_lt x (Nat.pow_pos (n := i) (show 0 < 256 by omega))
 calc x % 256 ^ i * y ≤ x % 256 ^ i * 256 ^ n := Nat.mul_le_mul_left _ (by omega)
  _ < 256 ^ i * 256 ^ n := Nat.mul_lt_mul_of_pos_right h1 (Nat.pow_pos (by omega))
theorem makeInt (n : Nat) (w : World) (h : n ≤ 8589934592) : (Instr.makeSlice 102 (.int .i64 (n : Int)) (.int .i64 (n : Int))).run Tryz.prog w = .ok (.slice (some ⟨w.heap.size, 0, none⟩) n n) (w.alloc (.cells (arr .i64 (fun _ => 0) n) 3)) := by
 obtain ⟨i0, hi, hz0, hz1, hz2⟩ := info_parts info3
 have hr := run_make (P := Tryz.prog) w 102 3 i0 (.int .i64 0) (by kernel_rfl) hi hz0 .i64 .i64 n n (by omega) (Int.le_refl _) (by rw [hz2]; omega) (by omega)
 rw [hr, hz1]
 simp only [Int.toNat_natCast, Nat.mul_one, Value.cells]
 rw [madeCells_arr]
theorem makeIntT (n m : Nat) (w : World) (h : n + m ≤ 8589934591) : (Instr.makeSlice 102 (.int .i64 ((n : Int) + (m : Int) + 1)) (.int .i64 ((n : Int) + (m : Int) + 1))).run Tryz.prog w = .ok (.slice (some ⟨w.heap.size, 0, none⟩) (n + m + 1) (n + m + 1)) (w.alloc (.cells (arr .i64 (fun _ => 0) (n + m + 1)) 3)) :=
 makeInt (n + m + 1) w (by omega)
theorem mulFn8_end (o d y i n m : Nat) (ho : o < 256 ^ (i + n)) (hy : y < 256 ^ n) (hd : d < 256) :
    arr .i64 (mulFn8 o (o + 256 ^ i * (d * y)) i (n + 1)) m = arr .i64 (d8 (o + 256 ^ i * (d * y))) m := by
 have h := row_lt8 o d y i n ho hy hd
 apply arr_congr
 intro p _
 unfold mulFn8
 by_cases h2 : p < i + (n + 1)
 ·rw [if_pos h2]
 ·rw [if_neg h2, d8_big o (i + n) p ho (by omega), d8_big _ (i + n + 1) p h (by omega)]
theorem Dl.of_arr (g N c z : Nat) (w : World) (h : ∀ i, i < N → w.cell? ⟨g, i, none⟩ = some (.int .i64 (d8 z i : Nat))) (hg : g < w.heap.size) (hz : z < 256 ^ N) (hc : N ≤ c) (hm : c ≤ maxLen) : Dl w (.slice (some ⟨g, 0, none⟩) N c) N z :=
 ⟨hz, .inr ⟨g, c, rfl, hc, hm, hg, h⟩⟩
set_option maxRecDepth 100000 in
set_option maxHeartbeats 1600000 in
theorem rproduct_c (v1 v2 : Value) (n m x y : Nat) (w : World) (h1 : Dl w v1 n x) (h2 : Dl w v2 m y) (hn : n ≤ 4294967296) (hm : m ≤ 4294967290) : Calls Tryz.prog 157 #[v1, v2] w fun e w' => ∃ v, e = .returned v ∧ Dl w' v (n + m + 1) (x * y) ∧ Below w.heap.size w w' := by
 obtain ⟨a1, c1, e1⟩ := h1.lenForm
 obtain ⟨a2, c2, e2⟩ := h2.lenForm
 subst e1
 subst e2
 have A1 : Hid (∀ (i : Nat), i < n → ∃ g, a1 = some ⟨g, 0, none⟩ ∧ n ≤ c1 ∧ g < w.heap.size ∧ w.cell? ⟨g, i, none⟩ = some (.int .i64 (d8 x i : Nat))) := Lib.hid fun i hlt => by
  rcases h1.2 with ⟨e, rfl⟩ | ⟨g, c, e, hc, _, hg, hcell⟩
  ·exact absurd hlt (by omega)
  ·cases e
   exact ⟨g, rfl, hc, hg, hcell i hlt⟩
 have A2 : Hid (∀ (i : Nat) (o : Obj) (u : World), Calls Tryz.prog 186 #[.slice a2 m c2, .int .i64 (i : Int)] ((w.alloc o).plus u) fun e w' => e = .returned (.int .i64 (d8 y i : Nat)) ∧ (w.alloc o).plus u = w') := Lib.hid fun i o u => at_c _ m y i _ (h2.below (((Below.refl _ _).alloc (Nat.le_refl _) o).trans ((World.below_plus _ _).mono (by simp))))
 have HXL := Lib.hid h1.1
 have HYL := Lib.hid h2.1
 have HT := Lib.hid (prod_lt8 x y n m h1.1 h2.1)
 have HMK := Lib.hid (makeIntT n m · (by omega))
 clear h1 h2
 go_enter Tryz.func157, Tryz.ntmps157
 go_wp2_with fail
 have hmk := HMK.out
 simp only [hmk]
 clear hmk
 go_wp2_with fail
 have H0 := Lib.hid (zero_row8 (n + m + 1) x y)
 go_loopw [6] (fun v wr => ∃ (i : Nat) (u : World), i ≤ n ∧ v = .int .i64 i ∧ wr = (w.alloc (.cells (arr .i64 (d8 (x % 256 ^ i * y)) (n + m + 1)) 3)).plus u) (fun v _ => n - (intOf v).toNat)
 case atStart =>
  obtain ⟨u, hu⟩ := World.plus_of_below (Below.refl (w.alloc (.cells (arr .i64 (fun _ => 0) (n + m + 1)) 3)).heap.size (w.alloc (.cells (arr .i64 (fun _ => 0) (n + m + 1)) 3)))
  exact ⟨0, u, Nat.zero_le _, rfl, by rw [← H0.out]; exact hu⟩
 case round =>
  obtain ⟨i, u0, hi, rfl, rfl⟩ := hrel
  by_cases hlt : i < n
  ·obtain ⟨g, rfl, hcap, hg, hgx⟩ := A1.out i hlt
   have hdx1 := d8_lt x i
   have hli : (i : Int) < (n : Int) := by omega
   obtain ⟨o, ho⟩ : ∃ o, o = x % 256 ^ i * y := ⟨_, rfl⟩
   have hol := part_lt8 x y i m HYL.out
   rw [← ho] at hol ⊢
   have HOL := Lib.hid hol
   have HO := Lib.hid ho
   clear ho hol
   obtain ⟨d, hd⟩ : ∃ d, d = d8 x i := ⟨_, rfl⟩
   rw [← hd] at hdx1 hgx
   have HD := Lib.hid hd
   clear hd
   obtain ⟨t, ht⟩ : ∃ t, t = o + 256 ^ i * (d * y) := ⟨_, rfl⟩
   have HTT := Lib.hid ht
   have HZ := Lib.hid (mulFn8_zero o (d * y) i (n + m + 1))
   rw [← ht] at HZ
   clear ht
   have HM0 := Lib.hid (my8_zero o d y i)
   go_wp2_with fail
   go_loopw [7, 8] (fun c v wr => ∃ (k : Nat) (u : World), k ≤ m + 1 ∧ v = .int .i64 k ∧ c = .int .i64 (my8 o d y i k : Int) ∧ wr = (w.alloc (.cells (arr .i64 (mulFn8 o t i k) (n + m + 1)) 3)).plus u) (fun _ v _ => m + 1 - (intOf v).toNat)
   case atStart => exact ⟨0, u0, Nat.zero_le _, rfl, by rw [HM0.out]; rfl, by rw [HZ.out]⟩
   case round =>
    obtain ⟨k, u1, hk, rfl, rfl, rfl⟩ := hrel
    by_cases hlt2 : k ≤ m
    ·have hgo := arr_get .i64 (mulFn8 o t i k) (n + m + 1) (i + k) (by omega)
     rw [mulFn8_at] at hgo
     have hst := my8_step o d y i k
     rw [← HTT.out] at hst
     have hc1 := my8_lt o d y i k hdx1
     have ho1 := d8_lt o (i + k)
     have hy1 := d8_lt y k
     have ht1 := d8_lt t (i + k)
     obtain ⟨yk, hyk⟩ : ∃ z, z = d8 y k := ⟨_, rfl⟩
     have hp1 : d * d8 y k ≤ 255 * 255 := Nat.mul_le_mul (by omega) (by omega)
     obtain ⟨P, hP⟩ : ∃ P, P = d * d8 y k := ⟨_, rfl⟩
     rw [← hP] at hst hp1
     have HB2 := Lib.hid (A2.out k (.cells (arr .i64 (mulFn8 o t i k) (n + m + 1)) 3))
     rw [← hyk] at hP hy1 HB2
     have e1 : IntKind.i64.wrap ((d : Int) * (yk : Int)) = (P : Int) := by
      rw [← Int.natCast_mul, ← hP]; exact IntWalk.i64_in _ (by omega)
     clear hP hyk
     obtain ⟨ok, hok⟩ : ∃ z, z = d8 o (i + k) := ⟨_, rfl⟩
     rw [← hok] at hgo hst ho1
     obtain ⟨ck, hck⟩ : ∃ z, z = my8 o d y i k := ⟨_, rfl⟩
     rw [← hck] at hst hc1 ⊢
     obtain ⟨R, hR⟩ : ∃ R, R = ok + P + ck := ⟨_, rfl⟩
     have hRl : R < 9223372036854775807 := by omega
     have e3 : (ok : Int) + (P : Int) + (ck : Int) = (R : Int) := by omega
     have hR1 : (R : Int).tmod 256 = (d8 t (i + k) : Int) := by rw [Int.tmod_eq_emod_of_nonneg (by omega)]; omega
     have hR2 : (R : Int).tdiv 256 = (my8 o d y i (k + 1) : Int) := by rw [Int.tdiv_eq_ediv_of_nonneg (by omega)]; omega
     have hR3 : IntKind.i64.wrap (my8 o d y i (k + 1) : Int) = (my8 o d y i (k + 1) : Int) := IntWalk.i64_in _ (by omega)
     have hR4 : wrap64 (my8 o d y i (k + 1) : Int) = (my8 o d y i (k + 1) : Int) := by unfold wrap64; omega
     have HS3 := Lib.hid (mulFn8_succ o t i k)
     have e4 : IntKind.i64.wrap ((i : Int) + (k : Int)) = (i : Int) + (k : Int) := IntWalk.i64_in _ (by omega)
     have e5 : (0 : Int) ≤ (i : Int) + (k : Int) := by omega
     have e6 : ((i : Int) + (k : Int)).toNat = i + k := by omega
     have e7 : (i : Int) + (k : Int) < (n : Int) + (m : Int) + 1 := by omega
     have hkm : (k : Int) ≤ (m : Int) := by omega
     clear hst hR ht1 hp1 hck hok
     go_wp2_with fail
     ((first | (with_reducible refine wp_region_steady_plus (by kernel_rfl) (by kernel_rfl) ?_) | refine wp_region_steady (by kernel_rfl) (by kernel_rfl) ?_); repeat go_big_quiet_step (first | (go_at_call 186; refine Calls.same_steady (HB2.out _)))); (refine wpQuiet_nil ?_; rintro _ ⟨u, rfl⟩)
     go_wp2_with fail
     go_roundw
     case rel => exact ⟨k + 1, u, by omega, by go_num, rfl, by first | rw [arr_set, HS3.out] | simp only [arr_set, HS3.out]⟩
     case measure => first | (simp [intOf]; done) | (simp [intOf]; omega)
    ·have e : k = m + 1 := by omega
     subst e
     have HF := Lib.hid (mulFn8_end o d y i m (n + m + 1) HOL.out HYL.out hdx1)
     have HN := Lib.hid (part_mul8 x y i)
     go_wp2_with fail
     go_roundw
     case rel => exact ⟨i + 1, u1, by omega, by go_num, by rw [HTT.out, HF.out, HO.out, HD.out, HN.out]⟩
     case measure => first | (simp [intOf]; done) | (simp [intOf]; omega)
  ·have e : i = n := by omega
   subst e
   have HA := Lib.hid (Nat.mod_eq_of_lt HXL.out)
   go_wp2_with fail
   rw [HA.out]
   go_ret
   refine ⟨_, rfl, Dl.of_arr _ _ _ _ _ (fun j hj => ?_) ?_ HT.out (Nat.le_refl _) (by unfold maxLen; omega), by (repeat' (first | (with_reducible first | exact Below.refl _ _ | assumption | refine Below.plus0 ?_ _ | refine Below.alloc0 ?_ _ | refine Below.plus ?_ ?_ _ | refine Below.alloc ?_ ?_ _ | refine Below.drew ?_ | refine Below.drewN ?_ _) | (simp [go_sem]; done) | (simp [go_sem]; omega)))⟩
   ·simp [go_sem, arr_get _ _ _ _ hj]
   ·simp [go_sem]
theorem product_D (v1 v2 : Value) (M x y : Nat) (w : World) (h1 : DL w v1 M x) (h2 : DL w v2 M y) (hM : M ≤ 4294967290) : Calls Tryz.prog 157 #[v1, v2] w fun e w' => ∃ v, e = .returned v ∧ DL w' v (M + M + 1) (x * y) ∧ Below w.heap.size w w' := by
 obtain ⟨n, hn, h1⟩ := h1
 obtain ⟨m, hm, h2⟩ := h2
 exact (rproduct_c v1 v2 n m x y w h1 h2 (by omega) (by omega)).mono fun _ _ ⟨v, h1, h3, h4⟩ => ⟨v, h1, ⟨_, by omega, h3⟩, h4⟩
theorem mul_signed (x y : Int) : x * y = if (sg x != sg y) then -((x.natAbs * y.natAbs : Nat) : Int) else ((x.natAbs * y.natAbs : Nat) : Int) := by
 rcases Int.natAbs_eq x with hx | hx <;> rcases Int.natAbs_eq y with hy | hy <;> by_cases h1 : x < 0 <;> by_cases h2 : y < 0
 all_goals
  first | rw [sg_true x h1] | rw [sg_false x (by omega)]
  first | rw [sg_true y h2] | rw [sg_false y (by omega)]
  simp only [bne_self_eq_false, Bool.true_bne, Bool.bne_true, Bool.not_true, Bool.not_false, if_true, if_false, Bool.false_bne, Bool.bne_false, Bool.false_eq_true]
 all_goals
  generalize x.natAbs = m at *
  generalize y.natAbs = n at *
  subst hx
  subst hy
  simp only [Int.natCast_mul, Int.neg_mul, Int.mul_neg, Int.neg_neg]
  first | done | skip
 all_goals
  first
   | done
   | (have e : m = 0 := by omega
      subst e; simp)
   | (have e : n = 0 := by omega
      subst e; simp)
set_option maxRecDepth 100000 in
set_option maxHeartbeats 800000 in
theorem rMul_c (x y z : Int) (hz : z = x * y) (w : World) (hx : (mg x).size ≤ 4294967290) (hy : (mg y).size ≤ 4294967290) : Calls Tryz.prog 114 #[.agg #[.bool (sg x), .string (mg x)], .agg #[.bool (sg y), .string (mg y)]] w fun e w' => e = .returned (.agg #[.bool (sg z), .string (mg z)]) ∧ Below w.heap.size w w' := by
 have h3 := Lib.hid (fun w => dig_D x w 4294967290 hx (by omega))
 have h4 := Lib.hid (fun w => dig_D y w 4294967290 hy (by omega))
 have HZ := Lib.hid (hz.trans (mul_signed x y))
 obtain ⟨b, hb⟩ : ∃ b, b = (sg x != sg y) := ⟨_, rfl⟩
 rw [← hb] at HZ
 have HB : (sg x == sg y) = !b := by rw [hb]; simp [bne]
 clear hz hb
 go_enter Tryz.func114, Tryz.ntmps114
 go_wp2_with fail
 refine wp_region_facts_t 11 (fun i v w9 => match i with
  | 0 => v = .pointer (some ⟨w.heap.size, 0, none⟩)
  | 1 => v = .bool (sg x)
  | 2 => v = .pointer (some ⟨w.heap.size + 1, 0, none⟩)
  | 3 => v = .bool (sg y)
  | 4 => v = .bool b
  | 5 => v = .agg #[.bool (sg x), .string (mg x)]
  | 6 => DL w9 v 4294967290 x.natAbs
  | 7 => v = .agg #[.bool (sg y), .string (mg y)]
  | 8 => DL w9 v 4294967290 y.natAbs
  | 9 => DL w9 v 8589934581 (x.natAbs * y.natAbs)
  | 10 => v = .agg #[.bool (sg z), .string (mg z)]
  | _ => True) (by kernel_rfl) (by kernel_rfl) ?_ ?_ ?_
 ·intro i v w1 w2 hb h
  match i, h with
  | 0, h => exact h
  | 1, h => exact h
  | 2, h => exact h
  | 3, h => exact h
  | 4, h => exact h
  | 5, h => exact h
  | 6, h => exact DL.below h hb
  | 7, h => exact h
  | 8, h => exact DL.below h hb
  | 9, h => exact DL.below h hb
  | 10, h => exact h
  | k + 11, h => exact trivial
 ·simp only [List.take_succ_cons, List.take_zero];
  refine KindSteps.cons ?_ ?_
  ·intro xs w9 hw hd
   (first | (with_reducible have hw2 := World.plus_of_below ((World.below_plus _ _).trans (hw.mono (World.size_plus _ _))); obtain ⟨u, rfl⟩ := hw2) | (obtain ⟨u, rfl⟩ := World.plus_of_below hw))
   simp only [fill, Act.put, List.take_succ_cons, List.take_zero, List.drop_succ_cons, List.drop_zero, Nat.reduceAdd, Nat.zero_add, List.setIfInBounds_toArray, List.set_cons_succ, List.set_cons_zero, if_true, if_false, Nat.reduceEqDiff, reduceIte]
   go_wp2_with fail
   all_goals (first | exact Below.refl _ _ | ((first | refine ⟨?_, _, rfl, rfl⟩ | refine ⟨rfl, ?_, _, rfl, rfl⟩ | refine ⟨?_, rfl⟩); (repeat' (first | (with_reducible first | exact Below.refl _ _ | assumption | refine Below.plus0 ?_ _ | refine Below.alloc0 ?_ _ | refine Below.plus ?_ ?_ _ | refine Below.alloc ?_ ?_ _ | refine Below.drew ?_ | refine Below.drewN ?_ _) | (simp [go_sem]; done) | (simp [go_sem]; omega)))) | exact Fresh.old rfl | exact Fresh.new _ _ _)
  refine KindSteps.cons ?_ ?_
  ·intro xs w9 hw hd
   (first | (with_reducible have hw2 := World.plus_of_below ((World.below_plus _ _).trans (hw.mono (World.size_plus _ _))); obtain ⟨u, rfl⟩ := hw2) | (obtain ⟨u, rfl⟩ := World.plus_of_below hw))
   simp only [fill, Act.put, List.take_succ_cons, List.take_zero, List.drop_succ_cons, List.drop_zero, Nat.reduceAdd, Nat.zero_add, List.setIfInBounds_toArray, List.set_cons_succ, List.set_cons_zero, if_true, if_false, Nat.reduceEqDiff, reduceIte]
   have f0 : (xs 0) = .pointer (some ⟨w.heap.size, 0, none⟩) := hd 0 (by kernel_rfl); simp only [f0]
   go_wp2_with fail
   all_goals (first | exact Below.refl _ _ | ((first | refine ⟨?_, _, rfl, rfl⟩ | refine ⟨rfl, ?_, _, rfl, rfl⟩ | refine ⟨?_, rfl⟩); (repeat' (first | (with_reducible first | exact Below.refl _ _ | assumption | refine Below.plus0 ?_ _ | refine Below.alloc0 ?_ _ | refine Below.plus ?_ ?_ _ | refine Below.alloc ?_ ?_ _ | refine Below.drew ?_ | refine Below.drewN ?_ _) | (simp [go_sem]; done) | (simp [go_sem]; omega)))) | exact Fresh.old rfl | exact Fresh.new _ _ _)
  refine KindSteps.cons ?_ ?_
  ·intro xs w9 hw hd
   (first | (with_reducible have hw2 := World.plus_of_below ((World.below_plus _ _).trans (hw.mono (World.size_plus _ _))); obtain ⟨u, rfl⟩ := hw2) | (obtain ⟨u, rfl⟩ := World.plus_of_below hw))
   simp only [fill, Act.put, List.take_succ_cons, List.take_zero, List.drop_succ_cons, List.drop_zero, Nat.reduceAdd, Nat.zero_add, List.setIfInBounds_toArray, List.set_cons_succ, List.set_cons_zero, if_true, if_false, Nat.reduceEqDiff, reduceIte]
   go_wp2_with fail
   all_goals (first | exact Below.refl _ _ | ((first | refine ⟨?_, _, rfl, rfl⟩ | refine ⟨rfl, ?_, _, rfl, rfl⟩ | refine ⟨?_, rfl⟩); (repeat' (first | (with_reducible first | exact Below.refl _ _ | assumption | refine Below.plus0 ?_ _ | refine Below.alloc0 ?_ _ | refine Below.plus ?_ ?_ _ | refine Below.alloc ?_ ?_ _ | refine Below.drew ?_ | refine Below.drewN ?_ _) | (simp [go_sem]; done) | (simp [go_sem]; omega)))) | exact Fresh.old rfl | exact Fresh.new _ _ _)
  refine KindSteps.cons ?_ ?_
  ·intro xs w9 hw hd
   (first | (with_reducible have hw2 := World.plus_of_below ((World.below_plus _ _).trans (hw.mono (World.size_plus _ _))); obtain ⟨u, rfl⟩ := hw2) | (obtain ⟨u, rfl⟩ := World.plus_of_below hw))
   simp only [fill, Act.put, List.take_succ_cons, List.take_zero, List.drop_succ_cons, List.drop_zero, Nat.reduceAdd, Nat.zero_add, List.setIfInBounds_toArray, List.set_cons_succ, List.set_cons_zero, if_true, if_false, Nat.reduceEqDiff, reduceIte]
   have f2 : (xs 2) = .pointer (some ⟨w.heap.size + 1, 0, none⟩) := hd 2 (by kernel_rfl); simp only [f2]
   go_wp2_with fail
   all_goals (first | exact Below.refl _ _ | ((first | refine ⟨?_, _, rfl, rfl⟩ | refine ⟨rfl, ?_, _, rfl, rfl⟩ | refine ⟨?_, rfl⟩); (repeat' (first | (with_reducible first | exact Below.refl _ _ | assumption | refine Below.plus0 ?_ _ | refine Below.alloc0 ?_ _ | refine Below.plus ?_ ?_ _ | refine Below.alloc ?_ ?_ _ | refine Below.drew ?_ | refine Below.drewN ?_ _) | (simp [go_sem]; done) | (simp [go_sem]; omega)))) | exact Fresh.old rfl | exact Fresh.new _ _ _)
  refine KindSteps.cons ?_ ?_
  ·intro xs w9 hw hd
   (first | (with_reducible have hw2 := World.plus_of_below ((World.below_plus _ _).trans (hw.mono (World.size_plus _ _))); obtain ⟨u, rfl⟩ := hw2) | (obtain ⟨u, rfl⟩ := World.plus_of_below hw))
   simp only [fill, Act.put, List.take_succ_cons, List.take_zero, List.drop_succ_cons, List.drop_zero, Nat.reduceAdd, Nat.zero_add, List.setIfInBounds_toArray, List.set_cons_succ, List.set_cons_zero, if_true, if_false, Nat.reduceEqDiff, reduceIte]
   have f1 : (xs 1) = .bool (sg x) := hd 1 (by kernel_rfl); simp only [f1]
   have f3 : (xs 3) = .bool (sg y) := hd 3 (by kernel_rfl); simp only [f3]
   go_wp2_with fail
   all_goals (first | exact Below.refl _ _ | ((first | refine ⟨?_, _, rfl, rfl⟩ | refine ⟨rfl, ?_, _, rfl, rfl⟩ | refine ⟨?_, rfl⟩); (repeat' (first | (with_reducible first | exact Below.refl _ _ | assumption | refine Below.plus0 ?_ _ | refine Below.alloc0 ?_ _ | refine Below.plus ?_ ?_ _ | refine Below.alloc ?_ ?_ _ | refine Below.drew ?_ | refine Below.drewN ?_ _) | (simp [go_sem]; done) | (simp [go_sem]; omega)))) | exact Fresh.old rfl | exact Fresh.new _ _ _)
  refine KindSteps.cons ?_ ?_
  ·intro xs w9 hw hd
   (first | (with_reducible have hw2 := World.plus_of_below ((World.below_plus _ _).trans (hw.mono (World.size_plus _ _))); obtain ⟨u, rfl⟩ := hw2) | (obtain ⟨u, rfl⟩ := World.plus_of_below hw))
   simp only [fill, Act.put, List.take_succ_cons, List.take_zero, List.drop_succ_cons, List.drop_zero, Nat.reduceAdd, Nat.zero_add, List.setIfInBounds_toArray, List.set_cons_succ, List.set_cons_zero, if_true, if_false, Nat.reduceEqDiff, reduceIte]
   go_wp2_with fail
   all_goals (first | exact Below.refl _ _ | ((first | refine ⟨?_, _, rfl, rfl⟩ | refine ⟨rfl, ?_, _, rfl, rfl⟩ | refine ⟨?_, rfl⟩); (repeat' (first | (with_reducible first | exact Below.refl _ _ | assumption | refine Below.plus0 ?_ _ | refine Below.alloc0 ?_ _ | refine Below.plus ?_ ?_ _ | refine Below.alloc ?_ ?_ _ | refine Below.drew ?_ | refine Below.drewN ?_ _) | (simp [go_sem]; done) | (simp [go_sem]; omega)))) | exact Fresh.old rfl | exact Fresh.new _ _ _)
  refine KindSteps.cons ?_ ?_
  ·intro xs w9 hw hd
   (first | (with_reducible have hw2 := World.plus_of_below ((World.below_plus _ _).trans (hw.mono (World.size_plus _ _))); obtain ⟨u, rfl⟩ := hw2) | (obtain ⟨u, rfl⟩ := World.plus_of_below hw))
   simp only [fill, Act.put, List.take_succ_cons, List.take_zero, List.drop_succ_cons, List.drop_zero, Nat.reduceAdd, Nat.zero_add, List.setIfInBounds_toArray, List.set_cons_succ, List.set_cons_zero, if_true, if_false, Nat.reduceEqDiff, reduceIte]
   have f5 : (xs 5) = .agg #[.bool (sg x), .string (mg x)] := hd 5 (by kernel_rfl); simp only [f5]
   go_wp2_with (go_at_call 155; refine (h3.out _).mono ?_; rintro e w8 ⟨v, rfl, hdl, hb⟩)
   all_goals (first | exact Below.refl _ _ | exact hb | exact hdl | exact ⟨hb, hdl⟩ | exact ⟨hb, _, rfl, hdl⟩ | exact ⟨rfl, hb, _, rfl, hdl⟩)
  refine KindSteps.cons ?_ ?_
  ·intro xs w9 hw hd
   (first | (with_reducible have hw2 := World.plus_of_below ((World.below_plus _ _).trans (hw.mono (World.size_plus _ _))); obtain ⟨u, rfl⟩ := hw2) | (obtain ⟨u, rfl⟩ := World.plus_of_below hw))
   simp only [fill, Act.put, List.take_succ_cons, List.take_zero, List.drop_succ_cons, List.drop_zero, Nat.reduceAdd, Nat.zero_add, List.setIfInBounds_toArray, List.set_cons_succ, List.set_cons_zero, if_true, if_false, Nat.reduceEqDiff, reduceIte]
   go_wp2_with fail
   all_goals (first | exact Below.refl _ _ | ((first | refine ⟨?_, _, rfl, rfl⟩ | refine ⟨rfl, ?_, _, rfl, rfl⟩ | refine ⟨?_, rfl⟩); (repeat' (first | (with_reducible first | exact Below.refl _ _ | assumption | refine Below.plus0 ?_ _ | refine Below.alloc0 ?_ _ | refine Below.plus ?_ ?_ _ | refine Below.alloc ?_ ?_ _ | refine Below.drew ?_ | refine Below.drewN ?_ _) | (simp [go_sem]; done) | (simp [go_sem]; omega)))) | exact Fresh.old rfl | exact Fresh.new _ _ _)
  refine KindSteps.cons ?_ ?_
  ·intro xs w9 hw hd
   (first | (with_reducible have hw2 := World.plus_of_below ((World.below_plus _ _).trans (hw.mono (World.size_plus _ _))); obtain ⟨u, rfl⟩ := hw2) | (obtain ⟨u, rfl⟩ := World.plus_of_below hw))
   simp only [fill, Act.put, List.take_succ_cons, List.take_zero, List.drop_succ_cons, List.drop_zero, Nat.reduceAdd, Nat.zero_add, List.setIfInBounds_toArray, List.set_cons_succ, List.set_cons_zero, if_true, if_false, Nat.reduceEqDiff, reduceIte]
   have f7 : (xs 7) = .agg #[.bool (sg y), .string (mg y)] := hd 7 (by kernel_rfl); simp only [f7]
   go_wp2_with (go_at_call 155; refine (h4.out _).mono ?_; rintro e w8 ⟨v, rfl, hdl, hb⟩)
   all_goals (first | exact Below.refl _ _ | exact hb | exact hdl | exact ⟨hb, hdl⟩ | exact ⟨hb, _, rfl, hdl⟩ | exact ⟨rfl, hb, _, rfl, hdl⟩)
  refine KindSteps.cons ?_ ?_
  ·intro xs w9 hw hd
   (first | (with_reducible have hw2 := World.plus_of_below ((World.below_plus _ _).trans (hw.mono (World.size_plus _ _))); obtain ⟨u, rfl⟩ := hw2) | (obtain ⟨u, rfl⟩ := World.plus_of_below hw))
   simp only [fill, Act.put, List.take_succ_cons, List.take_zero, List.drop_succ_cons, List.drop_zero, Nat.reduceAdd, Nat.zero_add, List.setIfInBounds_toArray, List.set_cons_succ, List.set_cons_zero, if_true, if_false, Nat.reduceEqDiff, reduceIte]
   have f6 : DL _ (xs 6) 4294967290 x.natAbs := hd 6 (by kernel_rfl)
   have f8 : DL _ (xs 8) 4294967290 y.natAbs := hd 8 (by kernel_rfl)
   go_wp2_with (go_at_call 157; refine (product_D _ _ _ _ _ _ f6 f8 (by omega)).mono ?_; rintro e w8 ⟨v, rfl, hdl, hb⟩)
   all_goals (first | exact Below.refl _ _ | exact hb | exact hdl | exact ⟨hb, hdl⟩ | exact ⟨hb, _, rfl, hdl⟩ | exact ⟨rfl, hb, _, rfl, hdl⟩)
  refine KindSteps.cons ?_ ?_
  ·intro xs w9 hw hd
   (first | (with_reducible have hw2 := World.plus_of_below ((World.below_plus _ _).trans (hw.mono (World.size_plus _ _))); obtain ⟨u, rfl⟩ := hw2) | (obtain ⟨u, rfl⟩ := World.plus_of_below hw))
   simp only [fill, Act.put, List.take_succ_cons, List.take_zero, List.drop_succ_cons, List.drop_zero, Nat.reduceAdd, Nat.zero_add, List.setIfInBounds_toArray, List.set_cons_succ, List.set_cons_zero, if_true, if_false, Nat.reduceEqDiff, reduceIte]
   have f4 : (xs 4) = .bool b := hd 4 (by kernel_rfl); simp only [f4]
   have f9 : DL _ (xs 9) 8589934581 (x.natAbs * y.natAbs) := hd 9 (by kernel_rfl)
   go_wp2_with (go_at_call 154; refine (number_D _ _ _ _ _ _ f9 (by omega) HZ.out).mono ?_; rintro e w8 ⟨rfl, hb⟩)
   all_goals (first | exact Below.refl _ _ | exact hb | exact ⟨hb, _, rfl, rfl⟩ | exact ⟨rfl, hb, _, rfl, rfl⟩)
  exact KindSteps.nil
 intro xs w9 hw hd
 (first | (with_reducible have hw2 := World.plus_of_below ((World.below_plus _ _).trans (hw.mono (World.size_plus _ _))); obtain ⟨u, rfl⟩ := hw2) | (obtain ⟨u, rfl⟩ := World.plus_of_below hw))
 simp only [fill, Act.put, List.take_succ_cons, List.take_zero, List.drop_succ_cons, List.drop_zero, Nat.reduceAdd, Nat.zero_add, List.setIfInBounds_toArray, List.set_cons_succ, List.set_cons_zero, if_true, if_false, Nat.reduceEqDiff, reduceIte]
 have f0 : (xs 0) = .pointer (some ⟨w.heap.size, 0, none⟩) := hd 0 (by decide)
 simp only [f0]
 have f1 : (xs 1) = .bool (sg x) := hd 1 (by decide)
 simp only [f1]
 have f2 : (xs 2) = .pointer (some ⟨w.heap.size + 1, 0, none⟩) := hd 2 (by decide)
 simp only [f2]
 have f3 : (xs 3) = .bool (sg y) := hd 3 (by decide)
 simp only [f3]
 have f4 : (xs 4) = .bool b := hd 4 (by decide)
 simp only [f4]
 have f5 : (xs 5) = .agg #[.bool (sg x), .string (mg x)] := hd 5 (by decide)
 simp only [f5]
 have f6 : DL _ (xs 6) 4294967290 x.natAbs := hd 6 (by decide)
 have f7 : (xs 7) = .agg #[.bool (sg y), .string (mg y)] := hd 7 (by decide)
 simp only [f7]
 have f8 : DL _ (xs 8) 4294967290 y.natAbs := hd 8 (by decide)
 have f9 : DL _ (xs 9) 8589934581 (x.natAbs * y.natAbs) := hd 9 (by decide)
 have f10 : (xs 10) = .agg #[.bool (sg z), .string (mg z)] := hd 10 (by decide)
 simp only [f10]
 clear hd
 go_wp2_with fail
 refine bodyPost_ret (by simp [results, Tryz.results114, go_sem]; rfl) rfl ?_
 exact ⟨rfl, by (repeat' (first | (with_reducible first | exact Below.refl _ _ | assumption | refine Below.plus0 ?_ _ | refine Below.alloc0 ?_ _ | refine Below.plus ?_ ?_ _ | refine Below.alloc ?_ ?_ _ | refine Below.drew ?_ | refine Below.drewN ?_ _) | (simp [go_sem]; done) | (simp [go_sem]; omega)))⟩
end Go.Proofs.YthdaimoankaciaaGreatDoor
set_option linter.unusedSimpArgs false
set_option linter.unusedVariables false
namespace Go.Proofs.YthdaimoankaciaaGreatDoor
open Go Go.RowKit
open Vi
def bq (X Y p : Nat) : Nat := X / Y / 2 ^ p * 2 ^ p
def br (X Y p : Nat) : Nat := X / 2 ^ p % Y
def bstep (X Y i : Nat) : Nat := br X Y (i + 1) + br X Y (i + 1) + X / 2 ^ i % 2
theorem half_step (X i : Nat) : X / 2 ^ i = 2 * (X / 2 ^ (i + 1)) + X / 2 ^ i % 2 := by
 rw [Nat.pow_succ, ← Nat.div_div_eq_div_mul]; omega
theorem bstep_lt (X Y i : Nat) (hY : 0 < Y) : bstep X Y i < 2 * Y := by
 have := Nat.mod_lt (X / 2 ^ (i + 1)) hY
 unfold bstep br; omega
theorem step_eq (X Y i : Nat) : X / 2 ^ i = Y * (2 * (X / 2 ^ (i + 1) / Y)) + bstep X Y i := by
 have h1 := half_step X i
 have h2 := Nat.div_add_mod (X / 2 ^ (i + 1)) Y
 unfold bstep br
 rw [Nat.mul_left_comm]
 generalize X / 2 ^ (i + 1) = A at *
 have h3 : 2 * A = 2 * (Y * (A / Y)) + 2 * (A % Y) := by rw [← Nat.mul_add, h2]
 omega
theorem br_step (X Y i : Nat) (hY : 0 < Y) : br X Y i = if Y ≤ bstep X Y i then bstep X Y i - Y else bstep X Y i := by
 have h1 := step_eq X Y i
 have h2 := bstep_lt X Y i hY
 have e : br X Y i = bstep X Y i % Y := by
  show X / 2 ^ i % Y = _
  rw [h1, Nat.mul_add_mod]
 rw [e]
 by_cases h : Y ≤ bstep X Y i
 ·rw [if_pos h, Nat.mod_eq_sub_mod h, Nat.mod_eq_of_lt (by omega)]
 ·rw [if_neg h, Nat.mod_eq_of_lt (by omega)]
theorem bq_step (X Y i : Nat) (hY : 0 < Y) : bq X Y i = bq X Y (i + 1) + (if Y ≤ bstep X Y i then 2 ^ i else 0) := by
 have h1 := step_eq X Y i
 have h2 := bstep_lt X Y i hY
 have sw : ∀ p, X / Y / 2 ^ p = X / 2 ^ p / Y := fun p => by rw [Nat.div_div_eq_div_mul, Nat.div_div_eq_div_mul, Nat.mul_comm]
 unfold bq
 rw [sw, sw, h1, Nat.mul_add_div hY]
 have hp : 2 ^ (i + 1) = 2 ^ i * 2 := Nat.pow_succ ..
 have h3 : bstep X Y i / Y = if Y ≤ bstep X Y i then 1 else 0 := by
  by_cases h : Y ≤ bstep X Y i
  ·rw [if_pos h]
   exact Nat.div_eq_of_lt_le (by omega) (by omega)
  ·rw [if_neg h]; exact Nat.div_eq_of_lt (by omega)
 rw [h3]
 generalize X / 2 ^ (i + 1) / Y = a
 rw [hp]
 have e : (2 * a) * 2 ^ i = a * (2 ^ i * 2) := by rw [Nat.mul_comm 2 a, Nat.mul_assoc, Nat.mul_comm 2]
 split
 ·rw [Nat.add_mul, e, Nat.one_mul]
 ·rw [Nat.add_zero, e, Nat.add_zero]
theorem pow8 (n : Nat) : (256 : Nat) ^ n = 2 ^ (8 * n) := by rw [show (256 : Nat) = 2 ^ 8 from rfl, ← Nat.pow_mul]
theorem br_top (X Y n : Nat) (h : X < 256 ^ n) : br X Y (8 * n) = 0 := by
 unfold br; rw [Nat.div_eq_of_lt (by rw [← pow8]; exact h), Nat.zero_mod]
theorem bq_top (X Y n : Nat) (h : X < 256 ^ n) : bq X Y (8 * n) = 0 := by
 unfold bq
 rw [Nat.div_eq_of_lt (Nat.lt_of_le_of_lt (Nat.div_le_self X Y) (by rw [← pow8]; exact h)), Nat.zero_mul]
theorem bq_zero (X Y : Nat) : bq X Y 0 = X / Y := by unfold bq; rw [Nat.pow_zero, Nat.div_one, Nat.mul_one]
theorem br_zero (X Y : Nat) : br X Y 0 = X % Y := by unfold br; rw [Nat.pow_zero, Nat.div_one]
theorem bit_d8 (X c e : Nat) (he : e < 8) : d8 X c / 2 ^ e % 2 = X / 2 ^ (8 * c + e) % 2 := by
 unfold d8
 rw [Nat.pow_add, ← Nat.div_div_eq_div_mul, ← pow8]
 generalize X / 256 ^ c = v
 match e, he with
 | 0, _ => simp only [Nat.pow_zero]; omega
 | 1, _ => simp only [Nat.reducePow]; omega
 | 2, _ => simp only [Nat.reducePow]; omega
 | 3, _ => simp only [Nat.reducePow]; omega
 | 4, _ => simp only [Nat.reducePow]; omega
 | 5, _ => simp only [Nat.reducePow]; omega
 | 6, _ => simp only [Nat.reducePow]; omega
 | 7, _ => simp only [Nat.reducePow]; omega
theorem set_bit (t e : Nat) (he : e < 8) : (2 ^ (e + 1) * t + 2 ^ e) / 256 = 2 ^ (e + 1) * t / 256 ∧ (2 ^ (e + 1) * t + 2 ^ e) % 256 = 2 ^ (e + 1) * t % 256 + 2 ^ e := by
 match e, he with
 | 0, _ => simp only [Nat.reduceAdd, Nat.reducePow, Nat.pow_zero]; omega
 | 1, _ => simp only [Nat.reduceAdd, Nat.reducePow]; omega
 | 2, _ => simp only [Nat.reduceAdd, Nat.reducePow]; omega
 | 3, _ => simp only [Nat.reduceAdd, Nat.reducePow]; omega
 | 4, _ => simp only [Nat.reduceAdd, Nat.reducePow]; omega
 | 5, _ => simp only [Nat.reduceAdd, Nat.reducePow]; omega
 | 6, _ => simp only [Nat.reduceAdd, Nat.reducePow]; omega
 | 7, _ => simp only [Nat.reduceAdd, Nat.reducePow]; omega
theorem d8_div2 (R j k : Nat) : d8 R (j + k) = d8 (R / 256 ^ j) k := by
 unfold d8; rw [Nat.div_div_eq_div_mul, ← Nat.pow_add]
theorem bq_upd (Z t c e : Nat) (he : e < 8) (hZ : Z = t * 2 ^ (8 * c + e + 1)) : upd (d8 Z) c (d8 Z c + 2 ^ e) = d8 (Z + 2 ^ (8 * c + e)) := by
 have e1 : 2 ^ (8 * c + e) = 256 ^ c * 2 ^ e := by rw [Nat.pow_add, pow8]
 have hp : 0 < 256 ^ c := Nat.pow_pos (by omega)
 have e2 : Z / 256 ^ c = 2 ^ (e + 1) * t := by
  rw [hZ, show 8 * c + e + 1 = 8 * c + (e + 1) by omega, Nat.pow_add, ← pow8, Nat.mul_comm t, Nat.mul_assoc, Nat.mul_div_cancel_left _ hp]
 have e3 : (Z + 256 ^ c * 2 ^ e) / 256 ^ c = 2 ^ (e + 1) * t + 2 ^ e := by rw [Nat.add_mul_div_left _ _ hp, e2]
 have hs := set_bit t e he
 rw [e1]
 funext p
 unfold upd
 by_cases h1 : p = c
 ·subst h1
  rw [if_pos rfl]
  show d8 Z p + 2 ^ e = (Z + 256 ^ p * 2 ^ e) / 256 ^ p % 256
  rw [e3, hs.2, ← e2]; rfl
 ·rw [if_neg h1]
  by_cases h2 : p < c
  ·rw [d8_add_low _ _ _ _ h2]
  ·obtain ⟨k, rfl⟩ : ∃ k, p = c + (k + 1) := ⟨p - c - 1, by omega⟩
   rw [d8_div2 Z c (k + 1), d8_div2 (Z + 256 ^ c * 2 ^ e) c (k + 1), e2, e3]
   unfold d8
   have e5 : (256 : Nat) ^ (k + 1) = 256 * 256 ^ k := by rw [Nat.pow_succ, Nat.mul_comm]
   rw [e5, ← Nat.div_div_eq_div_mul, ← Nat.div_div_eq_div_mul, hs.1]
theorem bq_form (X Y i : Nat) : ∃ t, bq X Y (i + 1) = t * 2 ^ (i + 1) := ⟨_, rfl⟩
theorem plus_block (w : World) (o1 o2 : Obj) (u : World) (k : Nat) (h : w.heap.size + 1 ≤ k) : ((w.alloc o2).plus u).heap[k]? = ((w.alloc o1).plus u).heap[k]? := by
 have h1 : (w.alloc o1).heap.size = w.heap.size + 1 := by simp
 have h2 : (w.alloc o2).heap.size = w.heap.size + 1 := by simp
 show ((w.alloc o2).heap ++ u.heap.extract (w.alloc o2).heap.size u.heap.size)[k]? = ((w.alloc o1).heap ++ u.heap.extract (w.alloc o1).heap.size u.heap.size)[k]?
 rw [Array.getElem?_append_right (by omega), Array.getElem?_append_right (by omega), h1, h2]
theorem plus_size (w : World) (o1 o2 : Obj) (u : World) : ((w.alloc o2).plus u).heap.size = ((w.alloc o1).plus u).heap.size := by
 have h1 : (w.alloc o1).heap.size = w.heap.size + 1 := by simp
 have h2 : (w.alloc o2).heap.size = w.heap.size + 1 := by simp
 show ((w.alloc o2).heap ++ u.heap.extract (w.alloc o2).heap.size u.heap.size).size = ((w.alloc o1).heap ++ u.heap.extract (w.alloc o1).heap.size u.heap.size).size
 rw [Array.size_append, Array.size_append, h1, h2]
theorem DL.swap {w : World} {o1 o2 : Obj} {u : World} {v : Value} {M x : Nat} (h : DL ((w.alloc o1).plus u) v M x) (hf : ∀ k, v.ownBlock = some k → w.heap.size + 1 ≤ k) : DL ((w.alloc o2).plus u) v M x := by
 obtain ⟨N, hN, hx, hd⟩ := h
 refine ⟨N, hN, hx, ?_⟩
 rcases hd with hd | ⟨g, c, rfl, hc, hm, hg, hcell⟩
 ·exact .inl hd
 ·refine .inr ⟨g, c, rfl, hc, hm, by rw [plus_size w o1 o2 u]; exact hg, fun i hi => ?_⟩
  rw [← hcell i hi]
  exact World.cell?_of_block (plus_block w o1 o2 u g (hf g rfl))
theorem one_D (w : World) : DL (w.alloc (.cells #[.int .i64 1] 3)) (.slice (some ⟨w.heap.size, 0, none⟩) 1 1) 1 1 :=
 ⟨1, Nat.le_refl _, by decide, .inr ⟨_, _, rfl, Nat.le_refl _, by decide, by simp, fun i hi => by
  have e : i = 0 := by omega
  subst e
  simp [go_sem]; rfl⟩⟩
def DP (w : World) (v : Value) (M1 x1 M2 x2 : Nat) : Prop := ∃ q r, v = .tuple #[q, r] ∧ DL w q M1 x1 ∧ DL w r M2 x2
theorem DP.below {w w' : World} {v : Value} {M1 x1 M2 x2 : Nat} (h : DP w v M1 x1 M2 x2) (hb : Below w.heap.size w w') : DP w' v M1 x1 M2 x2 := by
 obtain ⟨q, r, h1, h2, h3⟩ := h
 exact ⟨q, r, h1, h2.below hb, h3.below hb⟩
end Go.Proofs.YthdaimoankaciaaGreatDoor
set_option linter.unusedSimpArgs false
set_option linter.unusedVariables false
namespace Go.Proofs.YthdaimoankaciaaGreatDoor
open Go Go.RowKit
open Vi
theorem tmod256 (q : Nat) : (q : Int).tmod 256 = ((q % 256 : Nat) : Int) := by rw [Int.tmod_eq_emod_of_nonneg (by omega)]; omega
theorem tdiv256 (q : Nat) : (q : Int).tdiv 256 = ((q / 256 : Nat) : Int) := by rw [Int.tdiv_eq_ediv_of_nonneg (by omega)]; omega
theorem cur_zero (X k : Nat) (h : X / 256 ^ k = 0) : X < 256 ^ k := (Nat.div_eq_zero_iff_lt (Nat.pow_pos (by omega))).1 h
theorem cur_next (X k : Nat) : X / 256 ^ k / 256 = X / 256 ^ (k + 1) := by rw [Nat.div_div_eq_div_mul, ← Nat.pow_succ]
set_option maxRecDepth 100000 in
set_option maxHeartbeats 1600000 in
theorem rFromInt_pos (X : Nat) (w : World) (h2 : X < 9223372036854775808) : Calls Tryz.prog 112 #[.int .i64 (X : Int)] w fun e w' => e = .returned (.agg #[.bool (sg (X : Int)), .string (mg (X : Int))]) ∧ Below w.heap.size w w' := by
 obtain ⟨i0, hi, hz0, hz1, hz2⟩ := info_parts info3
 have hn : ¬ ((X : Int) < 0) := by omega
 go_enter Tryz.func112, Tryz.ntmps112
 go_wp2_with fail
 obtain ⟨W, hW⟩ : ∃ W, W = w.alloc (.cells #[.bool false, .string ⟨#[]⟩] 23) := ⟨_, rfl⟩
 go_loopw [0, 3] (fun c v wr => ∃ k q : Nat, k ≤ 8 ∧ Hid (q = X / 256 ^ k) ∧ c = .int .i64 (q : Int) ∧ wr.ownsRow W.heap.size 3 1 v k (dvals X k) ∧ Below W.heap.size W wr) (fun c _ _ => (intOf c).toNat)
 case atStart => exact ⟨0, X, Nat.zero_le _, Lib.hid (by rw [Nat.pow_zero, Nat.div_one]), rfl, World.ownsRow_nil _ _ _ _, by rw [hW]; exact Below.refl _ _⟩
 case round =>
  obtain ⟨k, q, hk, HQ, rfl, hown, hbel⟩ := hrel
  have HW := Lib.hid hW
  clear hW
  have hqX : q ≤ X := by rw [HQ.out]; exact Nat.div_le_self _ _
  by_cases h0 : q = 0
  ·subst h0
   have HX := Lib.hid (cur_zero X k HQ.out.symm)
   rw [show ((0 : Nat) : Int) = 0 from rfl]
   have hW := HW.out
   subst hW
   obtain ⟨u0, rfl⟩ := World.plus_of_below hbel
   clear hbel
   go_wp2_with fail
   (go_wp2_with fail; refine (rnumber_c false _ X k _ (Dl.of_owned hown HX.out) (by omega)).mono ?_; rintro e w' ⟨rfl, hb⟩; (first | (with_reducible (have hb2 := World.plus_of_below ((World.below_plus _ _).trans (hb.mono (World.size_plus _ _)))); obtain ⟨u, rfl⟩ := hb2) | (obtain ⟨u, rfl⟩ := World.plus_of_below hb)); clear hb)
   go_wp2_with fail
   refine bodyPost_ret (by simp [results, Tryz.results112, go_sem]; rfl) rfl ?_
   exact ⟨rfl, by (repeat' (first | (with_reducible first | exact Below.refl _ _ | assumption | refine Below.plus0 ?_ _ | refine Below.alloc0 ?_ _ | refine Below.plus ?_ ?_ _ | refine Below.alloc ?_ ?_ _ | refine Below.drew ?_ | refine Below.drewN ?_ _) | (simp [go_sem]; done) | (simp [go_sem]; omega)))⟩
  ·obtain ⟨q1, hq1⟩ : ∃ z, z = q / 256 := ⟨_, rfl⟩
   obtain ⟨dg1, hdg⟩ : ∃ z, z = d8 X k := ⟨_, rfl⟩
   have hk8 : k < 8 := by
    apply Decidable.byContradiction
    intro hc
    have e8 : k = 8 := by omega
    have := HQ.out
    rw [e8, Nat.div_eq_of_lt (show X < 256 ^ 8 by omega)] at this
    exact h0 this
   have hdq : dg1 = q % 256 := by rw [hdg, HQ.out]; rfl
   have hd2 : dg1 < 256 := hdg ▸ d8_lt _ _
   have HQ1 : Hid (q1 = X / 256 ^ (k + 1)) := Lib.hid (by rw [hq1, HQ.out, cur_next])
   have Hs : Hid (dvals X k ++ [Value.int .i64 (dg1 : Nat)] = dvals X (k + 1)) := Lib.hid (by rw [hdg, dvals_succ])
   have HM := Lib.hid (show q1 < q by omega)
   have hsz := hbel.size
   have hcw : wrap64 (q1 : Int) = (q1 : Int) := by unfold wrap64; omega
   have hz : ¬ ((q : Int) = 0) := fun h => h0 (Int.ofNat_eq_zero.1 h)
   have hzd : ¬ ((dg1 : Int) < 0) := by omega
   have em : (q : Int).tmod 256 = (dg1 : Int) := by rw [hdq]; exact tmod256 q
   have ed : (q : Int).tdiv 256 = (q1 : Int) := by rw [hq1]; exact tdiv256 q
   clear hq1 hdg hdq h0
   go_wp2_with (first | (at_builtin; refine wpList_append_own _ rfl _ _ 102 rfl W.heap.size 3 i0 (.int .i64 0) 1 8 Tryz.underlying102 hi hz0 hz1 hz2 rfl (by decide) _ _ _ rfl (hown.alloc _) ⟨wr.heap.size, 0, none⟩ 1 1 [.int .i64 (dg1 : Nat)] rfl rfl ?c1 ?c2 ?c3 ?c4 ?c5 ?_) | go_in)
   first
   | case c1 =>
       intro j u hj
       match j, hj with
       | 0, hj => simp at hj; subst hj; simp [Addr.add]
   | skip
   case c2 => first | rfl | (intro u hu; simp at hu; subst hu; rfl)
   case c3 => unfold maxLen; omega
   case c4 => omega
   case c5 => first | omega | (simp; done) | (simp; omega)
   intro v' w1 hown' hgrow _
   rw [Hs.out] at hown'
   have hb2 : Below W.heap.size W w1 := (hbel.alloc hsz _).grown hgrow (by first | omega | (simp; done) | (simp; omega)) fun k' hk' => (hown.lt k' hk').1
   clear hown hgrow hbel
   go_wp2
   go_roundw
   case rel => exact ⟨k + 1, q1, by omega, HQ1, rfl, hown', hb2⟩
   case measure => have := HM.out; first | (simp [intOf]; done) | (simp [intOf]; omega) | (show (intOf _).toNat < _; simp only [intOf]; omega) | (trace_state; omega)
set_option maxRecDepth 100000 in
set_option maxHeartbeats 1600000 in
theorem rFromInt_neg (X : Nat) (w : World) (h1 : 0 < X) (h2 : X ≤ 9223372036854775808) : Calls Tryz.prog 112 #[.int .i64 (-(X : Int))] w fun e w' => e = .returned (.agg #[.bool (sg (-(X : Int))), .string (mg (-(X : Int)))]) ∧ Below w.heap.size w w' := by
 obtain ⟨i0, hi, hz0, hz1, hz2⟩ := info_parts info3
 have hn : -(X : Int) < 0 := by omega
 go_enter Tryz.func112, Tryz.ntmps112
 go_wp2_with fail
 obtain ⟨W, hW⟩ : ∃ W, W = w.alloc (.cells #[.bool false, .string ⟨#[]⟩] 23) := ⟨_, rfl⟩
 go_loopw [0, 3] (fun c v wr => ∃ k q : Nat, k ≤ 8 ∧ Hid (q = X / 256 ^ k) ∧ c = .int .i64 (-(q : Int)) ∧ wr.ownsRow W.heap.size 3 1 v k (dvals X k) ∧ Below W.heap.size W wr) (fun c _ _ => (-intOf c).toNat)
 case atStart => exact ⟨0, X, Nat.zero_le _, Lib.hid (by rw [Nat.pow_zero, Nat.div_one]), rfl, World.ownsRow_nil _ _ _ _, by rw [hW]; exact Below.refl _ _⟩
 case round =>
  obtain ⟨k, q, hk, HQ, rfl, hown, hbel⟩ := hrel
  have HW := Lib.hid hW
  clear hW
  have hqX : q ≤ X := by rw [HQ.out]; exact Nat.div_le_self _ _
  by_cases h0 : q = 0
  ·subst h0
   have HX := Lib.hid (cur_zero X k HQ.out.symm)
   rw [show -((0 : Nat) : Int) = 0 from rfl]
   have hW := HW.out
   subst hW
   obtain ⟨u0, rfl⟩ := World.plus_of_below hbel
   clear hbel
   go_wp2_with fail
   (go_wp2_with fail; refine (rnumber_c true _ X k _ (Dl.of_owned hown HX.out) (by omega)).mono ?_; rintro e w' ⟨rfl, hb⟩; (first | (with_reducible (have hb2 := World.plus_of_below ((World.below_plus _ _).trans (hb.mono (World.size_plus _ _)))); obtain ⟨u, rfl⟩ := hb2) | (obtain ⟨u, rfl⟩ := World.plus_of_below hb)); clear hb)
   go_wp2_with fail
   refine bodyPost_ret (by simp [results, Tryz.results112, go_sem]; rfl) rfl ?_
   exact ⟨rfl, by (repeat' (first | (with_reducible first | exact Below.refl _ _ | assumption | refine Below.plus0 ?_ _ | refine Below.alloc0 ?_ _ | refine Below.plus ?_ ?_ _ | refine Below.alloc ?_ ?_ _ | refine Below.drew ?_ | refine Below.drewN ?_ _) | (simp [go_sem]; done) | (simp [go_sem]; omega)))⟩
  ·obtain ⟨q1, hq1⟩ : ∃ z, z = q / 256 := ⟨_, rfl⟩
   obtain ⟨dg1, hdg⟩ : ∃ z, z = d8 X k := ⟨_, rfl⟩
   have hk8 : k < 8 := by
    apply Decidable.byContradiction
    intro hc
    have e8 : k = 8 := by omega
    have := HQ.out
    rw [e8, Nat.div_eq_of_lt (show X < 256 ^ 8 by omega)] at this
    exact h0 this
   have hdq : dg1 = q % 256 := by rw [hdg, HQ.out]; rfl
   have hd2 : dg1 < 256 := hdg ▸ d8_lt _ _
   have HQ1 : Hid (q1 = X / 256 ^ (k + 1)) := Lib.hid (by rw [hq1, HQ.out, cur_next])
   have Hs : Hid (dvals X k ++ [Value.int .i64 (dg1 : Nat)] = dvals X (k + 1)) := Lib.hid (by rw [hdg, dvals_succ])
   have HM := Lib.hid (show q1 < q by omega)
   have hsz := hbel.size
   have hcw : wrap64 (-(q1 : Int)) = -(q1 : Int) := by unfold wrap64; omega
   have hz : ¬ (-(q : Int) = 0) := fun h => h0 (Int.ofNat_eq_zero.1 (Int.neg_eq_zero.1 h))
   have hzq : ¬ (q = 0) := h0
   by_cases hd0 : dg1 = 0
   ·have hzd : ¬ (-(dg1 : Int) < 0) := by omega
    have em : (-(q : Int)).tmod 256 = -(dg1 : Int) := by rw [Int.neg_tmod, hdq, tmod256 q]
    have ed : (-(q : Int)).tdiv 256 = -(q1 : Int) := by rw [Int.neg_tdiv, hq1, tdiv256 q]
    have em2 : (q : Int).tmod 256 = (dg1 : Int) := by rw [hdq]; exact tmod256 q
    have ed2 : (q : Int).tdiv 256 = (q1 : Int) := by rw [hq1]; exact tdiv256 q
    clear hq1 hdg hdq h0
    subst hd0
    simp only [Int.natCast_zero, Int.neg_zero] at em em2 hzd
    go_wp2_with (first | (at_builtin; refine wpList_append_own _ rfl _ _ 102 rfl W.heap.size 3 i0 (.int .i64 0) 1 8 Tryz.underlying102 hi hz0 hz1 hz2 rfl (by decide) _ _ _ rfl (hown.alloc _) ⟨wr.heap.size, 0, none⟩ 1 1 [.int .i64 0] rfl rfl ?c1 ?c2 ?c3 ?c4 ?c5 ?_) | go_in)
    all_goals clear em ed em2 ed2
    first
    | case c1 =>
        intro j u hj
        match j, hj with
        | 0, hj => simp at hj; subst hj; simp [Addr.add]
    | skip
    case c2 => first | rfl | (intro u hu; simp at hu; subst hu; rfl)
    case c3 => unfold maxLen; omega
    case c4 => omega
    case c5 => first | omega | (simp; done) | (simp; omega)
    intro v' w1 hown' hgrow _
    have Hs2 := Hs.out
    simp only [Int.natCast_zero] at Hs2
    rw [Hs2] at hown'
    have hb2 : Below W.heap.size W w1 := (hbel.alloc hsz _).grown hgrow (by first | omega | (simp; done) | (simp; omega)) fun k' hk' => (hown.lt k' hk').1
    clear hown hgrow hbel
    go_wp2
    go_roundw
    case rel => exact ⟨k + 1, q1, by omega, HQ1, rfl, hown', hb2⟩
    case measure => have := HM.out; first | (simp [intOf]; done) | (simp [intOf]; omega) | (show (intOf _).toNat < _; simp only [intOf]; omega) | (trace_state; omega)
   ·have hp0 : 0 < dg1 := by omega
    obtain ⟨nn, hnn⟩ : ∃ n : Int, n = -(q : Int) := ⟨_, rfl⟩
    obtain ⟨n1, hn1⟩ : ∃ n : Int, n = -(q1 : Int) := ⟨_, rfl⟩
    obtain ⟨r, hr⟩ : ∃ n : Int, n = -(dg1 : Int) := ⟨_, rfl⟩
    have hrn : -r = (dg1 : Int) := by omega
    have hr0 : r < 0 := by omega
    have hnz : (nn != 0) = true := by rw [hnn, bne_iff_ne]; exact hz
    have HR := Lib.hid (show wrap64 (-r) = (dg1 : Int) by rw [hrn]; unfold wrap64; omega)
    have em : nn.tmod 256 = r := by rw [hnn, hr, Int.neg_tmod, hdq, tmod256 q]
    have ed : nn.tdiv 256 = n1 := by rw [hnn, hn1, Int.neg_tdiv, hq1, tdiv256 q]
    rw [← hn1] at hcw
    have HCW := Lib.hid hcw
    clear hcw hrn
    rw [← hnn]
    have HN1 := Lib.hid hn1
    have HNN := Lib.hid hnn
    clear hq1 hdg hdq h0 hz hzq hd0 hr hn1 hnn
    go_upto_region 8 with fail
    clear em ed hr0 hnz
    rw [HR.out]
    go_wp2_with (at_builtin; (refine wpList_append_own _ rfl _ _ 102 rfl W.heap.size 3 i0 (.int .i64 0) 1 8 Tryz.underlying102 hi hz0 hz1 hz2 rfl (by decide) _ _ _ rfl (hown.alloc _) ⟨wr.heap.size, 0, none⟩ 1 1 [.int .i64 (dg1 : Nat)] rfl rfl ?d1 ?d2 ?d3 ?d4 ?d5 ?_))
    first
    | case d1 =>
        intro j u hj
        match j, hj with
        | 0, hj => simp at hj; subst hj; simp [Addr.add, HR.out]
    | skip
    case d2 => first | rfl | (intro u hu; simp at hu; subst hu; rfl)
    case d3 => unfold maxLen; omega
    case d4 => omega
    case d5 => first | omega | (simp; done) | (simp; omega)
    intro v' w1 hown' hgrow _
    rw [Hs.out] at hown'
    have hb2 : Below W.heap.size W w1 := (hbel.alloc hsz _).grown hgrow (by first | omega | (simp; done) | (simp; omega)) fun k' hk' => (hown.lt k' hk').1
    clear hown hgrow hbel
    go_wp2
    go_roundw
    case rel => exact ⟨k + 1, q1, by omega, HQ1, by rw [HCW.out, HN1.out], hown', hb2⟩
    case measure => have a1 := HM.out; have a2 := HN1.out; have a3 := HNN.out; have a4 := HCW.out; show (-(wrap64 n1)).toNat < (-nn).toNat; rw [a4]; omega
theorem rFromInt_c (n : Int) (w : World) (h1 : -9223372036854775808 ≤ n) (h2 : n ≤ 9223372036854775807) : Calls Tryz.prog 112 #[.int .i64 n] w fun e w' => e = .returned (.agg #[.bool (sg n), .string (mg n)]) ∧ Below w.heap.size w w' := by
 by_cases h : n < 0
 ·obtain ⟨X, rfl⟩ : ∃ X : Nat, n = -(X : Int) := ⟨n.natAbs, by omega⟩
  exact rFromInt_neg X w (by omega) (by omega)
 ·obtain ⟨X, rfl⟩ : ∃ X : Nat, n = (X : Int) := ⟨n.natAbs, by omega⟩
  exact rFromInt_pos X w (by omega)
end Go.Proofs.YthdaimoankaciaaGreatDoor
