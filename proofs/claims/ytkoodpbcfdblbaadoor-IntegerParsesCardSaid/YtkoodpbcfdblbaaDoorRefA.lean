import Derived.Test.YtkoodpbcfdblbaaDoorProg
import Derived.Test.YtkoodpbcfdblbaaDoorShelf
import Derived.Test.YtkoodpbcfdblbaaDoorIntH
import Derived.OwnWalk
set_option linter.unusedSimpArgs false
set_option linter.unusedVariables false
namespace Go.Proofs.YtkoodpbcfdblbaaDoor
open Go Go.RowKit
open Vi
/-- The digit i to the base 256. -/
def d8 (x i : Nat) : Nat := x / 256 ^ i % 256
theorem d8_lt (x i : Nat) : d8 x i < 256 := Nat.mod_lt _ (by omega)
def dvals (x k : Nat) : List Value := (List.range k).map fun i => Value.int .i64 (d8 x i : Nat)
theorem dvals_length (x k : Nat) : (dvals x k).length = k := by unfold dvals; simp
theorem dvals_succ (x k : Nat) : dvals x k ++ [Value.int .i64 (d8 x k : Nat)] = dvals x (k + 1) := by unfold dvals; simp [List.range_succ]
theorem dvals_get (x k i : Nat) (h : i < k) : (dvals x k)[i]? = some (Value.int .i64 (d8 x i : Nat)) := by unfold dvals; simp [h]
/-- A list of n digits of x. -/
def Dl (w : World) (v : Value) (n x : Nat) : Prop := x < 256 ^ n ∧ ((v = .slice none 0 0 ∧ n = 0) ∨ ∃ g c, v = .slice (some ⟨g, 0, none⟩) n c ∧ n ≤ c ∧ c ≤ maxLen ∧ g < w.heap.size ∧ ∀ i, i < n → w.cell? ⟨g, i, none⟩ = some (.int .i64 (d8 x i : Nat)))
theorem Dl.below {w w' : World} {v : Value} {n x : Nat} (h : Dl w v n x) (hb : Below w.heap.size w w') : Dl w' v n x := by
  obtain ⟨h1, h2⟩ := h
  refine ⟨h1, ?_⟩
  rcases h2 with h2 | ⟨g, c, hv, hc, hm, hg, hcell⟩
  · exact .inl h2
  · exact .inr ⟨g, c, hv, hc, hm, Nat.lt_of_lt_of_le hg hb.size, fun i hi => (hb.cell (p := ⟨g, i, none⟩) hg).trans (hcell i hi)⟩
theorem Dl.of_owned {w : World} {B n x : Nat} {v : Value} (h : w.ownsRow B 3 1 v n (dvals x n)) (hx : x < 256 ^ n) : Dl w v n x := by
  refine ⟨hx, ?_⟩
  rcases h.2 with ⟨hv, hn⟩ | ⟨g, cap, cur, hv, hb, hh, hn, hm, hs, ht⟩
  · exact .inl ⟨hv, hn⟩
  · refine .inr ⟨g, cap, hv, hn, hm, by have := (Array.getElem?_eq_some_iff.1 hh).1; exact this, fun i hi => ?_⟩
    subst hv
    rw [h.cellAt i (by omega), dvals_get x n i hi]
theorem info3 : (Tryd.prog.info? 3).map (fun i => (i.zero, i.size, i.bytes)) = some (some (.int .i64 0), 1, 8) := by kernel_rfl
set_option maxHeartbeats 400000 in
theorem rdigits_c (b : Bool) (s : ByteArray) (w : World) (hs : s.size ≤ 4294967296) : Calls Tryd.prog 53 #[.agg #[.bool b, .string s]] w fun e w' => ∃ v, e = .returned v ∧ Dl w' v s.size (num s) ∧ Below w.heap.size w w' := by
  obtain ⟨i0, hi, hz0, hz1, hz2⟩ := info_parts info3
  have hx := Lib.hid (num_lt s)
  go_enter Tryd.func53, Tryd.ntmps53
  go_wp2
  go_loopw [3, 4] (fun v i wr => ∃ p k : Nat, p + k = s.size ∧ i = .int .i64 ((p : Int) - 1) ∧ wr.ownsRow (w.heap.size + 1) 3 1 v k (dvals (num s) k) ∧ Below (w.heap.size + 1) (w.alloc (.cells #[.bool b, .string s] 23)) wr) (fun _ i _ => (intOf i + 1).toNat)
  case atStart => exact ⟨s.size, 0, rfl, rfl, World.ownsRow_nil _ _ _ _, Below.refl _ _⟩
  case round =>
    obtain ⟨p, k, hpk, rfl, hown, hbel⟩ := hrel
    have hc0 := hbel.cell (p := ⟨w.heap.size, 0, none⟩) (by simp)
    have hc1 := hbel.cell (p := ⟨w.heap.size, 1, none⟩) (by simp)
    simp [go_sem] at hc0 hc1
    cases p with
    | zero =>
      go_wp2
      go_ret
      have e : k = s.size := by omega
      subst e
      exact ⟨_, rfl, Dl.of_owned hown hx.out, (Below.alloc (Below.refl _ _) (Nat.le_refl _) _).trans (hbel.mono (Nat.le_succ _))⟩
    | succ q =>
      have hq : ((q + 1 : Nat) : Int) - 1 = (q : Int) := by omega
      rw [hq]
      have hq1 : (0 : Int) ≤ (q : Int) := by omega
      have hq2 : q < s.size := by omega
      have hget : (s[q]'hq2).toNat = d8 (num s) k := by rw [get_num, show s.size - 1 - q = k by omega]; rfl
      have hd := d8_lt (num s) k
      have hw : wrap64 (d8 (num s) k : Int) = (d8 (num s) k : Int) := by unfold wrap64; omega
      go_wp2_with (first | (at_builtin; refine wpList_append_own _ rfl _ _ 54 rfl (w.heap.size + 1) 3 i0 (.int .i64 0) 1 8 Tryd.underlying54 hi hz0 hz1 hz2 rfl (by decide) _ _ _ rfl (hown.alloc _) ⟨wr.heap.size, 0, none⟩ 1 1 [.int .i64 (d8 (num s) k : Nat)] rfl rfl ?c1 ?c2 ?c3 ?c4 ?c5 ?_) | go_in)
      case c1 =>
        intro j u hj
        match j, hj with
        | 0, hj => simp at hj; subst hj; simp [Addr.add, hget, hw]
      case c2 => intro u hu; simp at hu; subst hu; rfl
      case c3 => unfold maxLen; omega
      case c4 => omega
      case c5 => have := hbel.size; simp at this; first | (simp; done) | (simp; omega)
      intro v' w1 hown' hgrow _
      rw [dvals_succ] at hown'
      have hb2 : Below (w.heap.size + 1) (w.alloc (Obj.cells #[Value.bool b, Value.string s] 23)) w1 := by
        have hsz : w.heap.size + 1 ≤ wr.heap.size := by have := hbel.size; simpa using this
        refine (hbel.alloc hsz _).grown hgrow (by first | (simp; done) | (simp; omega)) fun k' hk' => (hown.lt k' hk').1
      clear hown hgrow hbel hc0 hc1 hget hd hw
      go_wp2
      go_roundw
      case rel => exact ⟨q, k + 1, by omega, rfl, hown', hb2⟩
      case measure => first | (simp [intOf]; done) | (simp [intOf]; omega)
theorem d8_big (x n i : Nat) (h : x < 256 ^ n) (hi : n ≤ i) : d8 x i = 0 := by
  unfold d8
  rw [Nat.div_eq_of_lt (Nat.lt_of_lt_of_le h (Nat.pow_le_pow_right (by omega) hi))]
theorem nd_top8 (x m : Nat) (h1 : nd 256 x ≤ m + 1) (h : d8 x m ≠ 0) : nd 256 x = m + 1 := by
  apply Decidable.byContradiction
  intro h2
  have h3 := lt_pow_nd 256 (by omega) x
  exact h (d8_big x _ m h3 (by omega))
theorem nd_low8 (x m : Nat) (h1 : nd 256 x ≤ m + 1) (h : d8 x m = 0) : nd 256 x ≤ m := by
  apply nd_le 256 (by omega)
  have h3 := Nat.lt_of_lt_of_le (lt_pow_nd 256 (by omega) x) (Nat.pow_le_pow_right (by omega) h1)
  unfold d8 at h
  have h4 : x / 256 ^ m < 256 := by
    rw [Nat.div_lt_iff_lt_mul (Nat.pow_pos (by omega)), Nat.mul_comm, ← Nat.pow_succ]; exact h3
  have h5 : x / 256 ^ m = 0 := by rw [Nat.mod_eq_of_lt h4] at h; exact h
  exact (Nat.div_eq_zero_iff_lt (Nat.pow_pos (by omega))).1 h5
/-- The bytes, the highest one first, of which the k lowest ones have been written. -/
def nbFn (x N k : Nat) : Nat → Nat := fun p => if p < N ∧ N - 1 - p < k then d8 x (N - 1 - p) else 0
theorem nbFn_zero (x N n : Nat) : arr .u8 (nbFn x N 0) n = arr .u8 (fun _ => 0) n := by
  apply arr_congr; intro i _; unfold nbFn; rw [if_neg (by omega)]
theorem nbFn_succ (x N c p : Nat) (hp : p + 1 + c = N) : upd (nbFn x N c) p (d8 x c) = nbFn x N (c + 1) := by
  funext k
  unfold upd nbFn
  by_cases h : k = p
  · subst h
    rw [if_pos rfl, show N - 1 - k = c by omega, if_pos (by omega)]
  · rw [if_neg h]
    by_cases h2 : k < N ∧ N - 1 - k < c
    · rw [if_pos h2, if_pos (by omega)]
    · rw [if_neg h2, if_neg (by omega)]
theorem nbFn_lt (x N c p : Nat) : nbFn x N c p < 256 := by
  unfold nbFn; split
  · exact d8_lt _ _
  · omega
theorem nb_mag (x N : Nat) (hN : nd 256 x = N) : strFn (nbFn x N N) N = mag x := by
  unfold strFn mag
  congr 2
  subst hN
  apply List.ext_getElem?
  intro i
  by_cases hi : i < nd 256 x
  · have hl : ((dig 256 x).map UInt8.ofNat).length = nd 256 x := by simp [nd]
    rw [List.getElem?_reverse (by omega), hl]
    simp only [List.getElem?_map]
    rw [List.getElem?_range hi]
    have h2 : (dig 256 x)[nd 256 x - 1 - i]? = some (d8 x (nd 256 x - 1 - i)) := by
      have h3 := dig_getD 256 (by omega) x (nd 256 x - 1 - i)
      have h4 : nd 256 x - 1 - i < (dig 256 x).length := by show _ < nd 256 x; omega
      rw [List.getD_eq_getElem?_getD, List.getElem?_eq_getElem h4] at h3
      rw [List.getElem?_eq_getElem h4]
      exact congrArg some h3
    rw [h2]
    simp only [Option.map_some]
    unfold nbFn
    rw [if_pos (by omega)]
  · rw [List.getElem?_eq_none (by simp; omega), List.getElem?_eq_none (by simp; show nd 256 x ≤ i; omega)]
theorem sign_empty (neg : Bool) (x : Nat) : (Value.agg #[.bool (neg && decide ((0 : Int) < (nd 256 x : Int))), .string (mag x)]) = .agg #[.bool (sg (if neg then -(x : Int) else x)), .string (mg (if neg then -(x : Int) else x))] := by
  rw [← made_int neg _ x rfl, mag_isEmpty]
  have : decide ((0 : Int) < (nd 256 x : Int)) = !(x == 0) := by
    by_cases h : x = 0
    · subst h; rfl
    · have := nd_pos 256 (by omega) x (by omega)
      rw [beq_eq_false_iff_ne.2 h]; simp; omega
  rw [this]
theorem d8_byte (x i : Nat) : IntKind.u8.wrap (d8 x i : Int) = (d8 x i : Int) := by
  have := d8_lt x i
  rw [IntKind.wrap_u8]; omega
theorem make8z (w : World) : (Instr.makeSlice 46 (.int .i64 0) (.int .i64 0)).run Tryd.prog w = .ok (.slice (some ⟨w.heap.size, 0, none⟩) 0 0) (w.alloc (.cells (arr .u8 (fun _ => 0) 0) 5)) := make8 0 w (by omega)
theorem conv8z (w : World) :
    (convert 46 9 (.slice (some ⟨w.heap.size, 0, none⟩) 0 0)).run Tryd.prog (w.alloc (.cells (arr .u8 (fun _ => 0) 0) 5)) = .ok (.string ⟨#[]⟩) (w.alloc (.cells (arr .u8 (fun _ => 0) 0) 5)) := conv8 (fun _ => 0) 0 0 w (fun _ => by omega)
set_option maxRecDepth 100000 in
set_option maxHeartbeats 400000 in
theorem rnumber_nil (neg : Bool) (w : World) : Calls Tryd.prog 51 #[.bool neg, .slice none 0 0] w fun e w' => e = .returned (.agg #[.bool false, .string ⟨#[]⟩]) ∧ Below w.heap.size w w' := by
  have hm := make8z (w.alloc (.cells #[Value.bool false, .string ⟨#[]⟩] 23))
  have hc := conv8z (w.alloc (.cells #[Value.bool false, .string ⟨#[]⟩] 23))
  simp only [World.size_alloc] at hc
  cases neg
  all_goals
    go_enter Tryd.func51, Tryd.ntmps51
    go_wp2
    go_rounds 1
    go_wp2
    go_rounds 1
    go_wp2
    refine bodyPost_ret (by simp [results, Tryd.results51, go_sem]; rfl) rfl ?_
    exact ⟨rfl, by (repeat' (first | (with_reducible exact Below.refl _ _) | (with_reducible assumption) | (with_reducible refine Below.plus0 ?_ _) | (with_reducible refine Below.alloc0 ?_ _) | (with_reducible refine Below.plus ?_ ?_ _) | (with_reducible refine Below.alloc ?_ ?_ _) | (with_reducible refine Below.drew ?_) | (with_reducible refine Below.drewN ?_ _) | (simp [go_sem]; done) | (simp [go_sem]; omega)))⟩
set_option maxRecDepth 100000 in
set_option maxHeartbeats 400000 in
theorem rnumber_some (neg : Bool) (x n c g : Nat) (w : World) (hx : x < 256 ^ n) (hn : n ≤ 8589934592) (hg : g < w.heap.size) (hr : ∀ i, i < n → w.cell? ⟨g, i, none⟩ = some (.int .i64 (d8 x i : Nat))) : Calls Tryd.prog 51 #[.bool neg, .slice (some ⟨g, 0, none⟩) n c] w fun e w' => e = .returned (.agg #[.bool (neg && decide ((0 : Int) < (nd 256 x : Int))), .string (mag x)]) ∧ Below w.heap.size w w' := by
  have hle := nd_le 256 (by omega) x n hx
  go_enter Tryd.func51, Tryd.ntmps51
  go_wp2_with fail
  go_loop [5] (fun v => ∃ j : Nat, nd 256 x ≤ j ∧ j ≤ n ∧ v = .int .i64 j) (fun v => (intOf v).toNat)
  case atStart => exact ⟨n, hle, Nat.le_refl _, rfl⟩
  case round =>
    obtain ⟨j, h1, h2, rfl⟩ := hrel
    by_cases hj : j = 0
    · subst hj
      have e0 : x = 0 := by
        have := lt_pow_nd 256 (by omega) x
        rw [show nd 256 x = 0 by omega, Nat.pow_zero] at this; omega
      subst e0
      have hm := make8z (w.alloc (.cells #[Value.bool false, .string ⟨#[]⟩] 23))
      have hc := conv8z (w.alloc (.cells #[Value.bool false, .string ⟨#[]⟩] 23))
      simp only [World.size_alloc] at hc
      clear hr
      cases neg
      all_goals
        go_wp2_with fail
        go_rounds 1
        go_wp2_with fail
        refine bodyPost_ret (by simp [results, Tryd.results51, go_sem]; rfl) rfl ?_
        exact ⟨rfl, by (repeat' (first | (with_reducible exact Below.refl _ _) | (with_reducible assumption) | (with_reducible refine Below.plus0 ?_ _) | (with_reducible refine Below.alloc0 ?_ _) | (with_reducible refine Below.plus ?_ ?_ _) | (with_reducible refine Below.alloc ?_ ?_ _) | (with_reducible refine Below.drew ?_) | (with_reducible refine Below.drewN ?_ _) | (simp [go_sem]; done) | (simp [go_sem]; omega)))⟩
    · obtain ⟨m, hm⟩ : ∃ m, j = m + 1 := ⟨j - 1, by omega⟩
      have hcell := hr m (by omega)
      have hj0 : (0 : Int) < (j : Int) := by omega
      have e1 : (j : Int) - 1 = (m : Int) := by omega
      have hmn : m < n := by omega
      have Hm := Lib.hid hm
      have Hc := hcell
      have ht : nd 256 x ≤ m + 1 := by omega
      have Ht := Lib.hid ht
      clear ht hm
      by_cases h0 : d8 x m = 0
      · have hb : ((d8 x m : Int) == 0) = true := by rw [h0]; rfl
        have H := Lib.hid (nd_low8 x m Ht.out h0)
        clear h0
        go_wp2_with fail
        exact ⟨⟨m, H.out, by omega, rfl⟩, by have := Hm.out; simp [intOf]; omega⟩
      · have hb : ((d8 x m : Int) == 0) = false := by rw [beq_eq_false_iff_ne]; omega
        have hnd := nd_top8 x m Ht.out h0
        rw [← Hm.out] at hnd
        have H := Lib.hid hnd
        have hm := make8 j (w.alloc (.cells #[Value.bool false, .string ⟨#[]⟩] 23)) (by omega)
        have hcv := conv8 (nbFn x j j) j j (w.alloc (.cells #[Value.bool false, .string ⟨#[]⟩] 23)) (nbFn_lt x j j)
        simp only [World.size_alloc] at hcv
        have H0 := Lib.hid (nbFn_zero x j j)
        clear h0 hnd h1 hle
        go_wp2_with fail
        go_loopw [7] (fun v wr => ∃ i : Nat, i ≤ j ∧ v = .int .i64 i ∧ wr = (w.alloc (.cells #[Value.bool false, .string ⟨#[]⟩] 23)).alloc (.cells (arr .u8 (nbFn x j i) j) 5)) (fun v _ => j - (intOf v).toNat)
        case atStart => exact ⟨0, Nat.zero_le _, rfl, by rw [H0.out]⟩
        case round =>
          obtain ⟨i, hi, rfl, rfl⟩ := hrel
          by_cases hlt : i < j
          · obtain ⟨p, hp⟩ : ∃ p : Nat, p + 1 + i = j := ⟨j - 1 - i, by omega⟩
            have hci := hr i (by omega)
            have e5 : (m : Int) - (i : Int) = (p : Int) := by omega
            have hpl : p < j := by omega
            have hget := arr_get .u8 (nbFn x j i) j p hpl
            have hd := d8_byte x i
            have H1 := Lib.hid (nbFn_succ x j i p hp)
            clear hp
            go_wp2_with fail
            refine ⟨⟨i + 1, by omega, by go_num, ?_⟩, by simp [intOf]; omega⟩
            rw [← H1.out, arr_set]
          · have e : i = j := by omega
            subst e
            clear hr
            cases neg
            all_goals
              go_wp2_with fail
              refine bodyPost_ret (by simp [results, Tryd.results51, go_sem]; rfl) rfl ?_
              refine ⟨?_, by (repeat' (first | (with_reducible exact Below.refl _ _) | (with_reducible assumption) | (with_reducible refine Below.plus0 ?_ _) | (with_reducible refine Below.alloc0 ?_ _) | (with_reducible refine Below.plus ?_ ?_ _) | (with_reducible refine Below.alloc ?_ ?_ _) | (with_reducible refine Below.drew ?_) | (with_reducible refine Below.drewN ?_ _) | (simp [go_sem]; done) | (simp [go_sem]; omega)))⟩
              rw [nb_mag x i H.out, H.out]
              first | (simp; done) | (simp; omega)
theorem rnumber_c (neg : Bool) (v : Value) (x n : Nat) (w : World) (h : Dl w v n x) (hn : n ≤ 8589934592) : Calls Tryd.prog 51 #[.bool neg, v] w fun e w' => e = .returned (.agg #[.bool (sg (if neg then -(x : Int) else x)), .string (mg (if neg then -(x : Int) else x))]) ∧ Below w.heap.size w w' := by
  rcases h.2 with ⟨rfl, rfl⟩ | ⟨g, c, rfl, _, _, hg, hcell⟩
  · have hx : x = 0 := by have := h.1; rw [Nat.pow_zero] at this; omega
    subst hx
    have := rnumber_nil neg w
    rw [show (if neg then -((0 : Nat) : Int) else ((0 : Nat) : Int)) = 0 by cases neg <;> rfl]
    exact this
  · rw [← sign_empty]
    exact rnumber_some neg x n c g w h.1 hn hg hcell
end Go.Proofs.YtkoodpbcfdblbaaDoor
