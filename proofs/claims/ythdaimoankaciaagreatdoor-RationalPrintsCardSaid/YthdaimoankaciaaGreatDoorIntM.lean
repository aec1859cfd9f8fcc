import Derived.Test.YthdaimoankaciaaGreatDoorIntL
import Derived.Test.YthdaimoankaciaaGreatDoorDecS
import Derived.Test.YthdaimoankaciaaGreatDoorRel
import Derived.Test.YthdaimoankaciaaGreatDoorRelB
import Derived.OwnWalk
set_option linter.unusedSimpArgs false
set_option linter.unusedVariables false
namespace Go.Proofs.YthdaimoankaciaaGreatDoor
open Go Go.RowKit
open Vi
def dv8 (X k : Nat) : List Value := (List.range k).map fun i => Value.int .u8 ((48 + X / 10 ^ i % 10 : Nat) : Int)
theorem dv8_succ (X k : Nat) : dv8 X k ++ [Value.int .u8 ((48 + X / 10 ^ k % 10 : Nat) : Int)] = dv8 X (k + 1) := by unfold dv8; simp [List.range_succ]
theorem info5 : (Tryz.prog.info? 5).map (fun i => (i.zero, i.size, i.bytes)) = some (some (.int .u8 0), 1, 1) := by kernel_rfl
theorem low_dec (x i : Nat) (h : i < 9) : x % 10 ^ 9 / 10 ^ i % 10 = x / 10 ^ i % 10 := by
 have e : (10 : Nat) ^ 9 = 10 ^ i * 10 ^ (9 - i) := by rw [← Nat.pow_add, show i + (9 - i) = 9 by omega]
 rw [e, Nat.mod_mul_right_div_self]
 have e2 : (10 : Nat) ^ (9 - i) = 10 * 10 ^ (8 - i) := by rw [show 9 - i = 8 - i + 1 by omega, Nat.pow_succ, Nat.mul_comm]
 rw [e2, Nat.mod_mul_right_mod]
theorem row_below {V wr : World} {k : Nat} {ty : TypeId} {c0 c1 : Array Value} (h : Below (V.heap.size + 1) (V.alloc (.cells c0 ty (0, 0))) wr) : Below (V.heap.size + 1) (V.alloc (.cells c1 ty (0, 0))) ((wr.row V.heap.size ty c1).drewN k) := by
 have hs : V.heap.size + 1 ≤ wr.heap.size := by have := h.size; rw [World.size_alloc] at this; exact this
 refine ⟨h.os, h.tape, h.output, ?_, fun j hj => ?_⟩
 ·show _ ≤ (wr.row V.heap.size ty c1).heap.size
  rw [World.size_row, World.size_alloc]; exact hs
 ·show (wr.row V.heap.size ty c1).heap[j]? = _
  by_cases e : j = V.heap.size
  ·subst e
   rw [World.heap_row_same _ _ _ _ (by omega)]
   exact (heap_at _ _ _ rfl).symm
  ·rw [World.heap_row_other _ _ _ _ _ e, h.block j hj, heap_alloc_old _ _ (show j < _ by omega), heap_alloc_old _ _ (show j < _ by omega)]
theorem row_owns {wr : World} {B e size : Nat} {ty : TypeId} {v : Value} {n g k : Nat} {xs : List Value} {c1 : Array Value} (h : wr.ownsRow B e size v n xs) (hg : g < B) : ((wr.row g ty c1).drewN k).ownsRow B e size v n xs := by
 refine h.kept (row := some g) ⟨rfl, rfl, rfl, ?_, fun j hj hne => ?_⟩ ?_
 ·show _ ≤ (wr.row g ty c1).heap.size
  rw [World.size_row]; exact Nat.le_refl _
 ·show (wr.row g ty c1).heap[j]? = _
  exact World.heap_row_other _ _ _ _ _ (fun e => hne (by rw [e]))
 ·cases hv : v.ownBlock with
  | none => left; rfl
  | some b =>
   right
   have := (h.lt b hv).1
   intro e
   cases e
   omega
theorem owns_len {w : World} {B e size : Nat} {v : Value} {n : Nat} {xs : List Value} (h : w.ownsRow B e size v n xs) : lenOfS v = n := by
 rcases h.2 with ⟨rfl, hn⟩ | ⟨g, cap, cur, rfl, _⟩
 ·exact hn.symm
 ·rfl
theorem dec_bound (X t k : Nat) (hk : (mag X).size ≤ k) (h : 0 < X / 10 ^ t) : t ≤ 3 * k := by
 have h1 : X < 256 ^ k := lt_of_size_mag X k hk
 have h2 : (256 : Nat) ^ k ≤ (10 ^ 3) ^ k := Nat.pow_le_pow_left (by decide) k
 rw [← Nat.pow_mul] at h2
 apply Nat.le_of_lt
 apply Nat.lt_of_not_le
 intro hle
 have h3 : (10 : Nat) ^ (3 * k) ≤ 10 ^ t := Nat.pow_le_pow_right (by omega) hle
 rw [Nat.div_eq_of_lt (by omega)] at h
 omega
theorem dv8_take (X k N : Nat) (h : k ≤ N) : (dv8 X N).take k = dv8 X k := by
 unfold dv8
 rw [← List.map_take, List.take_range, Nat.min_eq_left h]
theorem dv8_get (X N i : Nat) (h : i < N) : (dv8 X N)[i]? = some (Value.int .u8 ((48 + X / 10 ^ i % 10 : Nat) : Int)) := by unfold dv8; simp [h]
theorem owns_prefix {w : World} {B : Nat} {X N g cap k : Nat} (h : w.ownsRow B 5 1 (.slice (some ⟨g, 0, none⟩) N cap) N (dv8 X N)) (hk : k ≤ N) : w.ownsRow B 5 1 (.slice (some ⟨g, 0, none⟩) k cap) k (dv8 X k) := by
 refine ⟨by unfold dv8; simp, .inr ?_⟩
 rcases h.2 with ⟨e, _⟩ | ⟨g', cap', cur, e, hb, hg, hn, hm, hs, ht⟩
 ·cases e
 ·cases e
  refine ⟨g, cap, cur, rfl, hb, hg, by omega, hm, hs, ?_⟩
  rw [Nat.mul_one] at ht ⊢
  rw [← dv8_take X k N hk, ← ht, List.take_take, Nat.min_eq_left hk]
theorem owns_form {w : World} {B : Nat} {v : Value} {N : Nat} {xs : List Value} (h : w.ownsRow B 5 1 v N xs) (hN : 0 < N) : ∃ g cap, v = .slice (some ⟨g, 0, none⟩) N cap ∧ N ≤ cap := by
 rcases h.2 with ⟨_, e⟩ | ⟨g, cap, cur, e, hb, hg, hn, _⟩
 ·omega
 ·exact ⟨g, cap, e, hn⟩
theorem dec_top (X k : Nat) (hX : 0 < X) (h1 : nd 10 X ≤ k + 1) (h : X / 10 ^ k % 10 ≠ 0) : nd 10 X = k + 1 := by
 apply Decidable.byContradiction
 intro h2
 have h3 := lt_pow_nd 10 (by omega) X
 apply h
 rw [Nat.div_eq_of_lt (Nat.lt_of_lt_of_le h3 (Nat.pow_le_pow_right (by omega) (by omega)))]
theorem dec_low (X k : Nat) (h1 : nd 10 X ≤ k + 1) (h : X / 10 ^ k % 10 = 0) : nd 10 X ≤ k := by
 apply nd_le 10 (by omega)
 have h3 := Nat.lt_of_lt_of_le (lt_pow_nd 10 (by omega) X) (Nat.pow_le_pow_right (by omega) h1)
 have h4 : X / 10 ^ k < 10 := by
  rw [Nat.div_lt_iff_lt_mul (Nat.pow_pos (by omega)), Nat.mul_comm, ← Nat.pow_succ]; exact h3
 have h5 : X / 10 ^ k = 0 := by rw [Nat.mod_eq_of_lt h4] at h; exact h
 exact (Nat.div_eq_zero_iff_lt (Nat.pow_pos (by omega))).1 h5
theorem cell_at {w : World} {g i : Nat} {cs : Array Value} {ty : TypeId} (h : w.heap[g]? = some (.cells cs ty (0, 0))) : w.cell? ⟨g, i, none⟩ = cs[i]? := by
 unfold World.cell?
 rw [h]; rfl
theorem owns_bytes {w : World} {B L g cap : Nat} {Bf : Nat → Nat} {xs : List Value} (h : w.ownsRow B 5 1 (.slice (some ⟨g, 0, none⟩) L cap) L xs) (hx : ∀ p, p < L → xs[p]? = some (.int .u8 ((Bf p : Nat) : Int))) : ∃ cur, w.heap[g]? = some (.cells cur 5 (0, 0)) ∧ ∀ p, p < L → cur[p]? = some (.int .u8 ((Bf p : Nat) : Int)) := by
 rcases h.2 with ⟨e, _⟩ | ⟨g', cap', cur, e, hb, hg, hn, hm, hs, ht⟩
 ·cases e
 ·cases e
  refine ⟨cur, hg, fun p hp => ?_⟩
  rw [← hx p hp, ← ht, List.getElem?_take_of_lt (by omega), Array.getElem?_toList]
def bfP (X : Nat) : Nat → Nat := fun p => 48 + X / 10 ^ p % 10
def bfN (X k : Nat) : Nat → Nat := fun p => if p < k then 48 + X / 10 ^ p % 10 else 45
theorem decS_range (X k : Nat) (h : nd 10 X = k) : (List.range k).map (fun i => UInt8.ofNat (bfP X (k - 1 - i))) = decS X := by
 unfold decS
 have hl : (dig 10 X).length = k := h
 apply List.ext_getElem
 ·simp [hl]
 ·intro i h1 h2
  have hik : i < k := by simpa using h1
  rw [List.getElem_map, List.getElem_range, List.getElem_reverse, List.getElem_map]
  simp only [List.length_map, hl]
  have e := dig_getD 10 (by omega) X (k - 1 - i)
  rw [List.getD_eq_getElem?_getD, List.getElem?_eq_getElem (by omega)] at e
  simp only [Option.getD_some] at e
  rw [e]
  rfl
theorem str_pos (X k : Nat) (h : nd 10 X = k) : strFn (fun p => bfP X (k - 1 - p)) k = ⟨(decS X).toArray⟩ := by
 unfold strFn
 rw [decS_range X k h]
theorem str_neg (X k : Nat) (h : nd 10 X = k) : strFn (fun p => bfN X k (k + 1 - 1 - p)) (k + 1) = ⟨(45 :: decS X).toArray⟩ := by
 unfold strFn
 congr 2
 rw [List.range_succ_eq_map, List.map_cons, List.map_map, ← decS_range X k h]
 congr 1
 ·show UInt8.ofNat (bfN X k (k + 1 - 1 - 0)) = 45
  unfold bfN
  rw [if_neg (by omega)]; rfl
 ·apply List.map_congr_left
  intro i hi
  have hik : i < k := by simpa using hi
  show UInt8.ofNat (bfN X k (k + 1 - 1 - (i + 1))) = _
  unfold bfN bfP
  rw [if_pos (by omega), show k + 1 - 1 - (i + 1) = k - 1 - i by omega]
theorem bfP_lt (X p : Nat) : bfP X p < 256 := by unfold bfP; omega
theorem bfN_lt (X k p : Nat) : bfN X k p < 256 := by unfold bfN; split <;> omega
set_option maxRecDepth 100000 in
set_option maxHeartbeats 12800000 in
theorem Print_pos (b : Bool) (X : Nat) (w : World) (h0 : 0 < X) (hx : (mag X).size ≤ 1048576) : Calls Tryz.prog 125 #[.agg #[.bool b, .string (mag X)]] w fun e w' => e = .returned (.string (if b then ⟨(45 :: decS X).toArray⟩ else ⟨(decS X).toArray⟩)) ∧ Below w.heap.size w w' := by
 obtain ⟨i0, hi, hz0, hz1, hz2⟩ := info_parts info5
 have hne := mag_empty_not X (by omega)
 obtain ⟨n, hn⟩ : ∃ n, n = nd 4294967296 X := ⟨_, rfl⟩
 have hdx := fun w => digits_c X w (by omega)
 rw [← hn] at hdx
 have HX := Lib.hid hdx
 have hXl : X < 4294967296 ^ n := by rw [hn]; exact lt_pow_nd _ (by omega) X
 have HN := Lib.hid hn
 have hn2 : n ≤ 1048576 := by rw [hn, ← up4_nd]; unfold up4; omega
 have HXL := Lib.hid hXl
 have HXS := Lib.hid hx
 have HXP := Lib.hid h0
 clear hn hdx hXl h0 hx
 go_enter Tryz.func125, Tryz.ntmps125
 go_wp2_with fail
 refine (HX.out _).mono ?_
 rintro e w' ⟨rfl, k1, rfl⟩
 go_wp2_with fail
 obtain ⟨V, hV⟩ : ∃ V, V = w.alloc (.cells #[.bool b, .string (mag X)] 23) := ⟨_, rfl⟩
 have hVs : V.heap.size = w.heap.size + 1 := by rw [hV]; simp
 rw [← hV, ← hVs]
 have hVb : Below w.heap.size w V := by rw [hV]; (repeat' (first | (with_reducible first | exact Below.refl _ _ | assumption | refine Below.plus0 ?_ _ | refine Below.alloc0 ?_ _ | refine Below.plus ?_ ?_ _ | refine Below.alloc ?_ ?_ _ | refine Below.drew ?_ | refine Below.drewN ?_ _) | (simp [go_sem]; done) | (simp [go_sem]; omega)))
 have cb : V.cell? ⟨w.heap.size, 0, none⟩ = some (.bool b) := by rw [hV]; simp [go_sem]
 have HVs := Lib.hid hVs
 clear hV hVs
 go_loopw [3, 4] (fun out xv wr => ∃ t Xt : Nat, 9 * t ≤ 3145737 ∧ Hid (Xt = X / 10 ^ (9 * t)) ∧ xv = .slice (some ⟨V.heap.size, 0, none⟩) (nd 4294967296 Xt) n ∧ wr.ownsRow (V.heap.size + 1) 5 1 out (9 * t) (dv8 X (9 * t)) ∧ Below (V.heap.size + 1) (V.alloc (.cells (arr .u32 (dg Xt) n) 162)) wr) (fun out _ _ => 4000000 - lenOfS out)
 case atStart =>
  refine ⟨0, X, by omega, Lib.hid (by simp), by rw [HN.out], World.ownsRow_nil _ _ _ _, ?_⟩
  have := (Below.refl (V.heap.size + 1) (V.alloc (.cells (arr .u32 (dg X) n) 162))).drewN k1
  exact this
 case round =>
  obtain ⟨t, Xt, ht9, HXt, rfl, hown, hbel⟩ := hrel
  by_cases h0 : Xt = 0
  ·have hXN : X < 10 ^ (9 * t) := by have := HXt.out; rw [h0] at this; exact (Nat.div_eq_zero_iff_lt (Nat.pow_pos (by omega))).1 this.symm
   have hDN : nd 10 X ≤ 9 * t := nd_le 10 (by omega) X _ hXN
   have hD1 : 0 < nd 10 X := nd_pos 10 (by omega) X HXP.out
   obtain ⟨N, hN9⟩ : ∃ N, N = 9 * t := ⟨_, rfl⟩
   rw [← hN9] at hown hDN
   obtain ⟨g, cap, rfl, hcap⟩ := owns_form hown (by omega)
   have hbyte : Hid (∀ i, i < N → wr.cell? ⟨g, i, none⟩ = some (.int .u8 ((48 + X / 10 ^ i % 10 : Nat) : Int))) := Lib.hid fun i h => by
    rw [hown.cellAt i (by omega), dv8_get X N i h]
   have hNb : N ≤ 3145737 := by omega
   have HD := Lib.hid hDN
   have HD1 := Lib.hid hD1
   have hzz : nd 4294967296 Xt = 0 := by rw [h0, nd_zero]
   rw [hzz]
   clear hXN hDN hD1 hN9 h0 hzz HXt
   go_wp2_with fail
   go_loop [3] (fun out => ∃ k : Nat, k ≤ N ∧ Hid (nd 10 X ≤ k) ∧ out = .slice (some ⟨g, 0, none⟩) k cap) (fun out => lenOfS out)
   case atStart => exact ⟨N, Nat.le_refl _, HD, rfl⟩
   case round =>
    obtain ⟨k, hkN, HK, rfl⟩ := hrel
    obtain ⟨j, hj⟩ : ∃ j, k = j + 1 := ⟨k - 1, by have := HK.out; have := HD1.out; omega⟩
    have hcj := hbyte.out j (by omega)
    have hkp : (0 : Int) < (k : Int) := by omega
    have ej : (k : Int) - 1 = (j : Int) := by omega
    have hjk : (j : Int) < (k : Int) := by omega
    obtain ⟨dj, hdj⟩ : ∃ z, z = X / 10 ^ j % 10 := ⟨_, rfl⟩
    rw [← hdj] at hcj
    have Hj := Lib.hid hj
    have hdj10 : dj < 10 := by omega
    by_cases hz : dj = 0
    ·have HK2 : Hid (nd 10 X ≤ j) := Lib.hid (dec_low X j (by have := HK.out; omega) (by rw [← hdj]; exact hz))
     subst hz
     have hjN : j ≤ N := by omega
     clear hdj hj
     go_wp2_with fail
     exact ⟨⟨j, hjN, HK2, rfl⟩, by have := Hj.out; simp [lenOfS]; omega⟩
    ·have HE : Hid (nd 10 X = k) := Lib.hid (by rw [hj]; exact dec_top X j HXP.out (by have := HK.out; omega) (by rw [← hdj]; exact hz))
     have hzq : ¬ ((48 + dj : Nat) : Int) = 48 := by omega
     have hz3 : (((48 + dj : Nat) : Int) == 48) = false := by rw [beq_eq_false_iff_ne]; exact hzq
     have hcb : wr.cell? ⟨w.heap.size, 0, none⟩ = some (.bool b) := by
      rw [hbel.cell (p := ⟨w.heap.size, 0, none⟩) (by show w.heap.size < _; have := HVs.out; omega)]
      have hl := World.block_lt_of_cell? V _ cb
      rw [World.cell?_of_block (show (V.alloc _).heap[w.heap.size]? = V.heap[w.heap.size]? from heap_alloc_old _ _ hl)]
      exact cb
     have hownk := owns_prefix hown hkN
     clear hdj hj hown
     cases b
     ·go_wp2_with fail
      obtain ⟨cur, hcur, hcb⟩ := owns_bytes (Bf := bfP X) hownk fun p hp => by rw [dv8_get X k p hp]; rfl
      have HSTR : Hid (strFn (fun p => bfP X (k - 1 - p)) k = ⟨(decS X).toArray⟩) := Lib.hid (str_pos X k HE.out)
      have hbelw : Below w.heap.size w wr := by
       have h1 := hbel.mono (show w.heap.size ≤ V.heap.size + 1 by have := HVs.out; omega)
       exact (hVb.alloc (by have := HVs.out; omega) _).trans h1
      have hgw : w.heap.size ≤ g := by have h1 := (hownk.lt g rfl).1; have := HVs.out; omega
      have hLb : k ≤ 3145738 := by omega
      obtain ⟨Bf, hBf⟩ : ∃ B, B = bfP X := ⟨_, rfl⟩
      rw [← hBf] at hcb HSTR
      have HB := Lib.hid hcb
      obtain ⟨L, hL⟩ : ∃ L, L = k := ⟨_, rfl⟩
      have HJL : Hid ((j : Int) + 1 = (L : Int)) := Lib.hid (by have := Hj.out; omega)
      rw [← hL] at HB HSTR hLb ⊢
      clear hL hcb hBf hownk hbel HE hbyte
      generalize wr = wr0 at hcur hbelw ⊢
      go_loopw [6, 7] (fun iv kv wr => ∃ (t : Nat) (cs : Array Value), t ≤ L ∧ iv = .int .i64 (t : Int) ∧ (∃ kk : Int, kv = .int .i64 kk ∧ kk + 1 + (t : Int) = (L : Int)) ∧ wr.heap[g]? = some (.cells cs 5 (0, 0)) ∧ Hid (∀ p, p < L → cs[p]? = some (.int .u8 ((if p < t ∨ L ≤ p + t then Bf (L - 1 - p) else Bf p : Nat) : Int))) ∧ Below w.heap.size w wr) (fun iv _ _ => L - (intOf iv).toNat)
      case atStart => exact ⟨0, cur, Nat.zero_le _, rfl, ⟨_, rfl, by have := HJL.out; omega⟩, hcur, Lib.hid fun p hp => by rw [if_neg (by omega)]; exact HB.out p hp, hbelw⟩
      case round =>
       obtain ⟨t, cs, htL, rfl, ⟨kk, rfl, hkk⟩, hrow, HC, hbel⟩ := hrel
       by_cases hlt : (t : Int) < kk
       ·obtain ⟨k, hk⟩ : ∃ k : Nat, k + t + 1 = L := ⟨L - 1 - t, by omega⟩
        have ek : kk = (k : Int) := by omega
        subst ek
        have hkL : (k : Int) < (L : Int) := by omega
        have htL2 : (t : Int) < (L : Int) := by omega
        obtain ⟨bk, hbk⟩ : ∃ z, z = Bf k := ⟨_, rfl⟩
        obtain ⟨bt, hbt⟩ : ∃ z, z = Bf t := ⟨_, rfl⟩
        have hgk : cs[k]? = some (.int .u8 (bk : Int)) := by rw [HC.out k (by omega), if_neg (by omega), hbk]
        have hgt : cs[t]? = some (.int .u8 (bt : Int)) := by rw [HC.out t (by omega), if_neg (by omega), hbt]
        have hck : wr.cell? ⟨g, k, none⟩ = some (.int .u8 (bk : Int)) := (cell_at hrow).trans hgk
        have hct : wr.cell? ⟨g, t, none⟩ = some (.int .u8 (bt : Int)) := (cell_at hrow).trans hgt
        have HBK := Lib.hid hbk
        have HBT := Lib.hid hbt
        have HK := Lib.hid hk
        have HGK := Lib.hid hgk
        have HGT := Lib.hid hgt
        clear hbk hbt hk hkk hgk hgt
        go_wp2_with fail
        have eW := Lib.hid (World.row_self wr _ _ _ hrow)
        have hkg : g < wr.heap.size := (Array.getElem?_eq_some_iff.1 hrow).1
        obtain ⟨c1, hc1⟩ : ∃ z, z = cs.setIfInBounds t (Value.int .u8 (bk : Int)) := ⟨_, rfl⟩
        have HC1 := Lib.hid hc1
        clear hc1
        refine wp_region_sto_t (Rel0 := BR) (Rel := SR g (.cells c1 5 (0, 0))) 15 13 [7, 11] (fun i v w9 => match i with
            | 0 => v = .slice (some ⟨g, 0, none⟩) L cap
            | 1 => v = .int .i64 (t : Int)
            | 2 => v = .slice (some ⟨g, 0, none⟩) L cap
            | 3 => v = .int .i64 (k : Int)
            | 4 => v = .slice (some ⟨g, 0, none⟩) L cap
            | 5 => v = .int .i64 (k : Int)
            | 6 => v = .pointer (some ⟨g, k, none⟩)
            | 7 => v = .int .u8 (bk : Int)
            | 8 => v = .slice (some ⟨g, 0, none⟩) L cap
            | 9 => v = .int .i64 (t : Int)
            | 10 => v = .pointer (some ⟨g, t, none⟩)
            | 11 => v = .int .u8 (bt : Int)
            | 12 => v = .pointer (some ⟨g, t, none⟩)
            | 13 => w9.heap[g]? = some (.cells c1 5 (0, 0))
            | 14 => v = .pointer (some ⟨g, k, none⟩)
            | _ => True) (by kernel_rfl) (by kernel_rfl) (by kernel_rfl) (fun _ _ _ => SR.trans) (fun _ _ _ => BR.trans) (fun _ _ => SR.of_below) ⟨rfl, rfl, rfl, Nat.le_refl _, fun _ _ => rfl⟩ ?_ ?_ ?_
        ·intro i v w1 w2 hb h
         match i, h with
         | 0, h => exact h
         | 1, h => exact h
         | 2, h => exact h
         | 3, h => exact h
         | 4, h => exact h
         | 5, h => exact h
         | 6, h => exact h
         | 7, h => exact h
         | 8, h => exact h
         | 9, h => exact h
         | 10, h => exact h
         | 11, h => exact h
         | 12, h => exact h
         | 13, h =>
          rcases hb.2.2.2.2.2 (Array.getElem?_eq_some_iff.1 h).1 with h2 | h2
          ·exact h2.trans h
          ·exact h2
         | 14, h => exact h
         | k + 15, h => exact trivial
        ·simp only [List.take_succ_cons, List.take_zero]
         refine SSteps.mk ?_ ?_
         ·intro xs w9 hw hw0 hd
          simp only [fill, Act.put, List.take_succ_cons, List.take_zero, List.drop_succ_cons, List.drop_zero, Nat.reduceAdd, Nat.zero_add, List.setIfInBounds_toArray, List.set_cons_succ, List.set_cons_zero, if_true, if_false, Nat.reduceEqDiff, reduceIte]
          go_wp2_with fail
          all_goals (first | exact BR.refl _ | exact ⟨BR.refl _, _, rfl, rfl⟩ | exact ⟨rfl, BR.refl _, _, rfl, rfl⟩ | (trace_state; fail))
         refine SSteps.mk ?_ ?_
         ·intro xs w9 hw hw0 hd
          simp only [fill, Act.put, List.take_succ_cons, List.take_zero, List.drop_succ_cons, List.drop_zero, Nat.reduceAdd, Nat.zero_add, List.setIfInBounds_toArray, List.set_cons_succ, List.set_cons_zero, if_true, if_false, Nat.reduceEqDiff, reduceIte]
          go_wp2_with fail
          all_goals (first | exact BR.refl _ | exact ⟨BR.refl _, _, rfl, rfl⟩ | exact ⟨rfl, BR.refl _, _, rfl, rfl⟩ | (trace_state; fail))
         refine SSteps.mk ?_ ?_
         ·intro xs w9 hw hw0 hd
          simp only [fill, Act.put, List.take_succ_cons, List.take_zero, List.drop_succ_cons, List.drop_zero, Nat.reduceAdd, Nat.zero_add, List.setIfInBounds_toArray, List.set_cons_succ, List.set_cons_zero, if_true, if_false, Nat.reduceEqDiff, reduceIte]
          go_wp2_with fail
          all_goals (first | exact BR.refl _ | exact ⟨BR.refl _, _, rfl, rfl⟩ | exact ⟨rfl, BR.refl _, _, rfl, rfl⟩ | (trace_state; fail))
         refine SSteps.mk ?_ ?_
         ·intro xs w9 hw hw0 hd
          simp only [fill, Act.put, List.take_succ_cons, List.take_zero, List.drop_succ_cons, List.drop_zero, Nat.reduceAdd, Nat.zero_add, List.setIfInBounds_toArray, List.set_cons_succ, List.set_cons_zero, if_true, if_false, Nat.reduceEqDiff, reduceIte]
          go_wp2_with fail
          all_goals (first | exact BR.refl _ | exact ⟨BR.refl _, _, rfl, rfl⟩ | exact ⟨rfl, BR.refl _, _, rfl, rfl⟩ | (trace_state; fail))
         refine SSteps.mk ?_ ?_
         ·intro xs w9 hw hw0 hd
          simp only [fill, Act.put, List.take_succ_cons, List.take_zero, List.drop_succ_cons, List.drop_zero, Nat.reduceAdd, Nat.zero_add, List.setIfInBounds_toArray, List.set_cons_succ, List.set_cons_zero, if_true, if_false, Nat.reduceEqDiff, reduceIte]
          go_wp2_with fail
          all_goals (first | exact BR.refl _ | exact ⟨BR.refl _, _, rfl, rfl⟩ | exact ⟨rfl, BR.refl _, _, rfl, rfl⟩ | (trace_state; fail))
         refine SSteps.mk ?_ ?_
         ·intro xs w9 hw hw0 hd
          simp only [fill, Act.put, List.take_succ_cons, List.take_zero, List.drop_succ_cons, List.drop_zero, Nat.reduceAdd, Nat.zero_add, List.setIfInBounds_toArray, List.set_cons_succ, List.set_cons_zero, if_true, if_false, Nat.reduceEqDiff, reduceIte]
          go_wp2_with fail
          all_goals (first | exact BR.refl _ | exact ⟨BR.refl _, _, rfl, rfl⟩ | exact ⟨rfl, BR.refl _, _, rfl, rfl⟩ | (trace_state; fail))
         refine SSteps.mk ?_ ?_
         ·intro xs w9 hw hw0 hd
          have f4 : xs 4 = .slice (some ⟨g, 0, none⟩) L cap := hd 4 (by kernel_rfl)
          have f5 : xs 5 = .int .i64 (k : Int) := hd 5 (by kernel_rfl)
          simp only [fill, Act.put, List.take_succ_cons, List.take_zero, List.drop_succ_cons, List.drop_zero, Nat.reduceAdd, Nat.zero_add, List.setIfInBounds_toArray, List.set_cons_succ, List.set_cons_zero, if_true, if_false, Nat.reduceEqDiff, reduceIte]
          simp only [f4]
          simp only [f5]
          go_wp2_with fail
          all_goals (first | exact BR.refl _ | exact ⟨BR.refl _, _, rfl, rfl⟩ | exact ⟨rfl, BR.refl _, _, rfl, rfl⟩ | (trace_state; fail))
         refine SSteps.mk ?_ ?_
         ·intro xs w9 hw hw0 hd
          have f6 : xs 6 = .pointer (some ⟨g, k, none⟩) := hd 6 (by kernel_rfl)
          obtain ⟨u, rfl⟩ := BR.split (hw0 (by decide))
          simp only [fill, Act.put, List.take_succ_cons, List.take_zero, List.drop_succ_cons, List.drop_zero, Nat.reduceAdd, Nat.zero_add, List.setIfInBounds_toArray, List.set_cons_succ, List.set_cons_zero, if_true, if_false, Nat.reduceEqDiff, reduceIte]
          simp only [f6]
          go_wp2_with fail
          all_goals (first | exact BR.refl _ | exact ⟨BR.refl _, _, rfl, rfl⟩ | exact ⟨rfl, BR.refl _, _, rfl, rfl⟩ | (trace_state; fail))
         refine SSteps.mk ?_ ?_
         ·intro xs w9 hw hw0 hd
          simp only [fill, Act.put, List.take_succ_cons, List.take_zero, List.drop_succ_cons, List.drop_zero, Nat.reduceAdd, Nat.zero_add, List.setIfInBounds_toArray, List.set_cons_succ, List.set_cons_zero, if_true, if_false, Nat.reduceEqDiff, reduceIte]
          go_wp2_with fail
          all_goals (first | exact BR.refl _ | exact ⟨BR.refl _, _, rfl, rfl⟩ | exact ⟨rfl, BR.refl _, _, rfl, rfl⟩ | (trace_state; fail))
         refine SSteps.mk ?_ ?_
         ·intro xs w9 hw hw0 hd
          simp only [fill, Act.put, List.take_succ_cons, List.take_zero, List.drop_succ_cons, List.drop_zero, Nat.reduceAdd, Nat.zero_add, List.setIfInBounds_toArray, List.set_cons_succ, List.set_cons_zero, if_true, if_false, Nat.reduceEqDiff, reduceIte]
          go_wp2_with fail
          all_goals (first | exact BR.refl _ | exact ⟨BR.refl _, _, rfl, rfl⟩ | exact ⟨rfl, BR.refl _, _, rfl, rfl⟩ | (trace_state; fail))
         refine SSteps.mk ?_ ?_
         ·intro xs w9 hw hw0 hd
          have f8 : xs 8 = .slice (some ⟨g, 0, none⟩) L cap := hd 8 (by kernel_rfl)
          have f9 : xs 9 = .int .i64 (t : Int) := hd 9 (by kernel_rfl)
          simp only [fill, Act.put, List.take_succ_cons, List.take_zero, List.drop_succ_cons, List.drop_zero, Nat.reduceAdd, Nat.zero_add, List.setIfInBounds_toArray, List.set_cons_succ, List.set_cons_zero, if_true, if_false, Nat.reduceEqDiff, reduceIte]
          simp only [f8]
          simp only [f9]
          go_wp2_with fail
          all_goals (first | exact BR.refl _ | exact ⟨BR.refl _, _, rfl, rfl⟩ | exact ⟨rfl, BR.refl _, _, rfl, rfl⟩ | (trace_state; fail))
         refine SSteps.mk ?_ ?_
         ·intro xs w9 hw hw0 hd
          have f10 : xs 10 = .pointer (some ⟨g, t, none⟩) := hd 10 (by kernel_rfl)
          obtain ⟨u, rfl⟩ := BR.split (hw0 (by decide))
          simp only [fill, Act.put, List.take_succ_cons, List.take_zero, List.drop_succ_cons, List.drop_zero, Nat.reduceAdd, Nat.zero_add, List.setIfInBounds_toArray, List.set_cons_succ, List.set_cons_zero, if_true, if_false, Nat.reduceEqDiff, reduceIte]
          simp only [f10]
          go_wp2_with fail
          all_goals (first | exact BR.refl _ | exact ⟨BR.refl _, _, rfl, rfl⟩ | exact ⟨rfl, BR.refl _, _, rfl, rfl⟩ | (trace_state; fail))
         refine SSteps.mk ?_ ?_
         ·intro xs w9 hw hw0 hd
          have f0 : xs 0 = .slice (some ⟨g, 0, none⟩) L cap := hd 0 (by kernel_rfl)
          have f1 : xs 1 = .int .i64 (t : Int) := hd 1 (by kernel_rfl)
          simp only [fill, Act.put, List.take_succ_cons, List.take_zero, List.drop_succ_cons, List.drop_zero, Nat.reduceAdd, Nat.zero_add, List.setIfInBounds_toArray, List.set_cons_succ, List.set_cons_zero, if_true, if_false, Nat.reduceEqDiff, reduceIte]
          simp only [f0]
          simp only [f1]
          go_wp2_with fail
          all_goals (first | exact BR.refl _ | exact ⟨BR.refl _, _, rfl, rfl⟩ | exact ⟨rfl, BR.refl _, _, rfl, rfl⟩ | (trace_state; fail))
         refine SSteps.mk ?_ ?_
         ·intro xs w9 hw hw0 hd
          have f7 : xs 7 = .int .u8 (bk : Int) := hd 7 (by kernel_rfl)
          have f11 : xs 11 = .int .u8 (bt : Int) := hd 11 (by kernel_rfl)
          have f12 : xs 12 = .pointer (some ⟨g, t, none⟩) := hd 12 (by kernel_rfl)
          obtain ⟨u, rfl⟩ := BR.split (hw0 (by decide))
          simp only [fill, Act.put, List.take_succ_cons, List.take_zero, List.drop_succ_cons, List.drop_zero, Nat.reduceAdd, Nat.zero_add, List.setIfInBounds_toArray, List.set_cons_succ, List.set_cons_zero, if_true, if_false, Nat.reduceEqDiff, reduceIte]
          simp only [f7]
          simp only [f11]
          simp only [f12]
          rw [← eW.out]
          have hgt := HGT.out
          go_wp2_with fail
          all_goals (rw [← HC1.out]; exact ⟨(SR.store hkg).1, (Array.getElem?_eq_some_iff.1 (SR.store (c := cs) hkg).2).2⟩)
         refine SSteps.mk ?_ ?_
         ·intro xs w9 hw hw0 hd
          have f2 : xs 2 = .slice (some ⟨g, 0, none⟩) L cap := hd 2 (by kernel_rfl)
          have f3 : xs 3 = .int .i64 (k : Int) := hd 3 (by kernel_rfl)
          simp only [fill, Act.put, List.take_succ_cons, List.take_zero, List.drop_succ_cons, List.drop_zero, Nat.reduceAdd, Nat.zero_add, List.setIfInBounds_toArray, List.set_cons_succ, List.set_cons_zero, if_true, if_false, Nat.reduceEqDiff, reduceIte]
          simp only [f2]
          simp only [f3]
          go_wp2_with fail
          all_goals (first | exact BR.refl _ | exact ⟨BR.refl _, _, rfl, rfl⟩ | exact ⟨rfl, BR.refl _, _, rfl, rfl⟩ | (trace_state; fail))
         exact trivial
        ·intro xs w9 hw hd
         have f13 : w9.heap[g]? = some (.cells c1 5 (0, 0)) := hd 13 (by decide)
         have f14 : xs 14 = .pointer (some ⟨g, k, none⟩) := hd 14 (by decide)
         have f11 : xs 11 = .int .u8 (bt : Int) := hd 11 (by decide)
         rw [← eW.out] at hw
         obtain ⟨u, rfl⟩ := SR.at_end hkg hw f13
         simp only [fill, Act.put, List.take_succ_cons, List.take_zero, List.drop_succ_cons, List.drop_zero, Nat.reduceAdd, Nat.zero_add, List.setIfInBounds_toArray, List.set_cons_succ, List.set_cons_zero, if_true, if_false, Nat.reduceEqDiff, reduceIte]
         simp only [f14, f11]
         have hgk : c1[k]? = some (.int .u8 (bk : Int)) := by rw [HC1.out, Array.getElem?_setIfInBounds_ne (by have := HK.out; omega)]; exact HGK.out
         clear hd hw f13 eW
         go_wp2_with fail
         have hkt : t < k := by omega
         have hK := HK.out
         refine ⟨⟨t + 1, _, by omega, by go_num, ⟨_, rfl, by omega⟩, (World.heap_plus _ _ _ (by rw [World.size_row]; exact hkg)).trans (World.heap_row_same _ _ _ _ hkg), Lib.hid fun p hp => ?_, by (repeat' (first | (with_reducible first | exact Below.refl _ _ | assumption | refine Below.plus0 ?_ _ | refine Below.row ?_ ?_ _ _ | refine Below.alloc0 ?_ _ | refine Below.plus ?_ ?_ _ | refine Below.alloc ?_ ?_ _ | refine Below.drew ?_ | refine Below.drewN ?_ _) | (simp [go_sem]; done) | (simp [go_sem]; omega)))⟩, by simp [intOf]; omega⟩
         by_cases hpk : p = k
         ·rw [hpk, Array.getElem?_setIfInBounds_self_of_lt (Array.getElem?_eq_some_iff.1 hgk).1, if_pos (by omega), show L - 1 - k = t by omega, HBT.out]
         ·rw [Array.getElem?_setIfInBounds_ne (Ne.symm hpk), HC1.out]
          by_cases hpt : p = t
          ·rw [hpt, Array.getElem?_setIfInBounds_self_of_lt (Array.getElem?_eq_some_iff.1 HGT.out).1, if_pos (by omega), show L - 1 - t = k by omega, HBK.out]
          ·rw [Array.getElem?_setIfInBounds_ne (Ne.symm hpt), HC.out p hp]
           by_cases h3 : p < t ∨ L ≤ p + t
           ·rw [if_pos h3, if_pos (by omega)]
           ·rw [if_neg h3, if_neg (by omega)]
       ·have hlt2 : ¬ ((t : Int) < kk) := hlt
        have hlt3 : decide ((t : Int) < kk) = false := decide_eq_false hlt
        have hall : ∀ p, p < L → wr.cell? ⟨g, p, none⟩ = some (.int .u8 ((Bf (L - 1 - p) : Nat) : Int)) := fun p hp => by
         rw [cell_at hrow, HC.out p hp]
         by_cases hpt : p < t ∨ L ≤ p + t
         ·rw [if_pos hpt]
         ·rw [if_neg hpt]
          have e : L - 1 - p = p := by omega
          rw [e]
        have hcv := convG wr g L cap (fun p => Bf (L - 1 - p)) hall
        rw [HSTR.out] at hcv
        clear hall hkk hrow HC
        go_wp2_with fail
        go_ret
        exact ⟨rfl, by assumption⟩
     ·have hsz : V.heap.size + 1 ≤ wr.heap.size := by have := hbel.size; rw [World.size_alloc] at this; exact this
      go_wp2_with (first | (at_builtin; refine wpList_append_own _ rfl _ _ 157 rfl (V.heap.size + 1) 5 i0 (.int .u8 0) 1 1 Tryz.underlying157 hi hz0 hz1 hz2 rfl (by decide) _ _ _ rfl (hownk.alloc _) ⟨wr.heap.size, 0, none⟩ 1 1 [.int .u8 45] rfl rfl ?m1 ?m2 ?m3 ?m4 ?m5 ?_) | go_in)
      case m2 => first | rfl | (intro u hu; simp at hu; subst hu; rfl)
      case m3 => unfold maxLen; omega
      case m4 => omega
      case m5 => first | omega | (simp; done) | (simp; omega)
      intro v' w1 hown' hgrow _
      have hb2 : Below (V.heap.size + 1) (V.alloc (.cells (arr .u32 (dg Xt) n) 162)) w1 := (hbel.alloc hsz _).grown hgrow (by first | omega | (simp; done) | (simp; omega)) fun k' hk' => (hownk.lt k' hk').1
      clear hownk hgrow hbel
      obtain ⟨g, cap, rfl, hc2⟩ := owns_form hown' (by omega)
      go_wp2_with fail
      have hown2 := hown'
      obtain ⟨cur, hcur, hcb⟩ := owns_bytes (Bf := bfN X k) hown2 fun p hp => by
       have hlen : (dv8 X k).length = k := by unfold dv8; simp
       by_cases hpk : p < k
       ·rw [List.getElem?_append_left (by omega), dv8_get X k p hpk]
        unfold bfN; rw [if_pos hpk]
       ·have e : p = k := by omega
        subst e
        rw [List.getElem?_append_right (by omega), hlen, Nat.sub_self]
        unfold bfN; rw [if_neg (by omega)]; rfl
      have HSTR : Hid (strFn (fun p => bfN X k (k + 1 - 1 - p)) (k + 1) = ⟨(45 :: decS X).toArray⟩) := Lib.hid (str_neg X k HE.out)
      have hbelw : Below w.heap.size w w1 := by
       have h1 := hb2.mono (show w.heap.size ≤ V.heap.size + 1 by have := HVs.out; omega)
       exact (hVb.alloc (by have := HVs.out; omega) _).trans h1
      have hgw : w.heap.size ≤ g := by have h1 := (hown2.lt g rfl).1; have := HVs.out; omega
      have hLb : k + 1 ≤ 3145738 := by omega
      obtain ⟨Bf, hBf⟩ : ∃ B, B = bfN X k := ⟨_, rfl⟩
      rw [← hBf] at hcb HSTR
      have HB := Lib.hid hcb
      obtain ⟨L, hL⟩ : ∃ L, L = k + 1 := ⟨_, rfl⟩
      have HJL : Hid ((k : Int) + 1 = (L : Int)) := Lib.hid (by omega)
      have hL2 : (k : Int) + 1 = (L : Int) := by omega
      rw [← hL] at HB HSTR hLb ⊢
      try rw [hL2]
      clear hL hcb hBf hown' hown2 hb2 HE hbyte hL2
      generalize w1 = wr0 at hcur hbelw ⊢
      go_loopw [6, 7] (fun iv kv wr => ∃ (t : Nat) (cs : Array Value), t ≤ L ∧ iv = .int .i64 (t : Int) ∧ (∃ kk : Int, kv = .int .i64 kk ∧ kk + 1 + (t : Int) = (L : Int)) ∧ wr.heap[g]? = some (.cells cs 5 (0, 0)) ∧ Hid (∀ p, p < L → cs[p]? = some (.int .u8 ((if p < t ∨ L ≤ p + t then Bf (L - 1 - p) else Bf p : Nat) : Int))) ∧ Below w.heap.size w wr) (fun iv _ _ => L - (intOf iv).toNat)
      case atStart => exact ⟨0, cur, Nat.zero_le _, rfl, ⟨_, rfl, by have := HJL.out; omega⟩, hcur, Lib.hid fun p hp => by rw [if_neg (by omega)]; exact HB.out p hp, hbelw⟩
      case round =>
       obtain ⟨t, cs, htL, rfl, ⟨kk, rfl, hkk⟩, hrow, HC, hbel⟩ := hrel
       by_cases hlt : (t : Int) < kk
       ·obtain ⟨k, hk⟩ : ∃ k : Nat, k + t + 1 = L := ⟨L - 1 - t, by omega⟩
        have ek : kk = (k : Int) := by omega
        subst ek
        have hkL : (k : Int) < (L : Int) := by omega
        have htL2 : (t : Int) < (L : Int) := by omega
        obtain ⟨bk, hbk⟩ : ∃ z, z = Bf k := ⟨_, rfl⟩
        obtain ⟨bt, hbt⟩ : ∃ z, z = Bf t := ⟨_, rfl⟩
        have hgk : cs[k]? = some (.int .u8 (bk : Int)) := by rw [HC.out k (by omega), if_neg (by omega), hbk]
        have hgt : cs[t]? = some (.int .u8 (bt : Int)) := by rw [HC.out t (by omega), if_neg (by omega), hbt]
        have hck : wr.cell? ⟨g, k, none⟩ = some (.int .u8 (bk : Int)) := (cell_at hrow).trans hgk
        have hct : wr.cell? ⟨g, t, none⟩ = some (.int .u8 (bt : Int)) := (cell_at hrow).trans hgt
        have HBK := Lib.hid hbk
        have HBT := Lib.hid hbt
        have HK := Lib.hid hk
        have HGK := Lib.hid hgk
        have HGT := Lib.hid hgt
        clear hbk hbt hk hkk hgk hgt
        go_wp2_with fail
        have eW := Lib.hid (World.row_self wr _ _ _ hrow)
        have hkg : g < wr.heap.size := (Array.getElem?_eq_some_iff.1 hrow).1
        obtain ⟨c1, hc1⟩ : ∃ z, z = cs.setIfInBounds t (Value.int .u8 (bk : Int)) := ⟨_, rfl⟩
        have HC1 := Lib.hid hc1
        clear hc1
        refine wp_region_sto_t (Rel0 := BR) (Rel := SR g (.cells c1 5 (0, 0))) 15 13 [7, 11] (fun i v w9 => match i with
            | 0 => v = .slice (some ⟨g, 0, none⟩) L cap
            | 1 => v = .int .i64 (t : Int)
            | 2 => v = .slice (some ⟨g, 0, none⟩) L cap
            | 3 => v = .int .i64 (k : Int)
            | 4 => v = .slice (some ⟨g, 0, none⟩) L cap
            | 5 => v = .int .i64 (k : Int)
            | 6 => v = .pointer (some ⟨g, k, none⟩)
            | 7 => v = .int .u8 (bk : Int)
            | 8 => v = .slice (some ⟨g, 0, none⟩) L cap
            | 9 => v = .int .i64 (t : Int)
            | 10 => v = .pointer (some ⟨g, t, none⟩)
            | 11 => v = .int .u8 (bt : Int)
            | 12 => v = .pointer (some ⟨g, t, none⟩)
            | 13 => w9.heap[g]? = some (.cells c1 5 (0, 0))
            | 14 => v = .pointer (some ⟨g, k, none⟩)
            | _ => True) (by kernel_rfl) (by kernel_rfl) (by kernel_rfl) (fun _ _ _ => SR.trans) (fun _ _ _ => BR.trans) (fun _ _ => SR.of_below) ⟨rfl, rfl, rfl, Nat.le_refl _, fun _ _ => rfl⟩ ?_ ?_ ?_
        ·intro i v w1 w2 hb h
         match i, h with
         | 0, h => exact h
         | 1, h => exact h
         | 2, h => exact h
         | 3, h => exact h
         | 4, h => exact h
         | 5, h => exact h
         | 6, h => exact h
         | 7, h => exact h
         | 8, h => exact h
         | 9, h => exact h
         | 10, h => exact h
         | 11, h => exact h
         | 12, h => exact h
         | 13, h =>
          rcases hb.2.2.2.2.2 (Array.getElem?_eq_some_iff.1 h).1 with h2 | h2
          ·exact h2.trans h
          ·exact h2
         | 14, h => exact h
         | k + 15, h => exact trivial
        ·simp only [List.take_succ_cons, List.take_zero]
         refine SSteps.mk ?_ ?_
         ·intro xs w9 hw hw0 hd
          simp only [fill, Act.put, List.take_succ_cons, List.take_zero, List.drop_succ_cons, List.drop_zero, Nat.reduceAdd, Nat.zero_add, List.setIfInBounds_toArray, List.set_cons_succ, List.set_cons_zero, if_true, if_false, Nat.reduceEqDiff, reduceIte]
          go_wp2_with fail
          all_goals (first | exact BR.refl _ | exact ⟨BR.refl _, _, rfl, rfl⟩ | exact ⟨rfl, BR.refl _, _, rfl, rfl⟩ | (trace_state; fail))
         refine SSteps.mk ?_ ?_
         ·intro xs w9 hw hw0 hd
          simp only [fill, Act.put, List.take_succ_cons, List.take_zero, List.drop_succ_cons, List.drop_zero, Nat.reduceAdd, Nat.zero_add, List.setIfInBounds_toArray, List.set_cons_succ, List.set_cons_zero, if_true, if_false, Nat.reduceEqDiff, reduceIte]
          go_wp2_with fail
          all_goals (first | exact BR.refl _ | exact ⟨BR.refl _, _, rfl, rfl⟩ | exact ⟨rfl, BR.refl _, _, rfl, rfl⟩ | (trace_state; fail))
         refine SSteps.mk ?_ ?_
         ·intro xs w9 hw hw0 hd
          simp only [fill, Act.put, List.take_succ_cons, List.take_zero, List.drop_succ_cons, List.drop_zero, Nat.reduceAdd, Nat.zero_add, List.setIfInBounds_toArray, List.set_cons_succ, List.set_cons_zero, if_true, if_false, Nat.reduceEqDiff, reduceIte]
          go_wp2_with fail
          all_goals (first | exact BR.refl _ | exact ⟨BR.refl _, _, rfl, rfl⟩ | exact ⟨rfl, BR.refl _, _, rfl, rfl⟩ | (trace_state; fail))
         refine SSteps.mk ?_ ?_
         ·intro xs w9 hw hw0 hd
          simp only [fill, Act.put, List.take_succ_cons, List.take_zero, List.drop_succ_cons, List.drop_zero, Nat.reduceAdd, Nat.zero_add, List.setIfInBounds_toArray, List.set_cons_succ, List.set_cons_zero, if_true, if_false, Nat.reduceEqDiff, reduceIte]
          go_wp2_with fail
          all_goals (first | exact BR.refl _ | exact ⟨BR.refl _, _, rfl, rfl⟩ | exact ⟨rfl, BR.refl _, _, rfl, rfl⟩ | (trace_state; fail))
         refine SSteps.mk ?_ ?_
         ·intro xs w9 hw hw0 hd
          simp only [fill, Act.put, List.take_succ_cons, List.take_zero, List.drop_succ_cons, List.drop_zero, Nat.reduceAdd, Nat.zero_add, List.setIfInBounds_toArray, List.set_cons_succ, List.set_cons_zero, if_true, if_false, Nat.reduceEqDiff, reduceIte]
          go_wp2_with fail
          all_goals (first | exact BR.refl _ | exact ⟨BR.refl _, _, rfl, rfl⟩ | exact ⟨rfl, BR.refl _, _, rfl, rfl⟩ | (trace_state; fail))
         refine SSteps.mk ?_ ?_
         ·intro xs w9 hw hw0 hd
          simp only [fill, Act.put, List.take_succ_cons, List.take_zero, List.drop_succ_cons, List.drop_zero, Nat.reduceAdd, Nat.zero_add, List.setIfInBounds_toArray, List.set_cons_succ, List.set_cons_zero, if_true, if_false, Nat.reduceEqDiff, reduceIte]
          go_wp2_with fail
          all_goals (first | exact BR.refl _ | exact ⟨BR.refl _, _, rfl, rfl⟩ | exact ⟨rfl, BR.refl _, _, rfl, rfl⟩ | (trace_state; fail))
         refine SSteps.mk ?_ ?_
         ·intro xs w9 hw hw0 hd
          have f4 : xs 4 = .slice (some ⟨g, 0, none⟩) L cap := hd 4 (by kernel_rfl)
          have f5 : xs 5 = .int .i64 (k : Int) := hd 5 (by kernel_rfl)
          simp only [fill, Act.put, List.take_succ_cons, List.take_zero, List.drop_succ_cons, List.drop_zero, Nat.reduceAdd, Nat.zero_add, List.setIfInBounds_toArray, List.set_cons_succ, List.set_cons_zero, if_true, if_false, Nat.reduceEqDiff, reduceIte]
          simp only [f4]
          simp only [f5]
          go_wp2_with fail
          all_goals (first | exact BR.refl _ | exact ⟨BR.refl _, _, rfl, rfl⟩ | exact ⟨rfl, BR.refl _, _, rfl, rfl⟩ | (trace_state; fail))
         refine SSteps.mk ?_ ?_
         ·intro xs w9 hw hw0 hd
          have f6 : xs 6 = .pointer (some ⟨g, k, none⟩) := hd 6 (by kernel_rfl)
          obtain ⟨u, rfl⟩ := BR.split (hw0 (by decide))
          simp only [fill, Act.put, List.take_succ_cons, List.take_zero, List.drop_succ_cons, List.drop_zero, Nat.reduceAdd, Nat.zero_add, List.setIfInBounds_toArray, List.set_cons_succ, List.set_cons_zero, if_true, if_false, Nat.reduceEqDiff, reduceIte]
          simp only [f6]
          go_wp2_with fail
          all_goals (first | exact BR.refl _ | exact ⟨BR.refl _, _, rfl, rfl⟩ | exact ⟨rfl, BR.refl _, _, rfl, rfl⟩ | (trace_state; fail))
         refine SSteps.mk ?_ ?_
         ·intro xs w9 hw hw0 hd
          simp only [fill, Act.put, List.take_succ_cons, List.take_zero, List.drop_succ_cons, List.drop_zero, Nat.reduceAdd, Nat.zero_add, List.setIfInBounds_toArray, List.set_cons_succ, List.set_cons_zero, if_true, if_false, Nat.reduceEqDiff, reduceIte]
          go_wp2_with fail
          all_goals (first | exact BR.refl _ | exact ⟨BR.refl _, _, rfl, rfl⟩ | exact ⟨rfl, BR.refl _, _, rfl, rfl⟩ | (trace_state; fail))
         refine SSteps.mk ?_ ?_
         ·intro xs w9 hw hw0 hd
          simp only [fill, Act.put, List.take_succ_cons, List.take_zero, List.drop_succ_cons, List.drop_zero, Nat.reduceAdd, Nat.zero_add, List.setIfInBounds_toArray, List.set_cons_succ, List.set_cons_zero, if_true, if_false, Nat.reduceEqDiff, reduceIte]
          go_wp2_with fail
          all_goals (first | exact BR.refl _ | exact ⟨BR.refl _, _, rfl, rfl⟩ | exact ⟨rfl, BR.refl _, _, rfl, rfl⟩ | (trace_state; fail))
         refine SSteps.mk ?_ ?_
         ·intro xs w9 hw hw0 hd
          have f8 : xs 8 = .slice (some ⟨g, 0, none⟩) L cap := hd 8 (by kernel_rfl)
          have f9 : xs 9 = .int .i64 (t : Int) := hd 9 (by kernel_rfl)
          simp only [fill, Act.put, List.take_succ_cons, List.take_zero, List.drop_succ_cons, List.drop_zero, Nat.reduceAdd, Nat.zero_add, List.setIfInBounds_toArray, List.set_cons_succ, List.set_cons_zero, if_true, if_false, Nat.reduceEqDiff, reduceIte]
          simp only [f8]
          simp only [f9]
          go_wp2_with fail
          all_goals (first | exact BR.refl _ | exact ⟨BR.refl _, _, rfl, rfl⟩ | exact ⟨rfl, BR.refl _, _, rfl, rfl⟩ | (trace_state; fail))
         refine SSteps.mk ?_ ?_
         ·intro xs w9 hw hw0 hd
          have f10 : xs 10 = .pointer (some ⟨g, t, none⟩) := hd 10 (by kernel_rfl)
          obtain ⟨u, rfl⟩ := BR.split (hw0 (by decide))
          simp only [fill, Act.put, List.take_succ_cons, List.take_zero, List.drop_succ_cons, List.drop_zero, Nat.reduceAdd, Nat.zero_add, List.setIfInBounds_toArray, List.set_cons_succ, List.set_cons_zero, if_true, if_false, Nat.reduceEqDiff, reduceIte]
          simp only [f10]
          go_wp2_with fail
          all_goals (first | exact BR.refl _ | exact ⟨BR.refl _, _, rfl, rfl⟩ | exact ⟨rfl, BR.refl _, _, rfl, rfl⟩ | (trace_state; fail))
         refine SSteps.mk ?_ ?_
         ·intro xs w9 hw hw0 hd
          have f0 : xs 0 = .slice (some ⟨g, 0, none⟩) L cap := hd 0 (by kernel_rfl)
          have f1 : xs 1 = .int .i64 (t : Int) := hd 1 (by kernel_rfl)
          simp only [fill, Act.put, List.take_succ_cons, List.take_zero, List.drop_succ_cons, List.drop_zero, Nat.reduceAdd, Nat.zero_add, List.setIfInBounds_toArray, List.set_cons_succ, List.set_cons_zero, if_true, if_false, Nat.reduceEqDiff, reduceIte]
          simp only [f0]
          simp only [f1]
          go_wp2_with fail
          all_goals (first | exact BR.refl _ | exact ⟨BR.refl _, _, rfl, rfl⟩ | exact ⟨rfl, BR.refl _, _, rfl, rfl⟩ | (trace_state; fail))
         refine SSteps.mk ?_ ?_
         ·intro xs w9 hw hw0 hd
          have f7 : xs 7 = .int .u8 (bk : Int) := hd 7 (by kernel_rfl)
          have f11 : xs 11 = .int .u8 (bt : Int) := hd 11 (by kernel_rfl)
          have f12 : xs 12 = .pointer (some ⟨g, t, none⟩) := hd 12 (by kernel_rfl)
          obtain ⟨u, rfl⟩ := BR.split (hw0 (by decide))
          simp only [fill, Act.put, List.take_succ_cons, List.take_zero, List.drop_succ_cons, List.drop_zero, Nat.reduceAdd, Nat.zero_add, List.setIfInBounds_toArray, List.set_cons_succ, List.set_cons_zero, if_true, if_false, Nat.reduceEqDiff, reduceIte]
          simp only [f7]
          simp only [f11]
          simp only [f12]
          rw [← eW.out]
          have hgt := HGT.out
          go_wp2_with fail
          all_goals (rw [← HC1.out]; exact ⟨(SR.store hkg).1, (Array.getElem?_eq_some_iff.1 (SR.store (c := cs) hkg).2).2⟩)
         refine SSteps.mk ?_ ?_
         ·intro xs w9 hw hw0 hd
          have f2 : xs 2 = .slice (some ⟨g, 0, none⟩) L cap := hd 2 (by kernel_rfl)
          have f3 : xs 3 = .int .i64 (k : Int) := hd 3 (by kernel_rfl)
          simp only [fill, Act.put, List.take_succ_cons, List.take_zero, List.drop_succ_cons, List.drop_zero, Nat.reduceAdd, Nat.zero_add, List.setIfInBounds_toArray, List.set_cons_succ, List.set_cons_zero, if_true, if_false, Nat.reduceEqDiff, reduceIte]
          simp only [f2]
          simp only [f3]
          go_wp2_with fail
          all_goals (first | exact BR.refl _ | exact ⟨BR.refl _, _, rfl, rfl⟩ | exact ⟨rfl, BR.refl _, _, rfl, rfl⟩ | (trace_state; fail))
         exact trivial
        ·intro xs w9 hw hd
         have f13 : w9.heap[g]? = some (.cells c1 5 (0, 0)) := hd 13 (by decide)
         have f14 : xs 14 = .pointer (some ⟨g, k, none⟩) := hd 14 (by decide)
         have f11 : xs 11 = .int .u8 (bt : Int) := hd 11 (by decide)
         rw [← eW.out] at hw
         obtain ⟨u, rfl⟩ := SR.at_end hkg hw f13
         simp only [fill, Act.put, List.take_succ_cons, List.take_zero, List.drop_succ_cons, List.drop_zero, Nat.reduceAdd, Nat.zero_add, List.setIfInBounds_toArray, List.set_cons_succ, List.set_cons_zero, if_true, if_false, Nat.reduceEqDiff, reduceIte]
         simp only [f14, f11]
         have hgk : c1[k]? = some (.int .u8 (bk : Int)) := by rw [HC1.out, Array.getElem?_setIfInBounds_ne (by have := HK.out; omega)]; exact HGK.out
         clear hd hw f13 eW
         go_wp2_with fail
         have hkt : t < k := by omega
         have hK := HK.out
         refine ⟨⟨t + 1, _, by omega, by go_num, ⟨_, rfl, by omega⟩, (World.heap_plus _ _ _ (by rw [World.size_row]; exact hkg)).trans (World.heap_row_same _ _ _ _ hkg), Lib.hid fun p hp => ?_, by (repeat' (first | (with_reducible first | exact Below.refl _ _ | assumption | refine Below.plus0 ?_ _ | refine Below.row ?_ ?_ _ _ | refine Below.alloc0 ?_ _ | refine Below.plus ?_ ?_ _ | refine Below.alloc ?_ ?_ _ | refine Below.drew ?_ | refine Below.drewN ?_ _) | (simp [go_sem]; done) | (simp [go_sem]; omega)))⟩, by simp [intOf]; omega⟩
         by_cases hpk : p = k
         ·rw [hpk, Array.getElem?_setIfInBounds_self_of_lt (Array.getElem?_eq_some_iff.1 hgk).1, if_pos (by omega), show L - 1 - k = t by omega, HBT.out]
         ·rw [Array.getElem?_setIfInBounds_ne (Ne.symm hpk), HC1.out]
          by_cases hpt : p = t
          ·rw [hpt, Array.getElem?_setIfInBounds_self_of_lt (Array.getElem?_eq_some_iff.1 HGT.out).1, if_pos (by omega), show L - 1 - t = k by omega, HBK.out]
          ·rw [Array.getElem?_setIfInBounds_ne (Ne.symm hpt), HC.out p hp]
           by_cases h3 : p < t ∨ L ≤ p + t
           ·rw [if_pos h3, if_pos (by omega)]
           ·rw [if_neg h3, if_neg (by omega)]
       ·have hlt2 : ¬ ((t : Int) < kk) := hlt
        have hlt3 : decide ((t : Int) < kk) = false := decide_eq_false hlt
        have hall : ∀ p, p < L → wr.cell? ⟨g, p, none⟩ = some (.int .u8 ((Bf (L - 1 - p) : Nat) : Int)) := fun p hp => by
         rw [cell_at hrow, HC.out p hp]
         by_cases hpt : p < t ∨ L ≤ p + t
         ·rw [if_pos hpt]
         ·rw [if_neg hpt]
          have e : L - 1 - p = p := by omega
          rw [e]
        have hcv := convG wr g L cap (fun p => Bf (L - 1 - p)) hall
        rw [HSTR.out] at hcv
        clear hall hkk hrow HC
        go_wp2_with fail
        go_ret
        exact ⟨rfl, by assumption⟩
  ·have htb : 9 * t ≤ 3 * 1048576 := dec_bound X (9 * t) 1048576 HXS.out (by rw [← HXt.out]; omega)
   obtain ⟨k, hk⟩ : ∃ k, k = nd 4294967296 Xt := ⟨_, rfl⟩
   have hkp : 0 < k := by rw [hk]; exact nd_pos _ (by omega) Xt (by omega)
   have hkn : k ≤ n := by
    rw [hk, HN.out]; exact nd_mono _ (by omega) _ _ (by rw [HXt.out]; exact Nat.div_le_self _ _)
   have hXk : Xt < 4294967296 ^ k := by rw [hk]; exact lt_pow_nd _ (by omega) Xt
   rw [← hk]
   have hk2 : (0 : Int) < (k : Int) := by omega
   have hgr : wr.heap[V.heap.size]? = some (.cells (arr .u32 (dg Xt) n) 162 (0, 0)) := by
    rw [hbel.block _ (by omega)]; exact heap_at _ _ _ rfl
   have HSH0 := short_c Xt 1000000000 k n n V.heap.size wr hXk (by omega) hkn hgr (by omega) (by omega)
   rw [show ((1000000000 : Nat) : Int) = (1000000000 : Int) from rfl] at HSH0
   have HSH := Lib.hid HSH0
   clear HSH0
   have hlen := owns_len hown
   obtain ⟨Y, hY⟩ : ∃ Y, Y = Xt / 1000000000 := ⟨_, rfl⟩
   obtain ⟨r, hr⟩ : ∃ r, r = Xt % 1000000000 := ⟨_, rfl⟩
   rw [← hY, ← hr] at HSH
   have hYk : Y < 4294967296 ^ k := by rw [hY]; exact Nat.lt_of_le_of_lt (Nat.div_le_self _ _) hXk
   have HYX : Hid (Y = X / 10 ^ (9 * (t + 1))) := Lib.hid (by
    rw [hY, HXt.out, Nat.div_div_eq_div_mul, show 9 * (t + 1) = 9 * t + 9 by omega, Nat.pow_add])
   have HR : Hid (∀ i, i < 9 → r / 10 ^ i % 10 = X / 10 ^ (9 * t + i) % 10) := Lib.hid fun i h => by
    rw [hr, show (1000000000 : Nat) = 10 ^ 9 from rfl, low_dec Xt i h, HXt.out, Nat.div_div_eq_div_mul, ← Nat.pow_add]
   have hr9 : r < 1000000000 := by rw [hr]; exact Nat.mod_lt _ (by omega)
   have hYle : Y ≤ Xt := by rw [hY]; exact Nat.div_le_self _ _
   clear hk hY hr hgr h0 hXk
   go_wp2_with fail
   refine (HSH.out).mono ?_
   rintro e w' ⟨rfl, k2, rfl⟩
   have hown2 := row_owns (k := k2) (ty := 162) (c1 := arr .u32 (dg Y) n) hown (show V.heap.size < V.heap.size + 1 by omega)
   have hbel2 := row_below (k := k2) (c1 := arr .u32 (dg Y) n) hbel
   generalize (wr.row V.heap.size 162 (arr .u32 (dg Y) n)).drewN k2 = w2 at hown2 hbel2 ⊢
   clear hown hbel
   go_wp2_with fail
   go_loopw [3, 5, 21] (fun out rv cv wr => ∃ i : Nat, i ≤ 9 ∧ cv = .int .i64 (i : Int) ∧ rv = .int .u32 ((r / 10 ^ i : Nat) : Int) ∧ wr.ownsRow (V.heap.size + 1) 5 1 out (9 * t + i) (dv8 X (9 * t + i)) ∧ Below (V.heap.size + 1) (V.alloc (.cells (arr .u32 (dg Y) n) 162)) wr) (fun _ _ cv _ => 9 - (intOf cv).toNat)
   case atStart => exact ⟨0, Nat.zero_le _, rfl, by rw [Nat.pow_zero, Nat.div_one], hown2, hbel2⟩
   case round =>
    obtain ⟨i, hi9, rfl, rfl, hown, hbel⟩ := hrel
    have hsz : V.heap.size + 1 ≤ wr.heap.size := by have := hbel.size; rw [World.size_alloc] at this; exact this
    by_cases hlt : i < 9
    ·obtain ⟨ri, hri⟩ : ∃ z, z = r / 10 ^ i := ⟨_, rfl⟩
     obtain ⟨m, hm⟩ : ∃ z, z = ri % 10 := ⟨_, rfl⟩
     obtain ⟨r1, hr1⟩ : ∃ z, z = ri / 10 := ⟨_, rfl⟩
     obtain ⟨d, hd⟩ : ∃ z, z = 48 + m := ⟨_, rfl⟩
     have hmX : m = X / 10 ^ (9 * t + i) % 10 := by rw [hm, hri]; exact HR.out i hlt
     have hr1n : r1 = r / 10 ^ (i + 1) := by rw [hr1, hri, Nat.div_div_eq_div_mul, ← Nat.pow_succ]
     have hril : ri < 4294967296 := by rw [hri]; exact Nat.lt_of_le_of_lt (Nat.div_le_self _ _) (by omega)
     have Hs : Hid (dv8 X (9 * t + i) ++ [Value.int .u8 ((d : Nat) : Int)] = dv8 X (9 * t + (i + 1))) := Lib.hid (by rw [hd, hmX, dv8_succ]; rfl)
     have d1 : (48 : Int) + (m : Int) = (d : Int) := by omega
     have d2 : (d : Int) % 256 = (d : Int) := by omega
     have d3 : d < 256 := by omega
     have hm10 : m < 10 := by omega
     have hr1l : r1 < 4294967296 := by omega
     have Hr1 := Lib.hid hr1n
     have Hed : Hid ((ri : Int) / 10 = (r1 : Int)) := Lib.hid (by rw [hr1]; rfl)
     have hi2 : (i : Int) < 9 := by omega
     rw [← hri]
     have em : (ri : Int).tmod 10 = (m : Int) := by rw [hm]; exact Int.ofNat_tmod ri 10
     have ed : (ri : Int).tdiv 10 = (r1 : Int) := by rw [hr1]; exact Int.ofNat_tdiv ri 10
     clear hri hm hr1 hd hmX hr1n
     go_wp2_with (first | (at_builtin; refine wpList_append_own _ rfl _ _ 157 rfl (V.heap.size + 1) 5 i0 (.int .u8 0) 1 1 Tryz.underlying157 hi hz0 hz1 hz2 rfl (by decide) _ _ _ rfl (hown.alloc _) ⟨wr.heap.size, 0, none⟩ 1 1 [.int .u8 (d : Nat)] rfl rfl ?c1 ?c2 ?c3 ?c4 ?c5 ?_) | go_in)
     all_goals clear em ed
     case c1 =>
      intro j u hj
      match j, hj with
      | 0, hj => simp at hj; subst hj; simp [Addr.add]
     case c2 => intro u hu; simp at hu; subst hu; rfl
     case c3 => unfold maxLen; omega
     case c4 => omega
     case c5 => first | omega | (simp; done) | (simp; omega)
     intro v' w1 hown' hgrow _
     rw [Hs.out] at hown'
     have hb2 : Below (V.heap.size + 1) (V.alloc (.cells (arr .u32 (dg Y) n) 162)) w1 := (hbel.alloc hsz _).grown hgrow (by first | omega | (simp; done) | (simp; omega)) fun k' hk' => (hown.lt k' hk').1
     clear hown hgrow hbel
     go_wp2
     go_roundw
     case rel => exact ⟨i + 1, by omega, by go_num, by rw [← Hr1.out, ← Hed.out], hown', hb2⟩
     case measure => first | (simp [intOf]; done) | (simp [intOf]; omega)
    ·have e : i = 9 := by omega
     subst e
     have hrow : Row32 wr V.heap.size k (dg Y) := fun j hj => by
      rw [hbel.cell (p := ⟨V.heap.size, j, none⟩) (by show V.heap.size < _; omega), World.cell?_alloc_new]
      exact arr_get .u32 (dg Y) n j (by omega)
     have HT := Lib.hid (trim_c Y k n V.heap.size wr hYk (by omega) hkn hrow)
     have hl2 := owns_len hown
     clear hrow
     go_wp2_with fail
     refine (HT.out).mono ?_
     rintro e w' ⟨rfl, rfl⟩
     go_wp2_with fail
     exact ⟨⟨t + 1, Y, by omega, HYX, rfl, by rw [show 9 * (t + 1) = 9 * t + 9 by omega]; exact hown, hbel⟩, by rw [hl2, hlen]; omega⟩
theorem Print_c (x : Int) (w : World) (hx : (mg x).size ≤ 1048576) : Calls Tryz.prog 125 #[.agg #[.bool (sg x), .string (mg x)]] w fun e w' => e = .returned (.string (printS x)) ∧ Below w.heap.size w w' := by
 by_cases h0 : x = 0
 ·subst h0
  rw [show printS 0 = ⟨#[48]⟩ from rfl, show mg 0 = ⟨#[]⟩ from rfl, sg_zero]
  go_enter Tryz.func125, Tryz.ntmps125
  go_wp2
  go_ret
  exact ⟨rfl, by (repeat' (first | (with_reducible first | exact Below.refl _ _ | assumption | refine Below.plus0 ?_ _ | refine Below.alloc0 ?_ _ | refine Below.plus ?_ ?_ _ | refine Below.alloc ?_ ?_ _ | refine Below.drew ?_ | refine Below.drewN ?_ _) | (simp [go_sem]; done) | (simp [go_sem]; omega)))⟩
 ·have h := Print_pos (sg x) x.natAbs w (by omega) hx
  have e : (if sg x then (⟨(45 :: decS x.natAbs).toArray⟩ : ByteArray) else ⟨(decS x.natAbs).toArray⟩) = printS x := by
   unfold printS
   rw [if_neg h0]
   by_cases h1 : x < 0
   ·rw [sg_true x h1, if_pos rfl, if_pos h1]
   ·rw [sg_false x (by omega), if_neg (by decide), if_neg h1]
  rw [e] at h
  exact h
end Go.Proofs.YthdaimoankaciaaGreatDoor
