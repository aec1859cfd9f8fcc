/- Part 8 of the proof; what it holds is said text by text. -/
import Derived.Test.YthdaimoankaciaaGreatDoorRpG
import Derived.Test.YthdaimoankaciaaGreatDoorRpD
import Derived.OwnWalk
import Derived.Test.YthdaimoankaciaaGreatDoorRpA
import Derived.Test.YthdaimoankaciaaGreatDoorRpE
import Derived.Lib.OthersKept
import Derived.Laws.RangeAny
import Derived.WalkSmall
import Derived.Laws.RangeString
import Derived.Deep.DeepCutAuto
import Derived.Deep.CutBlock
import Derived.Lib.TrimByte
import Derived.Lib.IndexMore
section
set_option linter.unusedSimpArgs false
set_option linter.unusedVariables false
namespace Go.Proofs.YthdaimoankaciaaGreatDoor
open Go Go.RowKit
open Vi
def dv8 (X k : Nat) : List Value := (List.range k).map fun i => Value.int .u8 ((48 + X / 10 ^ i % 10 : Nat) : Int)
theorem dv8_succ (X k : Nat) : dv8 X k ++ [Value.int .u8 ((48 + X / 10 ^ k % 10 : Nat) : Int)] = dv8 X (k + 1) := by unfold dv8; simp [List.range_succ]
theorem info5 : (Tryz.prog.info? 5).map (fun i => (i.zero, i.size, i.bytes)) = some (some (.int .u8 0), 1, 1) := by kernel_rfl
theorem low_dec (x i : Nat) (h : i < 9) : x % 10 ^ 9 / 10 ^ i % 10 = x / 10 ^ i % 10 := by
 have e : (10 : Nat) ^ 9 = 10 ^ i * 10 ^ (9 - i) := by rw [← Nat.pow_add, show i + (9 - i) = 9 by omega]
 rw [e, Nat.mod_mul_right_div_self]
 have e2 : (10 : Nat) ^ (9 - i) = 10 * 10 ^ (8 - i) := by rw [show 9 - i = 8 - i + 1 by omega, Nat.pow_succ, Nat.mul_comm]
 rw [e2, Nat.mod_mul_right_mod]
theorem row_below {V wr : World} {k : Nat} {ty : TypeId} {c0 c1 : Array Value} (h : Below (V.heap.size + 1) (V.alloc (.cells c0 ty (0, 0))) wr) : Below (V.heap.size + 1) (V.alloc (.cells c1 ty (0, 0))) ((wr.row V.heap.size ty c1).drewN k) := by
 have hs : V.heap.size + 1 ≤ wr.heap.size := by have := h.size; rw [World.size_alloc] at this; exact this
 refine ⟨h.os, h.tape, h.output, ?_, fun j hj => ?_⟩
 ·show _ ≤ (wr.row V.heap.size ty c1).heap.size
  rw [World.size_row, World.size_alloc]; exact hs
 ·show (wr.row V.heap.size ty c1).heap[j]? = _
  by_cases e : j = V.heap.size
  ·subst e
   rw [World.heap_row_same _ _ _ _ (by omega)]
   exact (heap_at _ _ _ rfl).symm
  ·rw [World.heap_row_other _ _ _ _ _ e, h.block j hj, heap_alloc_old _ _ (show j < _ by omega), heap_alloc_old _ _ (show j < _ by omega)]
theorem row_owns {wr : World} {B e size : Nat} {ty : TypeId} {v : Value} {n g k : Nat} {xs : List Value} {c1 : Array Value} (h : wr.ownsRow B e size v n xs) (hg : g < B) : ((wr.row g ty c1).drewN k).ownsRow B e size v n xs := by
 refine h.kept (row := some g) ⟨rfl, rfl, rfl, ?_, fun j hj hne => ?_⟩ ?_
 ·show _ ≤ (wr.row g ty c1).heap.size
  rw [World.size_row]; exact Nat.le_refl _
 ·show (wr.row g ty c1).heap[j]? = _
  exact World.heap_row_other _ _ _ _ _ (fun e => hne (by rw [e]))
 ·cases hv : v.ownBlock with
  | none => left; rfl
  | some b =>
   right
   have := (h.lt b hv).1
   intro e
   cases e
   omega
theorem owns_len {w : World} {B e size : Nat} {v : Value} {n : Nat} {xs : List Value} (h : w.ownsRow B e size v n xs) : lenOfS v = n := by
 rcases h.2 with ⟨rfl, hn⟩ | ⟨g, cap, cur, rfl, _⟩
 ·exact hn.symm
 ·rfl
theorem dec_bound (X t k : Nat) (hk : (mag X).size ≤ k) (h : 0 < X / 10 ^ t) : t ≤ 3 * k := by
 have h1 : X < 256 ^ k := lt_of_size_mag X k hk
 have h2 : (256 : Nat) ^ k ≤ (10 ^ 3) ^ k := Nat.pow_le_pow_left (by decide) k
 rw [← Nat.pow_mul] at h2
 apply Nat.le_of_lt
 apply Nat.lt_of_not_le
 intro hle
 have h3 : (10 : Nat) ^ (3 * k) ≤ 10 ^ t := Nat.pow_le_pow_right (by omega) hle
 rw [Nat.div_eq_of_lt (by omega)] at h
 omega
theorem dv8_take (X k N : Nat) (h : k ≤ N) : (dv8 X N).take k = dv8 X k := by
 unfold dv8
 rw [← List.map_take, List.take_range, Nat.min_eq_left h]
theorem dv8_get (X N i : Nat) (h : i < N) : (dv8 X N)[i]? = some (Value.int .u8 ((48 + X / 10 ^ i % 10 : Nat) : Int)) := by unfold dv8; simp [h]
theorem owns_prefix {w : World} {B : Nat} {X N g cap k : Nat} (h : w.ownsRow B 5 1 (.slice (some ⟨g, 0, none⟩) N cap) N (dv8 X N)) (hk : k ≤ N) : w.ownsRow B 5 1 (.slice (some ⟨g, 0, none⟩) k cap) k (dv8 X k) := by
 refine ⟨by unfold dv8; simp, .inr ?_⟩
 rcases h.2 with ⟨e, _⟩ | ⟨g', cap', cur, e, hb, hg, hn, hm, hs, ht⟩
 ·cases e
 ·cases e
  refine ⟨g, cap, cur, rfl, hb, hg, by omega, hm, hs, ?_⟩
  rw [Nat.mul_one] at ht ⊢
  rw [← dv8_take X k N hk, ← ht, List.take_take, Nat.min_eq_left hk]
theorem owns_form {w : World} {B : Nat} {v : Value} {N : Nat} {xs : List Value} (h : w.ownsRow B 5 1 v N xs) (hN : 0 < N) : ∃ g cap, v = .slice (some ⟨g, 0, none⟩) N cap ∧ N ≤ cap := by
 rcases h.2 with ⟨_, e⟩ | ⟨g, cap, cur, e, hb, hg, hn, _⟩
 ·omega
 ·exact ⟨g, cap, e, hn⟩
theorem dec_top (X k : Nat) (hX : 0 < X) (h1 : nd 10 X ≤ k + 1) (h : X / 10 ^ k % 10 ≠ 0) : nd 10 X = k + 1 := by
 apply Decidable.byContradiction
 intro h2
 have h3 := lt_pow_nd 10 (by omega) X
 apply h
 rw [Nat.div_eq_of_lt (Nat.lt_of_lt_of_le h3 (Nat.pow_le_pow_right (by omega) (by omega)))]
theorem dec_low (X k : Nat) (h1 : nd 10 X ≤ k + 1) (h : X / 10 ^ k % 10 = 0) : nd 10 X ≤ k := by
 apply nd_le 10 (by omega)
 have h3 := Nat.lt_of_lt_of_le (lt_pow_nd 10 (by omega) X) (Nat.pow_le_pow_right (by omega) h1)
 have h4 : X / 10 ^ k < 10 := by
  rw [Nat.div_lt_iff_lt_mul (Nat.pow_pos (by omega)), Nat.mul_comm, ← Nat.pow_succ]; exact h3
 have h5 : X / 10 ^ k = 0 := by rw [Nat.mod_eq_of_lt h4] at h; exact h
 exact (Nat.div_eq_zero_iff_lt (Nat.pow_pos (by omega))).1 h5
theorem cell_at {w : World} {g i : Nat} {cs : Array Value} {ty : TypeId} (h : w.heap[g]? = some (.cells cs ty (0, 0))) : w.cell? ⟨g, i, none⟩ = cs[i]? := by
 unfold World.cell?
 rw [h]; rfl
theorem owns_bytes {w : World} {B L g cap : Nat} {Bf : Nat → Nat} {xs : List Value} (h : w.ownsRow B 5 1 (.slice (some ⟨g, 0, none⟩) L cap) L xs) (hx : ∀ p, p < L → xs[p]? = some (.int .u8 ((Bf p : Nat) : Int))) : ∃ cur, w.heap[g]? = some (.cells cur 5 (0, 0)) ∧ ∀ p, p < L → cur[p]? = some (.int .u8 ((Bf p : Nat) : Int)) := by
 rcases h.2 with ⟨e, _⟩ | ⟨g', cap', cur, e, hb, hg, hn, hm, hs, ht⟩
 ·cases e
 ·cases e
  refine ⟨cur, hg, fun p hp => ?_⟩
  rw [← hx p hp, ← ht, List.getElem?_take_of_lt (by omega), Array.getElem?_toList]
def bfP (X : Nat) : Nat → Nat := fun p => 48 + X / 10 ^ p % 10
def bfN (X k : Nat) : Nat → Nat := fun p => if p < k then 48 + X / 10 ^ p % 10 else 45
theorem decS_range (X k : Nat) (h : nd 10 X = k) : (List.range k).map (fun i => UInt8.ofNat (bfP X (k - 1 - i))) = decS X := by
 unfold decS
 have hl : (dig 10 X).length = k := h
 apply List.ext_getElem
 ·simp [hl]
 ·intro i h1 h2
  have hik : i < k := by simpa using h1
  rw [List.getElem_map, List.getElem_range, List.getElem_reverse, List.getElem_map]
  simp only [List.length_map, hl]
  have e := dig_getD 10 (by omega) X (k - 1 - i)
  rw [List.getD_eq_getElem?_getD, List.getElem?_eq_getElem (by omega)] at e
  simp only [Option.getD_some] at e
  rw [e]
  rfl
theorem str_pos (X k : Nat) (h : nd 10 X = k) : strFn (fun p => bfP X (k - 1 - p)) k = ⟨(decS X).toArray⟩ := by
 unfold strFn
 rw [decS_range X k h]
theorem str_neg (X k : Nat) (h : nd 10 X = k) : strFn (fun p => bfN X k (k + 1 - 1 - p)) (k + 1) = ⟨(45 :: decS X).toArray⟩ := by
 unfold strFn
 congr 2
 rw [List.range_succ_eq_map, List.map_cons, List.map_map, ← decS_range X k h]
 congr 1
 ·show UInt8.ofNat (bfN X k (k + 1 - 1 - 0)) = 45
  unfold bfN
  rw [if_neg (by omega)]; rfl
 ·apply List.map_congr_left
  intro i hi
  have hik : i < k := by simpa using hi
  show UInt8.ofNat (bfN X k (k + 1 - 1 - (i + 1))) = _
  unfold bfN bfP
  rw [if_pos (by omega), show k + 1 - 1 - (i + 1) = k - 1 - i by omega]
set_option maxRecDepth 100000 in
set_option maxHeartbeats 12800000 in
theorem Print_pos (b : Bool) (X : Nat) (w : World) (h0 : 0 < X) (hx : (mag X).size ≤ 1048576) : Calls Tryz.prog 125 #[.agg #[.bool b, .string (mag X)]] w fun e w' => e = .returned (.string (if b then ⟨(45 :: decS X).toArray⟩ else ⟨(decS X).toArray⟩)) ∧ Below w.heap.size w w' := by
 obtain ⟨i0, hi, hz0, hz1, hz2⟩ := info_parts info5
 have hne := mag_empty_not X (by omega)
 obtain ⟨n, hn⟩ : ∃ n, n = nd 4294967296 X := ⟨_, rfl⟩
 have hdx := fun w => digits_c X w (by omega)
 rw [← hn] at hdx
 have HX := Lib.hid hdx
 have hXl : X < 4294967296 ^ n := by rw [hn]; exact lt_pow_nd _ (by omega) X
 have HN := Lib.hid hn
 have hn2 : n ≤ 1048576 := by rw [hn, ← up4_nd]; unfold up4; omega
 have HXL := Lib.hid hXl
 have HXS := Lib.hid hx
 have HXP := Lib.hid h0
 clear hn hdx hXl h0 hx
 go_enter Tryz.func125, Tryz.ntmps125
 go_wp2_with fail
 refine (HX.out _).mono ?_
 rintro e w' ⟨rfl, k1, rfl⟩
 go_wp2_with fail
 obtain ⟨V, hV⟩ : ∃ V, V = w.alloc (.cells #[.bool b, .string (mag X)] 23) := ⟨_, rfl⟩
 have hVs : V.heap.size = w.heap.size + 1 := by rw [hV]; simp
 rw [← hV, ← hVs]
 have hVb : Below w.heap.size w V := by rw [hV]; (repeat' (first | (with_reducible first | exact Below.refl _ _ | assumption | refine Below.plus0 ?_ _ | refine Below.alloc0 ?_ _ | refine Below.plus ?_ ?_ _ | refine Below.alloc ?_ ?_ _ | refine Below.drew ?_ | refine Below.drewN ?_ _) | (simp [go_sem]; done) | (simp [go_sem]; omega)))
 have cb : V.cell? ⟨w.heap.size, 0, none⟩ = some (.bool b) := by rw [hV]; simp [go_sem]
 have HVs := Lib.hid hVs
 clear hV hVs
 go_loopw [3, 4] (fun out xv wr => ∃ t Xt : Nat, 9 * t ≤ 3145737 ∧ Hid (Xt = X / 10 ^ (9 * t)) ∧ xv = .slice (some ⟨V.heap.size, 0, none⟩) (nd 4294967296 Xt) n ∧ wr.ownsRow (V.heap.size + 1) 5 1 out (9 * t) (dv8 X (9 * t)) ∧ Below (V.heap.size + 1) (V.alloc (.cells (arr .u32 (dg Xt) n) 162)) wr) (fun out _ _ => 4000000 - lenOfS out)
 case atStart =>
  refine ⟨0, X, by omega, Lib.hid (by simp), by rw [HN.out], World.ownsRow_nil _ _ _ _, ?_⟩
  have := (Below.refl (V.heap.size + 1) (V.alloc (.cells (arr .u32 (dg X) n) 162))).drewN k1
  exact this
 case round =>
  obtain ⟨t, Xt, ht9, HXt, rfl, hown, hbel⟩ := hrel
  by_cases h0 : Xt = 0
  ·have hXN : X < 10 ^ (9 * t) := by have := HXt.out; rw [h0] at this; exact (Nat.div_eq_zero_iff_lt (Nat.pow_pos (by omega))).1 this.symm
   have hDN : nd 10 X ≤ 9 * t := nd_le 10 (by omega) X _ hXN
   have hD1 : 0 < nd 10 X := nd_pos 10 (by omega) X HXP.out
   obtain ⟨N, hN9⟩ : ∃ N, N = 9 * t := ⟨_, rfl⟩
   rw [← hN9] at hown hDN
   obtain ⟨g, cap, rfl, hcap⟩ := owns_form hown (by omega)
   have hbyte : Hid (∀ i, i < N → wr.cell? ⟨g, i, none⟩ = some (.int .u8 ((48 + X / 10 ^ i % 10 : Nat) : Int))) := Lib.hid fun i h => by
    rw [hown.cellAt i (by omega), dv8_get X N i h]
   have hNb : N ≤ 3145737 := by omega
   have HD := Lib.hid hDN
   have HD1 := Lib.hid hD1
   have hzz : nd 4294967296 Xt = 0 := by rw [h0, nd_zero]
   rw [hzz]
   clear hXN hDN hD1 hN9 h0 hzz HXt
   go_wp2_with fail
   go_loop [3] (fun out => ∃ k : Nat, k ≤ N ∧ Hid (nd 10 X ≤ k) ∧ out = .slice (some ⟨g, 0, none⟩) k cap) (fun out => lenOfS out)
   case atStart => exact ⟨N, Nat.le_refl _, HD, rfl⟩
   case round =>
    obtain ⟨k, hkN, HK, rfl⟩ := hrel
    obtain ⟨j, hj⟩ : ∃ j, k = j + 1 := ⟨k - 1, by have := HK.out; have := HD1.out; omega⟩
    have hcj := hbyte.out j (by omega)
    have hkp : (0 : Int) < (k : Int) := by omega
    have ej : (k : Int) - 1 = (j : Int) := by omega
    have hjk : (j : Int) < (k : Int) := by omega
    obtain ⟨dj, hdj⟩ : ∃ z, z = X / 10 ^ j % 10 := ⟨_, rfl⟩
    rw [← hdj] at hcj
    have Hj := Lib.hid hj
    have hdj10 : dj < 10 := by omega
    by_cases hz : dj = 0
    ·have HK2 : Hid (nd 10 X ≤ j) := Lib.hid (dec_low X j (by have := HK.out; omega) (by rw [← hdj]; exact hz))
     subst hz
     have hjN : j ≤ N := by omega
     clear hdj hj
     go_wp2_with fail
     exact ⟨⟨j, hjN, HK2, rfl⟩, by have := Hj.out; simp [lenOfS]; omega⟩
    ·have HE : Hid (nd 10 X = k) := Lib.hid (by rw [hj]; exact dec_top X j HXP.out (by have := HK.out; omega) (by rw [← hdj]; exact hz))
     have hzq : ¬ ((48 + dj : Nat) : Int) = 48 := by omega
     have hz3 : (((48 + dj : Nat) : Int) == 48) = false := by rw [beq_eq_false_iff_ne]; exact hzq
     have hcb : wr.cell? ⟨w.heap.size, 0, none⟩ = some (.bool b) := by
      rw [hbel.cell (p := ⟨w.heap.size, 0, none⟩) (by show w.heap.size < _; have := HVs.out; omega)]
      have hl := World.block_lt_of_cell? V _ cb
      rw [World.cell?_of_block (show (V.alloc _).heap[w.heap.size]? = V.heap[w.heap.size]? from heap_alloc_old _ _ hl)]
      exact cb
     have hownk := owns_prefix hown hkN
     clear hdj hj hown
     cases b
     ·go_wp2_with fail
      obtain ⟨cur, hcur, hcb⟩ := owns_bytes (Bf := bfP X) hownk fun p hp => by rw [dv8_get X k p hp]; rfl
      have HSTR : Hid (strFn (fun p => bfP X (k - 1 - p)) k = ⟨(decS X).toArray⟩) := Lib.hid (str_pos X k HE.out)
      have hbelw : Below w.heap.size w wr := by
       have h1 := hbel.mono (show w.heap.size ≤ V.heap.size + 1 by have := HVs.out; omega)
       exact (hVb.alloc (by have := HVs.out; omega) _).trans h1
      have hgw : w.heap.size ≤ g := by have h1 := (hownk.lt g rfl).1; have := HVs.out; omega
      have hLb : k ≤ 3145738 := by omega
      obtain ⟨Bf, hBf⟩ : ∃ B, B = bfP X := ⟨_, rfl⟩
      rw [← hBf] at hcb HSTR
      have HB := Lib.hid hcb
      obtain ⟨L, hL⟩ : ∃ L, L = k := ⟨_, rfl⟩
      have HJL : Hid ((j : Int) + 1 = (L : Int)) := Lib.hid (by have := Hj.out; omega)
      rw [← hL] at HB HSTR hLb ⊢
      clear hL hcb hBf hownk hbel HE hbyte
      generalize wr = wr0 at hcur hbelw ⊢
      go_loopw [6, 7] (fun iv kv wr => ∃ (t : Nat) (cs : Array Value), t ≤ L ∧ iv = .int .i64 (t : Int) ∧ (∃ kk : Int, kv = .int .i64 kk ∧ kk + 1 + (t : Int) = (L : Int)) ∧ wr.heap[g]? = some (.cells cs 5 (0, 0)) ∧ Hid (∀ p, p < L → cs[p]? = some (.int .u8 ((if p < t ∨ L ≤ p + t then Bf (L - 1 - p) else Bf p : Nat) : Int))) ∧ Below w.heap.size w wr) (fun iv _ _ => L - (intOf iv).toNat)
      case atStart => exact ⟨0, cur, Nat.zero_le _, rfl, ⟨_, rfl, by have := HJL.out; omega⟩, hcur, Lib.hid fun p hp => by rw [if_neg (by omega)]; exact HB.out p hp, hbelw⟩
      case round =>
       obtain ⟨t, cs, htL, rfl, ⟨kk, rfl, hkk⟩, hrow, HC, hbel⟩ := hrel
       by_cases hlt : (t : Int) < kk
       ·obtain ⟨k, hk⟩ : ∃ k : Nat, k + t + 1 = L := ⟨L - 1 - t, by omega⟩
        have ek : kk = (k : Int) := by omega
        subst ek
        have hkL : (k : Int) < (L : Int) := by omega
        have htL2 : (t : Int) < (L : Int) := by omega
        obtain ⟨bk, hbk⟩ : ∃ z, z = Bf k := ⟨_, rfl⟩
        obtain ⟨bt, hbt⟩ : ∃ z, z = Bf t := ⟨_, rfl⟩
        have hgk : cs[k]? = some (.int .u8 (bk : Int)) := by rw [HC.out k (by omega), if_neg (by omega), hbk]
        have hgt : cs[t]? = some (.int .u8 (bt : Int)) := by rw [HC.out t (by omega), if_neg (by omega), hbt]
        have hck : wr.cell? ⟨g, k, none⟩ = some (.int .u8 (bk : Int)) := (cell_at hrow).trans hgk
        have hct : wr.cell? ⟨g, t, none⟩ = some (.int .u8 (bt : Int)) := (cell_at hrow).trans hgt
        have HBK := Lib.hid hbk
        have HBT := Lib.hid hbt
        have HK := Lib.hid hk
        have HGK := Lib.hid hgk
        have HGT := Lib.hid hgt
        clear hbk hbt hk hkk hgk hgt
        go_wp2_with fail
        have eW := Lib.hid (World.row_self wr _ _ _ hrow)
        have hkg : g < wr.heap.size := (Array.getElem?_eq_some_iff.1 hrow).1
        obtain ⟨c1, hc1⟩ : ∃ z, z = cs.setIfInBounds t (Value.int .u8 (bk : Int)) := ⟨_, rfl⟩
        have HC1 := Lib.hid hc1
        clear hc1
        refine wp_region_sto_t (Rel0 := BR) (Rel := SR g (.cells c1 5 (0, 0))) 15 13 [7, 11] (fun i v w9 => match i with
            | 0 => v = .slice (some ⟨g, 0, none⟩) L cap
            | 1 => v = .int .i64 (t : Int)
            | 2 => v = .slice (some ⟨g, 0, none⟩) L cap
            | 3 => v = .int .i64 (k : Int)
            | 4 => v = .slice (some ⟨g, 0, none⟩) L cap
            | 5 => v = .int .i64 (k : Int)
            | 6 => v = .pointer (some ⟨g, k, none⟩)
            | 7 => v = .int .u8 (bk : Int)
            | 8 => v = .slice (some ⟨g, 0, none⟩) L cap
            | 9 => v = .int .i64 (t : Int)
            | 10 => v = .pointer (some ⟨g, t, none⟩)
            | 11 => v = .int .u8 (bt : Int)
            | 12 => v = .pointer (some ⟨g, t, none⟩)
            | 13 => w9.heap[g]? = some (.cells c1 5 (0, 0))
            | 14 => v = .pointer (some ⟨g, k, none⟩)
            | _ => True) (by kernel_rfl) (by kernel_rfl) (by kernel_rfl) (fun _ _ _ => SR.trans) (fun _ _ _ => BR.trans) (fun _ _ => SR.of_below) ⟨rfl, rfl, rfl, Nat.le_refl _, fun _ _ => rfl⟩ ?_ ?_ ?_
        ·intro i v w1 w2 hb h
         match i, h with
         | 0, h => exact h
         | 1, h => exact h
         | 2, h => exact h
         | 3, h => exact h
         | 4, h => exact h
         | 5, h => exact h
         | 6, h => exact h
         | 7, h => exact h
         | 8, h => exact h
         | 9, h => exact h
         | 10, h => exact h
         | 11, h => exact h
         | 12, h => exact h
         | 13, h =>
          rcases hb.2.2.2.2.2 (Array.getElem?_eq_some_iff.1 h).1 with h2 | h2
          ·exact h2.trans h
          ·exact h2
         | 14, h => exact h
         | k + 15, h => exact trivial
        ·simp only [List.take_succ_cons, List.take_zero]
         refine SSteps.mk ?_ ?_
         ·intro xs w9 hw hw0 hd
          simp only [fill, Act.put, List.take_succ_cons, List.take_zero, List.drop_succ_cons, List.drop_zero, Nat.reduceAdd, Nat.zero_add, List.setIfInBounds_toArray, List.set_cons_succ, List.set_cons_zero, if_true, if_false, Nat.reduceEqDiff, reduceIte]
          go_wp2_with fail
          all_goals (first | exact BR.refl _ | exact ⟨BR.refl _, _, rfl, rfl⟩ | exact ⟨rfl, BR.refl _, _, rfl, rfl⟩ | (trace_state; fail))
         refine SSteps.mk ?_ ?_
         ·intro xs w9 hw hw0 hd
          simp only [fill, Act.put, List.take_succ_cons, List.take_zero, List.drop_succ_cons, List.drop_zero, Nat.reduceAdd, Nat.zero_add, List.setIfInBounds_toArray, List.set_cons_succ, List.set_cons_zero, if_true, if_false, Nat.reduceEqDiff, reduceIte]
          go_wp2_with fail
          all_goals (first | exact BR.refl _ | exact ⟨BR.refl _, _, rfl, rfl⟩ | exact ⟨rfl, BR.refl _, _, rfl, rfl⟩ | (trace_state; fail))
         refine SSteps.mk ?_ ?_
         ·intro xs w9 hw hw0 hd
          simp only [fill, Act.put, List.take_succ_cons, List.take_zero, List.drop_succ_cons, List.drop_zero, Nat.reduceAdd, Nat.zero_add, List.setIfInBounds_toArray, List.set_cons_succ, List.set_cons_zero, if_true, if_false, Nat.reduceEqDiff, reduceIte]
          go_wp2_with fail
          all_goals (first | exact BR.refl _ | exact ⟨BR.refl _, _, rfl, rfl⟩ | exact ⟨rfl, BR.refl _, _, rfl, rfl⟩ | (trace_state; fail))
         refine SSteps.mk ?_ ?_
         ·intro xs w9 hw hw0 hd
          simp only [fill, Act.put, List.take_succ_cons, List.take_zero, List.drop_succ_cons, List.drop_zero, Nat.reduceAdd, Nat.zero_add, List.setIfInBounds_toArray, List.set_cons_succ, List.set_cons_zero, if_true, if_false, Nat.reduceEqDiff, reduceIte]
          go_wp2_with fail
          all_goals (first | exact BR.refl _ | exact ⟨BR.refl _, _, rfl, rfl⟩ | exact ⟨rfl, BR.refl _, _, rfl, rfl⟩ | (trace_state; fail))
         refine SSteps.mk ?_ ?_
         ·intro xs w9 hw hw0 hd
          simp only [fill, Act.put, List.take_succ_cons, List.take_zero, List.drop_succ_cons, List.drop_zero, Nat.reduceAdd, Nat.zero_add, List.setIfInBounds_toArray, List.set_cons_succ, List.set_cons_zero, if_true, if_false, Nat.reduceEqDiff, reduceIte]
          go_wp2_with fail
          all_goals (first | exact BR.refl _ | exact ⟨BR.refl _, _, rfl, rfl⟩ | exact ⟨rfl, BR.refl _, _, rfl, rfl⟩ | (trace_state; fail))
         refine SSteps.mk ?_ ?_
         ·intro xs w9 hw hw0 hd
          simp only [fill, Act.put, List.take_succ_cons, List.take_zero, List.drop_succ_cons, List.drop_zero, Nat.reduceAdd, Nat.zero_add, List.setIfInBounds_toArray, List.set_cons_succ, List.set_cons_zero, if_true, if_false, Nat.reduceEqDiff, reduceIte]
          go_wp2_with fail
          all_goals (first | exact BR.refl _ | exact ⟨BR.refl _, _, rfl, rfl⟩ | exact ⟨rfl, BR.refl _, _, rfl, rfl⟩ | (trace_state; fail))
         refine SSteps.mk ?_ ?_
         ·intro xs w9 hw hw0 hd
          have f4 : xs 4 = .slice (some ⟨g, 0, none⟩) L cap := hd 4 (by kernel_rfl)
          have f5 : xs 5 = .int .i64 (k : Int) := hd 5 (by kernel_rfl)
          simp only [fill, Act.put, List.take_succ_cons, List.take_zero, List.drop_succ_cons, List.drop_zero, Nat.reduceAdd, Nat.zero_add, List.setIfInBounds_toArray, List.set_cons_succ, List.set_cons_zero, if_true, if_false, Nat.reduceEqDiff, reduceIte]
          simp only [f4]
          simp only [f5]
          go_wp2_with fail
          all_goals (first | exact BR.refl _ | exact ⟨BR.refl _, _, rfl, rfl⟩ | exact ⟨rfl, BR.refl _, _, rfl, rfl⟩ | (trace_state; fail))
         refine SSteps.mk ?_ ?_
         ·intro xs w9 hw hw0 hd
          have f6 : xs 6 = .pointer (some ⟨g, k, none⟩) := hd 6 (by kernel_rfl)
          obtain ⟨u, rfl⟩ := BR.split (hw0 (by decide))
          simp only [fill, Act.put, List.take_succ_cons, List.take_zero, List.drop_succ_cons, List.drop_zero, Nat.reduceAdd, Nat.zero_add, List.setIfInBounds_toArray, List.set_cons_succ, List.set_cons_zero, if_true, if_false, Nat.reduceEqDiff, reduceIte]
          simp only [f6]
          go_wp2_with fail
          all_goals (first | exact BR.refl _ | exact ⟨BR.refl _, _, rfl, rfl⟩ | exact ⟨rfl, BR.refl _, _, rfl, rfl⟩ | (trace_state; fail))
         refine SSteps.mk ?_ ?_
         ·intro xs w9 hw hw0 hd
          simp only [fill, Act.put, List.take_succ_cons, List.take_zero, List.drop_succ_cons, List.drop_zero, Nat.reduceAdd, Nat.zero_add, List.setIfInBounds_toArray, List.set_cons_succ, List.set_cons_zero, if_true, if_false, Nat.reduceEqDiff, reduceIte]
          go_wp2_with fail
          all_goals (first | exact BR.refl _ | exact ⟨BR.refl _, _, rfl, rfl⟩ | exact ⟨rfl, BR.refl _, _, rfl, rfl⟩ | (trace_state; fail))
         refine SSteps.mk ?_ ?_
         ·intro xs w9 hw hw0 hd
          simp only [fill, Act.put, List.take_succ_cons, List.take_zero, List.drop_succ_cons, List.drop_zero, Nat.reduceAdd, Nat.zero_add, List.setIfInBounds_toArray, List.set_cons_succ, List.set_cons_zero, if_true, if_false, Nat.reduceEqDiff, reduceIte]
          go_wp2_with fail
          all_goals (first | exact BR.refl _ | exact ⟨BR.refl _, _, rfl, rfl⟩ | exact ⟨rfl, BR.refl _, _, rfl, rfl⟩ | (trace_state; fail))
         refine SSteps.mk ?_ ?_
         ·intro xs w9 hw hw0 hd
          have f8 : xs 8 = .slice (some ⟨g, 0, none⟩) L cap := hd 8 (by kernel_rfl)
          have f9 : xs 9 = .int .i64 (t : Int) := hd 9 (by kernel_rfl)
          simp only [fill, Act.put, List.take_succ_cons, List.take_zero, List.drop_succ_cons, List.drop_zero, Nat.reduceAdd, Nat.zero_add, List.setIfInBounds_toArray, List.set_cons_succ, List.set_cons_zero, if_true, if_false, Nat.reduceEqDiff, reduceIte]
          simp only [f8]
          simp only [f9]
          go_wp2_with fail
          all_goals (first | exact BR.refl _ | exact ⟨BR.refl _, _, rfl, rfl⟩ | exact ⟨rfl, BR.refl _, _, rfl, rfl⟩ | (trace_state; fail))
         refine SSteps.mk ?_ ?_
         ·intro xs w9 hw hw0 hd
          have f10 : xs 10 = .pointer (some ⟨g, t, none⟩) := hd 10 (by kernel_rfl)
          obtain ⟨u, rfl⟩ := BR.split (hw0 (by decide))
          simp only [fill, Act.put, List.take_succ_cons, List.take_zero, List.drop_succ_cons, List.drop_zero, Nat.reduceAdd, Nat.zero_add, List.setIfInBounds_toArray, List.set_cons_succ, List.set_cons_zero, if_true, if_false, Nat.reduceEqDiff, reduceIte]
          simp only [f10]
          go_wp2_with fail
          all_goals (first | exact BR.refl _ | exact ⟨BR.refl _, _, rfl, rfl⟩ | exact ⟨rfl, BR.refl _, _, rfl, rfl⟩ | (trace_state; fail))
         refine SSteps.mk ?_ ?_
         ·intro xs w9 hw hw0 hd
          have f0 : xs 0 = .slice (some ⟨g, 0, none⟩) L cap := hd 0 (by kernel_rfl)
          have f1 : xs 1 = .int .i64 (t : Int) := hd 1 (by kernel_rfl)
          simp only [fill, Act.put, List.take_succ_cons, List.take_zero, List.drop_succ_cons, List.drop_zero, Nat.reduceAdd, Nat.zero_add, List.setIfInBounds_toArray, List.set_cons_succ, List.set_cons_zero, if_true, if_false, Nat.reduceEqDiff, reduceIte]
          simp only [f0]
          simp only [f1]
          go_wp2_with fail
          all_goals (first | exact BR.refl _ | exact ⟨BR.refl _, _, rfl, rfl⟩ | exact ⟨rfl, BR.refl _, _, rfl, rfl⟩ | (trace_state; fail))
         refine SSteps.mk ?_ ?_
         ·intro xs w9 hw hw0 hd
          have f7 : xs 7 = .int .u8 (bk : Int) := hd 7 (by kernel_rfl)
          have f11 : xs 11 = .int .u8 (bt : Int) := hd 11 (by kernel_rfl)
          have f12 : xs 12 = .pointer (some ⟨g, t, none⟩) := hd 12 (by kernel_rfl)
          obtain ⟨u, rfl⟩ := BR.split (hw0 (by decide))
          simp only [fill, Act.put, List.take_succ_cons, List.take_zero, List.drop_succ_cons, List.drop_zero, Nat.reduceAdd, Nat.zero_add, List.setIfInBounds_toArray, List.set_cons_succ, List.set_cons_zero, if_true, if_false, Nat.reduceEqDiff, reduceIte]
          simp only [f7]
          simp only [f11]
          simp only [f12]
          rw [← eW.out]
          have hgt := HGT.out
          go_wp2_with fail
          all_goals (rw [← HC1.out]; exact ⟨(SR.store hkg).1, (Array.getElem?_eq_some_iff.1 (SR.store (c := cs) hkg).2).2⟩)
         refine SSteps.mk ?_ ?_
         ·intro xs w9 hw hw0 hd
          have f2 : xs 2 = .slice (some ⟨g, 0, none⟩) L cap := hd 2 (by kernel_rfl)
          have f3 : xs 3 = .int .i64 (k : Int) := hd 3 (by kernel_rfl)
          simp only [fill, Act.put, List.take_succ_cons, List.take_zero, List.drop_succ_cons, List.drop_zero, Nat.reduceAdd, Nat.zero_add, List.setIfInBounds_toArray, List.set_cons_succ, List.set_cons_zero, if_true, if_false, Nat.reduceEqDiff, reduceIte]
          simp only [f2]
          simp only [f3]
          go_wp2_with fail
          all_goals (first | exact BR.refl _ | exact ⟨BR.refl _, _, rfl, rfl⟩ | exact ⟨rfl, BR.refl _, _, rfl, rfl⟩ | (trace_state; fail))
         exact trivial
        ·intro xs w9 hw hd
         have f13 : w9.heap[g]? = some (.cells c1 5 (0, 0)) := hd 13 (by decide)
         have f14 : xs 14 = .pointer (some ⟨g, k, none⟩) := hd 14 (by decide)
         have f11 : xs 11 = .int .u8 (bt : Int) := hd 11 (by decide)
         rw [← eW.out] at hw
         obtain ⟨u, rfl⟩ := SR.at_end hkg hw f13
         simp only [fill, Act.put, List.take_succ_cons, List.take_zero, List.drop_succ_cons, List.drop_zero, Nat.reduceAdd, Nat.zero_add, List.setIfInBounds_toArray, List.set_cons_succ, List.set_cons_zero, if_true, if_false, Nat.reduceEqDiff, reduceIte]
         simp only [f14, f11]
         have hgk : c1[k]? = some (.int .u8 (bk : Int)) := by rw [HC1.out, Array.getElem?_setIfInBounds_ne (by have := HK.out; omega)]; exact HGK.out
         clear hd hw f13 eW
         go_wp2_with fail
         have hkt : t < k := by omega
         have hK := HK.out
         refine ⟨⟨t + 1, _, by omega, by go_num, ⟨_, rfl, by omega⟩, (World.heap_plus _ _ _ (by rw [World.size_row]; exact hkg)).trans (World.heap_row_same _ _ _ _ hkg), Lib.hid fun p hp => ?_, by (repeat' (first | (with_reducible first | exact Below.refl _ _ | assumption | refine Below.plus0 ?_ _ | refine Below.row ?_ ?_ _ _ | refine Below.alloc0 ?_ _ | refine Below.plus ?_ ?_ _ | refine Below.alloc ?_ ?_ _ | refine Below.drew ?_ | refine Below.drewN ?_ _) | (simp [go_sem]; done) | (simp [go_sem]; omega)))⟩, by simp [intOf]; omega⟩
         by_cases hpk : p = k
         ·rw [hpk, Array.getElem?_setIfInBounds_self_of_lt (Array.getElem?_eq_some_iff.1 hgk).1, if_pos (by omega), show L - 1 - k = t by omega, HBT.out]
         ·rw [Array.getElem?_setIfInBounds_ne (Ne.symm hpk), HC1.out]
          by_cases hpt : p = t
          ·rw [hpt, Array.getElem?_setIfInBounds_self_of_lt (Array.getElem?_eq_some_iff.1 HGT.out).1, if_pos (by omega), show L - 1 - t = k by omega, HBK.out]
          ·rw [Array.getElem?_setIfInBounds_ne (Ne.symm hpt), HC.out p hp]
           by_cases h3 : p < t ∨ L ≤ p + t
           ·rw [if_pos h3, if_pos (by omega)]
           ·rw [if_neg h3, if_neg (by omega)]
       ·have hlt2 : ¬ ((t : Int) < kk) := hlt
        have hlt3 : decide ((t : Int) < kk) = false := decide_eq_false hlt
        have hall : ∀ p, p < L → wr.cell? ⟨g, p, none⟩ = some (.int .u8 ((Bf (L - 1 - p) : Nat) : Int)) := fun p hp => by
         rw [cell_at hrow, HC.out p hp]
         by_cases hpt : p < t ∨ L ≤ p + t
         ·rw [if_pos hpt]
         ·rw [if_neg hpt]
          have e : L - 1 - p = p := by omega
          rw [e]
        have hcv := convG wr g L cap (fun p => Bf (L - 1 - p)) hall
        rw [HSTR.out] at hcv
        clear hall hkk hrow HC
        go_wp2_with fail
        go_ret
        exact ⟨rfl, by assumption⟩
     ·have hsz : V.heap.size + 1 ≤ wr.heap.size := by have := hbel.size; rw [World.size_alloc] at this; exact this
      go_wp2_with (first | (at_builtin; refine wpList_append_own _ rfl _ _ 157 rfl (V.heap.size + 1) 5 i0 (.int .u8 0) 1 1 Tryz.underlying157 hi hz0 hz1 hz2 rfl (by decide) _ _ _ rfl (hownk.alloc _) ⟨wr.heap.size, 0, none⟩ 1 1 [.int .u8 45] rfl rfl ?m1 ?m2 ?m3 ?m4 ?m5 ?_) | go_in)
      case m2 => first | rfl | (intro u hu; simp at hu; subst hu; rfl)
      case m3 => unfold maxLen; omega
      case m4 => omega
      case m5 => first | omega | (simp; done) | (simp; omega)
      intro v' w1 hown' hgrow _
      have hb2 : Below (V.heap.size + 1) (V.alloc (.cells (arr .u32 (dg Xt) n) 162)) w1 := (hbel.alloc hsz _).grown hgrow (by first | omega | (simp; done) | (simp; omega)) fun k' hk' => (hownk.lt k' hk').1
      clear hownk hgrow hbel
      obtain ⟨g, cap, rfl, hc2⟩ := owns_form hown' (by omega)
      go_wp2_with fail
      have hown2 := hown'
      obtain ⟨cur, hcur, hcb⟩ := owns_bytes (Bf := bfN X k) hown2 fun p hp => by
       have hlen : (dv8 X k).length = k := by unfold dv8; simp
       by_cases hpk : p < k
       ·rw [List.getElem?_append_left (by omega), dv8_get X k p hpk]
        unfold bfN; rw [if_pos hpk]
       ·have e : p = k := by omega
        subst e
        rw [List.getElem?_append_right (by omega), hlen, Nat.sub_self]
        unfold bfN; rw [if_neg (by omega)]; rfl
      have HSTR : Hid (strFn (fun p => bfN X k (k + 1 - 1 - p)) (k + 1) = ⟨(45 :: decS X).toArray⟩) := Lib.hid (str_neg X k HE.out)
      have hbelw : Below w.heap.size w w1 := by
       have h1 := hb2.mono (show w.heap.size ≤ V.heap.size + 1 by have := HVs.out; omega)
       exact (hVb.alloc (by have := HVs.out; omega) _).trans h1
      have hgw : w.heap.size ≤ g := by have h1 := (hown2.lt g rfl).1; have := HVs.out; omega
      have hLb : k + 1 ≤ 3145738 := by omega
      obtain ⟨Bf, hBf⟩ : ∃ B, B = bfN X k := ⟨_, rfl⟩
      rw [← hBf] at hcb HSTR
      have HB := Lib.hid hcb
      obtain ⟨L, hL⟩ : ∃ L, L = k + 1 := ⟨_, rfl⟩
      have HJL : Hid ((k : Int) + 1 = (L : Int)) := Lib.hid (by omega)
      have hL2 : (k : Int) + 1 = (L : Int) := by omega
      rw [← hL] at HB HSTR hLb ⊢
      try rw [hL2]
      clear hL hcb hBf hown' hown2 hb2 HE hbyte hL2
      generalize w1 = wr0 at hcur hbelw ⊢
      go_loopw [6, 7] (fun iv kv wr => ∃ (t : Nat) (cs : Array Value), t ≤ L ∧ iv = .int .i64 (t : Int) ∧ (∃ kk : Int, kv = .int .i64 kk ∧ kk + 1 + (t : Int) = (L : Int)) ∧ wr.heap[g]? = some (.cells cs 5 (0, 0)) ∧ Hid (∀ p, p < L → cs[p]? = some (.int .u8 ((if p < t ∨ L ≤ p + t then Bf (L - 1 - p) else Bf p : Nat) : Int))) ∧ Below w.heap.size w wr) (fun iv _ _ => L - (intOf iv).toNat)
      case atStart => exact ⟨0, cur, Nat.zero_le _, rfl, ⟨_, rfl, by have := HJL.out; omega⟩, hcur, Lib.hid fun p hp => by rw [if_neg (by omega)]; exact HB.out p hp, hbelw⟩
      case round =>
       obtain ⟨t, cs, htL, rfl, ⟨kk, rfl, hkk⟩, hrow, HC, hbel⟩ := hrel
       by_cases hlt : (t : Int) < kk
       ·obtain ⟨k, hk⟩ : ∃ k : Nat, k + t + 1 = L := ⟨L - 1 - t, by omega⟩
        have ek : kk = (k : Int) := by omega
        subst ek
        have hkL : (k : Int) < (L : Int) := by omega
        have htL2 : (t : Int) < (L : Int) := by omega
        obtain ⟨bk, hbk⟩ : ∃ z, z = Bf k := ⟨_, rfl⟩
        obtain ⟨bt, hbt⟩ : ∃ z, z = Bf t := ⟨_, rfl⟩
        have hgk : cs[k]? = some (.int .u8 (bk : Int)) := by rw [HC.out k (by omega), if_neg (by omega), hbk]
        have hgt : cs[t]? = some (.int .u8 (bt : Int)) := by rw [HC.out t (by omega), if_neg (by omega), hbt]
        have hck : wr.cell? ⟨g, k, none⟩ = some (.int .u8 (bk : Int)) := (cell_at hrow).trans hgk
        have hct : wr.cell? ⟨g, t, none⟩ = some (.int .u8 (bt : Int)) := (cell_at hrow).trans hgt
        have HBK := Lib.hid hbk
        have HBT := Lib.hid hbt
        have HK := Lib.hid hk
        have HGK := Lib.hid hgk
        have HGT := Lib.hid hgt
        clear hbk hbt hk hkk hgk hgt
        go_wp2_with fail
        have eW := Lib.hid (World.row_self wr _ _ _ hrow)
        have hkg : g < wr.heap.size := (Array.getElem?_eq_some_iff.1 hrow).1
        obtain ⟨c1, hc1⟩ : ∃ z, z = cs.setIfInBounds t (Value.int .u8 (bk : Int)) := ⟨_, rfl⟩
        have HC1 := Lib.hid hc1
        clear hc1
        refine wp_region_sto_t (Rel0 := BR) (Rel := SR g (.cells c1 5 (0, 0))) 15 13 [7, 11] (fun i v w9 => match i with
            | 0 => v = .slice (some ⟨g, 0, none⟩) L cap
            | 1 => v = .int .i64 (t : Int)
            | 2 => v = .slice (some ⟨g, 0, none⟩) L cap
            | 3 => v = .int .i64 (k : Int)
            | 4 => v = .slice (some ⟨g, 0, none⟩) L cap
            | 5 => v = .int .i64 (k : Int)
            | 6 => v = .pointer (some ⟨g, k, none⟩)
            | 7 => v = .int .u8 (bk : Int)
            | 8 => v = .slice (some ⟨g, 0, none⟩) L cap
            | 9 => v = .int .i64 (t : Int)
            | 10 => v = .pointer (some ⟨g, t, none⟩)
            | 11 => v = .int .u8 (bt : Int)
            | 12 => v = .pointer (some ⟨g, t, none⟩)
            | 13 => w9.heap[g]? = some (.cells c1 5 (0, 0))
            | 14 => v = .pointer (some ⟨g, k, none⟩)
            | _ => True) (by kernel_rfl) (by kernel_rfl) (by kernel_rfl) (fun _ _ _ => SR.trans) (fun _ _ _ => BR.trans) (fun _ _ => SR.of_below) ⟨rfl, rfl, rfl, Nat.le_refl _, fun _ _ => rfl⟩ ?_ ?_ ?_
        ·intro i v w1 w2 hb h
         match i, h with
         | 0, h => exact h
         | 1, h => exact h
         | 2, h => exact h
         | 3, h => exact h
         | 4, h => exact h
         | 5, h => exact h
         | 6, h => exact h
         | 7, h => exact h
         | 8, h => exact h
         | 9, h => exact h
         | 10, h => exact h
         | 11, h => exact h
         | 12, h => exact h
         | 13, h =>
          rcases hb.2.2.2.2.2 (Array.getElem?_eq_some_iff.1 h).1 with h2 | h2
          ·exact h2.trans h
          ·exact h2
         | 14, h => exact h
         | k + 15, h => exact trivial
        ·simp only [List.take_succ_cons, List.take_zero]
         refine SSteps.mk ?_ ?_
         ·intro xs w9 hw hw0 hd
          simp only [fill, Act.put, List.take_succ_cons, List.take_zero, List.drop_succ_cons, List.drop_zero, Nat.reduceAdd, Nat.zero_add, List.setIfInBounds_toArray, List.set_cons_succ, List.set_cons_zero, if_true, if_false, Nat.reduceEqDiff, reduceIte]
          go_wp2_with fail
          all_goals (first | exact BR.refl _ | exact ⟨BR.refl _, _, rfl, rfl⟩ | exact ⟨rfl, BR.refl _, _, rfl, rfl⟩ | (trace_state; fail))
         refine SSteps.mk ?_ ?_
         ·intro xs w9 hw hw0 hd
          simp only [fill, Act.put, List.take_succ_cons, List.take_zero, List.drop_succ_cons, List.drop_zero, Nat.reduceAdd, Nat.zero_add, List.setIfInBounds_toArray, List.set_cons_succ, List.set_cons_zero, if_true, if_false, Nat.reduceEqDiff, reduceIte]
          go_wp2_with fail
          all_goals (first | exact BR.refl _ | exact ⟨BR.refl _, _, rfl, rfl⟩ | exact ⟨rfl, BR.refl _, _, rfl, rfl⟩ | (trace_state; fail))
         refine SSteps.mk ?_ ?_
         ·intro xs w9 hw hw0 hd
          simp only [fill, Act.put, List.take_succ_cons, List.take_zero, List.drop_succ_cons, List.drop_zero, Nat.reduceAdd, Nat.zero_add, List.setIfInBounds_toArray, List.set_cons_succ, List.set_cons_zero, if_true, if_false, Nat.reduceEqDiff, reduceIte]
          go_wp2_with fail
          all_goals (first | exact BR.refl _ | exact ⟨BR.refl _, _, rfl, rfl⟩ | exact ⟨rfl, BR.refl _, _, rfl, rfl⟩ | (trace_state; fail))
         refine SSteps.mk ?_ ?_
         ·intro xs w9 hw hw0 hd
          simp only [fill, Act.put, List.take_succ_cons, List.take_zero, List.drop_succ_cons, List.drop_zero, Nat.reduceAdd, Nat.zero_add, List.setIfInBounds_toArray, List.set_cons_succ, List.set_cons_zero, if_true, if_false, Nat.reduceEqDiff, reduceIte]
          go_wp2_with fail
          all_goals (first | exact BR.refl _ | exact ⟨BR.refl _, _, rfl, rfl⟩ | exact ⟨rfl, BR.refl _, _, rfl, rfl⟩ | (trace_state; fail))
         refine SSteps.mk ?_ ?_
         ·intro xs w9 hw hw0 hd
          simp only [fill, Act.put, List.take_succ_cons, List.take_zero, List.drop_succ_cons, List.drop_zero, Nat.reduceAdd, Nat.zero_add, List.setIfInBounds_toArray, List.set_cons_succ, List.set_cons_zero, if_true, if_false, Nat.reduceEqDiff, reduceIte]
          go_wp2_with fail
          all_goals (first | exact BR.refl _ | exact ⟨BR.refl _, _, rfl, rfl⟩ | exact ⟨rfl, BR.refl _, _, rfl, rfl⟩ | (trace_state; fail))
         refine SSteps.mk ?_ ?_
         ·intro xs w9 hw hw0 hd
          simp only [fill, Act.put, List.take_succ_cons, List.take_zero, List.drop_succ_cons, List.drop_zero, Nat.reduceAdd, Nat.zero_add, List.setIfInBounds_toArray, List.set_cons_succ, List.set_cons_zero, if_true, if_false, Nat.reduceEqDiff, reduceIte]
          go_wp2_with fail
          all_goals (first | exact BR.refl _ | exact ⟨BR.refl _, _, rfl, rfl⟩ | exact ⟨rfl, BR.refl _, _, rfl, rfl⟩ | (trace_state; fail))
         refine SSteps.mk ?_ ?_
         ·intro xs w9 hw hw0 hd
          have f4 : xs 4 = .slice (some ⟨g, 0, none⟩) L cap := hd 4 (by kernel_rfl)
          have f5 : xs 5 = .int .i64 (k : Int) := hd 5 (by kernel_rfl)
          simp only [fill, Act.put, List.take_succ_cons, List.take_zero, List.drop_succ_cons, List.drop_zero, Nat.reduceAdd, Nat.zero_add, List.setIfInBounds_toArray, List.set_cons_succ, List.set_cons_zero, if_true, if_false, Nat.reduceEqDiff, reduceIte]
          simp only [f4]
          simp only [f5]
          go_wp2_with fail
          all_goals (first | exact BR.refl _ | exact ⟨BR.refl _, _, rfl, rfl⟩ | exact ⟨rfl, BR.refl _, _, rfl, rfl⟩ | (trace_state; fail))
         refine SSteps.mk ?_ ?_
         ·intro xs w9 hw hw0 hd
          have f6 : xs 6 = .pointer (some ⟨g, k, none⟩) := hd 6 (by kernel_rfl)
          obtain ⟨u, rfl⟩ := BR.split (hw0 (by decide))
          simp only [fill, Act.put, List.take_succ_cons, List.take_zero, List.drop_succ_cons, List.drop_zero, Nat.reduceAdd, Nat.zero_add, List.setIfInBounds_toArray, List.set_cons_succ, List.set_cons_zero, if_true, if_false, Nat.reduceEqDiff, reduceIte]
          simp only [f6]
          go_wp2_with fail
          all_goals (first | exact BR.refl _ | exact ⟨BR.refl _, _, rfl, rfl⟩ | exact ⟨rfl, BR.refl _, _, rfl, rfl⟩ | (trace_state; fail))
         refine SSteps.mk ?_ ?_
         ·intro xs w9 hw hw0 hd
          simp only [fill, Act.put, List.take_succ_cons, List.take_zero, List.drop_succ_cons, List.drop_zero, Nat.reduceAdd, Nat.zero_add, List.setIfInBounds_toArray, List.set_cons_succ, List.set_cons_zero, if_true, if_false, Nat.reduceEqDiff, reduceIte]
          go_wp2_with fail
          all_goals (first | exact BR.refl _ | exact ⟨BR.refl _, _, rfl, rfl⟩ | exact ⟨rfl, BR.refl _, _, rfl, rfl⟩ | (trace_state; fail))
         refine SSteps.mk ?_ ?_
         ·intro xs w9 hw hw0 hd
          simp only [fill, Act.put, List.take_succ_cons, List.take_zero, List.drop_succ_cons, List.drop_zero, Nat.reduceAdd, Nat.zero_add, List.setIfInBounds_toArray, List.set_cons_succ, List.set_cons_zero, if_true, if_false, Nat.reduceEqDiff, reduceIte]
          go_wp2_with fail
          all_goals (first | exact BR.refl _ | exact ⟨BR.refl _, _, rfl, rfl⟩ | exact ⟨rfl, BR.refl _, _, rfl, rfl⟩ | (trace_state; fail))
         refine SSteps.mk ?_ ?_
         ·intro xs w9 hw hw0 hd
          have f8 : xs 8 = .slice (some ⟨g, 0, none⟩) L cap := hd 8 (by kernel_rfl)
          have f9 : xs 9 = .int .i64 (t : Int) := hd 9 (by kernel_rfl)
          simp only [fill, Act.put, List.take_succ_cons, List.take_zero, List.drop_succ_cons, List.drop_zero, Nat.reduceAdd, Nat.zero_add, List.setIfInBounds_toArray, List.set_cons_succ, List.set_cons_zero, if_true, if_false, Nat.reduceEqDiff, reduceIte]
          simp only [f8]
          simp only [f9]
          go_wp2_with fail
          all_goals (first | exact BR.refl _ | exact ⟨BR.refl _, _, rfl, rfl⟩ | exact ⟨rfl, BR.refl _, _, rfl, rfl⟩ | (trace_state; fail))
         refine SSteps.mk ?_ ?_
         ·intro xs w9 hw hw0 hd
          have f10 : xs 10 = .pointer (some ⟨g, t, none⟩) := hd 10 (by kernel_rfl)
          obtain ⟨u, rfl⟩ := BR.split (hw0 (by decide))
          simp only [fill, Act.put, List.take_succ_cons, List.take_zero, List.drop_succ_cons, List.drop_zero, Nat.reduceAdd, Nat.zero_add, List.setIfInBounds_toArray, List.set_cons_succ, List.set_cons_zero, if_true, if_false, Nat.reduceEqDiff, reduceIte]
          simp only [f10]
          go_wp2_with fail
          all_goals (first | exact BR.refl _ | exact ⟨BR.refl _, _, rfl, rfl⟩ | exact ⟨rfl, BR.refl _, _, rfl, rfl⟩ | (trace_state; fail))
         refine SSteps.mk ?_ ?_
         ·intro xs w9 hw hw0 hd
          have f0 : xs 0 = .slice (some ⟨g, 0, none⟩) L cap := hd 0 (by kernel_rfl)
          have f1 : xs 1 = .int .i64 (t : Int) := hd 1 (by kernel_rfl)
          simp only [fill, Act.put, List.take_succ_cons, List.take_zero, List.drop_succ_cons, List.drop_zero, Nat.reduceAdd, Nat.zero_add, List.setIfInBounds_toArray, List.set_cons_succ, List.set_cons_zero, if_true, if_false, Nat.reduceEqDiff, reduceIte]
          simp only [f0]
          simp only [f1]
          go_wp2_with fail
          all_goals (first | exact BR.refl _ | exact ⟨BR.refl _, _, rfl, rfl⟩ | exact ⟨rfl, BR.refl _, _, rfl, rfl⟩ | (trace_state; fail))
         refine SSteps.mk ?_ ?_
         ·intro xs w9 hw hw0 hd
          have f7 : xs 7 = .int .u8 (bk : Int) := hd 7 (by kernel_rfl)
          have f11 : xs 11 = .int .u8 (bt : Int) := hd 11 (by kernel_rfl)
          have f12 : xs 12 = .pointer (some ⟨g, t, none⟩) := hd 12 (by kernel_rfl)
          obtain ⟨u, rfl⟩ := BR.split (hw0 (by decide))
          simp only [fill, Act.put, List.take_succ_cons, List.take_zero, List.drop_succ_cons, List.drop_zero, Nat.reduceAdd, Nat.zero_add, List.setIfInBounds_toArray, List.set_cons_succ, List.set_cons_zero, if_true, if_false, Nat.reduceEqDiff, reduceIte]
          simp only [f7]
          simp only [f11]
          simp only [f12]
          rw [← eW.out]
          have hgt := HGT.out
          go_wp2_with fail
          all_goals (rw [← HC1.out]; exact ⟨(SR.store hkg).1, (Array.getElem?_eq_some_iff.1 (SR.store (c := cs) hkg).2).2⟩)
         refine SSteps.mk ?_ ?_
         ·intro xs w9 hw hw0 hd
          have f2 : xs 2 = .slice (some ⟨g, 0, none⟩) L cap := hd 2 (by kernel_rfl)
          have f3 : xs 3 = .int .i64 (k : Int) := hd 3 (by kernel_rfl)
          simp only [fill, Act.put, List.take_succ_cons, List.take_zero, List.drop_succ_cons, List.drop_zero, Nat.reduceAdd, Nat.zero_add, List.setIfInBounds_toArray, List.set_cons_succ, List.set_cons_zero, if_true, if_false, Nat.reduceEqDiff, reduceIte]
          simp only [f2]
          simp only [f3]
          go_wp2_with fail
          all_goals (first | exact BR.refl _ | exact ⟨BR.refl _, _, rfl, rfl⟩ | exact ⟨rfl, BR.refl _, _, rfl, rfl⟩ | (trace_state; fail))
         exact trivial
        ·intro xs w9 hw hd
         have f13 : w9.heap[g]? = some (.cells c1 5 (0, 0)) := hd 13 (by decide)
         have f14 : xs 14 = .pointer (some ⟨g, k, none⟩) := hd 14 (by decide)
         have f11 : xs 11 = .int .u8 (bt : Int) := hd 11 (by decide)
         rw [← eW.out] at hw
         obtain ⟨u, rfl⟩ := SR.at_end hkg hw f13
         simp only [fill, Act.put, List.take_succ_cons, List.take_zero, List.drop_succ_cons, List.drop_zero, Nat.reduceAdd, Nat.zero_add, List.setIfInBounds_toArray, List.set_cons_succ, List.set_cons_zero, if_true, if_false, Nat.reduceEqDiff, reduceIte]
         simp only [f14, f11]
         have hgk : c1[k]? = some (.int .u8 (bk : Int)) := by rw [HC1.out, Array.getElem?_setIfInBounds_ne (by have := HK.out; omega)]; exact HGK.out
         clear hd hw f13 eW
         go_wp2_with fail
         have hkt : t < k := by omega
         have hK := HK.out
         refine ⟨⟨t + 1, _, by omega, by go_num, ⟨_, rfl, by omega⟩, (World.heap_plus _ _ _ (by rw [World.size_row]; exact hkg)).trans (World.heap_row_same _ _ _ _ hkg), Lib.hid fun p hp => ?_, by (repeat' (first | (with_reducible first | exact Below.refl _ _ | assumption | refine Below.plus0 ?_ _ | refine Below.row ?_ ?_ _ _ | refine Below.alloc0 ?_ _ | refine Below.plus ?_ ?_ _ | refine Below.alloc ?_ ?_ _ | refine Below.drew ?_ | refine Below.drewN ?_ _) | (simp [go_sem]; done) | (simp [go_sem]; omega)))⟩, by simp [intOf]; omega⟩
         by_cases hpk : p = k
         ·rw [hpk, Array.getElem?_setIfInBounds_self_of_lt (Array.getElem?_eq_some_iff.1 hgk).1, if_pos (by omega), show L - 1 - k = t by omega, HBT.out]
         ·rw [Array.getElem?_setIfInBounds_ne (Ne.symm hpk), HC1.out]
          by_cases hpt : p = t
          ·rw [hpt, Array.getElem?_setIfInBounds_self_of_lt (Array.getElem?_eq_some_iff.1 HGT.out).1, if_pos (by omega), show L - 1 - t = k by omega, HBK.out]
          ·rw [Array.getElem?_setIfInBounds_ne (Ne.symm hpt), HC.out p hp]
           by_cases h3 : p < t ∨ L ≤ p + t
           ·rw [if_pos h3, if_pos (by omega)]
           ·rw [if_neg h3, if_neg (by omega)]
       ·have hlt2 : ¬ ((t : Int) < kk) := hlt
        have hlt3 : decide ((t : Int) < kk) = false := decide_eq_false hlt
        have hall : ∀ p, p < L → wr.cell? ⟨g, p, none⟩ = some (.int .u8 ((Bf (L - 1 - p) : Nat) : Int)) := fun p hp => by
         rw [cell_at hrow, HC.out p hp]
         by_cases hpt : p < t ∨ L ≤ p + t
         ·rw [if_pos hpt]
         ·rw [if_neg hpt]
          have e : L - 1 - p = p := by omega
          rw [e]
        have hcv := convG wr g L cap (fun p => Bf (L - 1 - p)) hall
        rw [HSTR.out] at hcv
        clear hall hkk hrow HC
        go_wp2_with fail
        go_ret
        exact ⟨rfl, by assumption⟩
  ·have htb : 9 * t ≤ 3 * 1048576 := dec_bound X (9 * t) 1048576 HXS.out (by rw [← HXt.out]; omega)
   obtain ⟨k, hk⟩ : ∃ k, k = nd 4294967296 Xt := ⟨_, rfl⟩
   have hkp : 0 < k := by rw [hk]; exact nd_pos _ (by omega) Xt (by omega)
   have hkn : k ≤ n := by
    rw [hk, HN.out]; exact nd_mono _ (by omega) _ _ (by rw [HXt.out]; exact Nat.div_le_self _ _)
   have hXk : Xt < 4294967296 ^ k := by rw [hk]; exact lt_pow_nd _ (by omega) Xt
   rw [← hk]
   have hk2 : (0 : Int) < (k : Int) := by omega
   have hgr : wr.heap[V.heap.size]? = some (.cells (arr .u32 (dg Xt) n) 162 (0, 0)) := by
    rw [hbel.block _ (by omega)]; exact heap_at _ _ _ rfl
   have HSH0 := short_c Xt 1000000000 k n n V.heap.size wr hXk (by omega) hkn hgr (by omega) (by omega)
   rw [show ((1000000000 : Nat) : Int) = (1000000000 : Int) from rfl] at HSH0
   have HSH := Lib.hid HSH0
   clear HSH0
   have hlen := owns_len hown
   obtain ⟨Y, hY⟩ : ∃ Y, Y = Xt / 1000000000 := ⟨_, rfl⟩
   obtain ⟨r, hr⟩ : ∃ r, r = Xt % 1000000000 := ⟨_, rfl⟩
   rw [← hY, ← hr] at HSH
   have hYk : Y < 4294967296 ^ k := by rw [hY]; exact Nat.lt_of_le_of_lt (Nat.div_le_self _ _) hXk
   have HYX : Hid (Y = X / 10 ^ (9 * (t + 1))) := Lib.hid (by
    rw [hY, HXt.out, Nat.div_div_eq_div_mul, show 9 * (t + 1) = 9 * t + 9 by omega, Nat.pow_add])
   have HR : Hid (∀ i, i < 9 → r / 10 ^ i % 10 = X / 10 ^ (9 * t + i) % 10) := Lib.hid fun i h => by
    rw [hr, show (1000000000 : Nat) = 10 ^ 9 from rfl, low_dec Xt i h, HXt.out, Nat.div_div_eq_div_mul, ← Nat.pow_add]
   have hr9 : r < 1000000000 := by rw [hr]; exact Nat.mod_lt _ (by omega)
   have hYle : Y ≤ Xt := by rw [hY]; exact Nat.div_le_self _ _
   clear hk hY hr hgr h0 hXk
   go_wp2_with fail
   refine (HSH.out).mono ?_
   rintro e w' ⟨rfl, k2, rfl⟩
   have hown2 := row_owns (k := k2) (ty := 162) (c1 := arr .u32 (dg Y) n) hown (show V.heap.size < V.heap.size + 1 by omega)
   have hbel2 := row_below (k := k2) (c1 := arr .u32 (dg Y) n) hbel
   generalize (wr.row V.heap.size 162 (arr .u32 (dg Y) n)).drewN k2 = w2 at hown2 hbel2 ⊢
   clear hown hbel
   go_wp2_with fail
   go_loopw [3, 5, 21] (fun out rv cv wr => ∃ i : Nat, i ≤ 9 ∧ cv = .int .i64 (i : Int) ∧ rv = .int .u32 ((r / 10 ^ i : Nat) : Int) ∧ wr.ownsRow (V.heap.size + 1) 5 1 out (9 * t + i) (dv8 X (9 * t + i)) ∧ Below (V.heap.size + 1) (V.alloc (.cells (arr .u32 (dg Y) n) 162)) wr) (fun _ _ cv _ => 9 - (intOf cv).toNat)
   case atStart => exact ⟨0, Nat.zero_le _, rfl, by rw [Nat.pow_zero, Nat.div_one], hown2, hbel2⟩
   case round =>
    obtain ⟨i, hi9, rfl, rfl, hown, hbel⟩ := hrel
    have hsz : V.heap.size + 1 ≤ wr.heap.size := by have := hbel.size; rw [World.size_alloc] at this; exact this
    by_cases hlt : i < 9
    ·obtain ⟨ri, hri⟩ : ∃ z, z = r / 10 ^ i := ⟨_, rfl⟩
     obtain ⟨m, hm⟩ : ∃ z, z = ri % 10 := ⟨_, rfl⟩
     obtain ⟨r1, hr1⟩ : ∃ z, z = ri / 10 := ⟨_, rfl⟩
     obtain ⟨d, hd⟩ : ∃ z, z = 48 + m := ⟨_, rfl⟩
     have hmX : m = X / 10 ^ (9 * t + i) % 10 := by rw [hm, hri]; exact HR.out i hlt
     have hr1n : r1 = r / 10 ^ (i + 1) := by rw [hr1, hri, Nat.div_div_eq_div_mul, ← Nat.pow_succ]
     have hril : ri < 4294967296 := by rw [hri]; exact Nat.lt_of_le_of_lt (Nat.div_le_self _ _) (by omega)
     have Hs : Hid (dv8 X (9 * t + i) ++ [Value.int .u8 ((d : Nat) : Int)] = dv8 X (9 * t + (i + 1))) := Lib.hid (by rw [hd, hmX, dv8_succ]; rfl)
     have d1 : (48 : Int) + (m : Int) = (d : Int) := by omega
     have d2 : (d : Int) % 256 = (d : Int) := by omega
     have d3 : d < 256 := by omega
     have hm10 : m < 10 := by omega
     have hr1l : r1 < 4294967296 := by omega
     have Hr1 := Lib.hid hr1n
     have Hed : Hid ((ri : Int) / 10 = (r1 : Int)) := Lib.hid (by rw [hr1]; rfl)
     have hi2 : (i : Int) < 9 := by omega
     rw [← hri]
     have em : (ri : Int).tmod 10 = (m : Int) := by rw [hm]; exact Int.ofNat_tmod ri 10
     have ed : (ri : Int).tdiv 10 = (r1 : Int) := by rw [hr1]; exact Int.ofNat_tdiv ri 10
     clear hri hm hr1 hd hmX hr1n
     go_wp2_with (first | (at_builtin; refine wpList_append_own _ rfl _ _ 157 rfl (V.heap.size + 1) 5 i0 (.int .u8 0) 1 1 Tryz.underlying157 hi hz0 hz1 hz2 rfl (by decide) _ _ _ rfl (hown.alloc _) ⟨wr.heap.size, 0, none⟩ 1 1 [.int .u8 (d : Nat)] rfl rfl ?c1 ?c2 ?c3 ?c4 ?c5 ?_) | go_in)
     all_goals clear em ed
     case c1 =>
      intro j u hj
      match j, hj with
      | 0, hj => simp at hj; subst hj; simp [Addr.add]
     case c2 => intro u hu; simp at hu; subst hu; rfl
     case c3 => unfold maxLen; omega
     case c4 => omega
     case c5 => first | omega | (simp; done) | (simp; omega)
     intro v' w1 hown' hgrow _
     rw [Hs.out] at hown'
     have hb2 : Below (V.heap.size + 1) (V.alloc (.cells (arr .u32 (dg Y) n) 162)) w1 := (hbel.alloc hsz _).grown hgrow (by first | omega | (simp; done) | (simp; omega)) fun k' hk' => (hown.lt k' hk').1
     clear hown hgrow hbel
     go_wp2
     go_roundw
     case rel => exact ⟨i + 1, by omega, by go_num, by rw [← Hr1.out, ← Hed.out], hown', hb2⟩
     case measure => first | (simp [intOf]; done) | (simp [intOf]; omega)
    ·have e : i = 9 := by omega
     subst e
     have hrow : Row32 wr V.heap.size k (dg Y) := fun j hj => by
      rw [hbel.cell (p := ⟨V.heap.size, j, none⟩) (by show V.heap.size < _; omega), World.cell?_alloc_new]
      exact arr_get .u32 (dg Y) n j (by omega)
     have HT := Lib.hid (trim_c Y k n V.heap.size wr hYk (by omega) hkn hrow)
     have hl2 := owns_len hown
     clear hrow
     go_wp2_with fail
     refine (HT.out).mono ?_
     rintro e w' ⟨rfl, rfl⟩
     go_wp2_with fail
     exact ⟨⟨t + 1, Y, by omega, HYX, rfl, by rw [show 9 * (t + 1) = 9 * t + 9 by omega]; exact hown, hbel⟩, by rw [hl2, hlen]; omega⟩
theorem Print_c (x : Int) (w : World) (hx : (mg x).size ≤ 1048576) : Calls Tryz.prog 125 #[.agg #[.bool (sg x), .string (mg x)]] w fun e w' => e = .returned (.string (printS x)) ∧ Below w.heap.size w w' := by
 by_cases h0 : x = 0
 ·subst h0
  rw [show printS 0 = ⟨#[48]⟩ from rfl, show mg 0 = ⟨#[]⟩ from rfl, sg_zero]
  go_enter Tryz.func125, Tryz.ntmps125
  go_wp2
  go_ret
  exact ⟨rfl, by (repeat' (first | (with_reducible first | exact Below.refl _ _ | assumption | refine Below.plus0 ?_ _ | refine Below.alloc0 ?_ _ | refine Below.plus ?_ ?_ _ | refine Below.alloc ?_ ?_ _ | refine Below.drew ?_ | refine Below.drewN ?_ _) | (simp [go_sem]; done) | (simp [go_sem]; omega)))⟩
 ·have h := Print_pos (sg x) x.natAbs w (by omega) hx
  have e : (if sg x then (⟨(45 :: decS x.natAbs).toArray⟩ : ByteArray) else ⟨(decS x.natAbs).toArray⟩) = printS x := by
   unfold printS
   rw [if_neg h0]
   by_cases h1 : x < 0
   ·rw [sg_true x h1, if_pos rfl, if_pos h1]
   ·rw [sg_false x (by omega), if_neg (by decide), if_neg h1]
  rw [e] at h
  exact h
end Go.Proofs.YthdaimoankaciaaGreatDoor

end
section
/- The program's digits; strings.Cut. -/
set_option linter.unusedSimpArgs false
set_option linter.unusedVariables false
namespace Go.Proofs.YthdaimoankaciaaGreatDoor
open Go Go.RowKit
open Vi
theorem size_i64 (n : Int) (h1 : -9223372036854775808 ≤ n) (h2 : n ≤ 9223372036854775807) : (mg n).size ≤ 8 := by
 apply size_mag_le _ 8
 have e : (256 : Nat) ^ 8 = 18446744073709551616 := by decide
 rw [e]; omega
def DigS (s : ByteArray) : Prop := ∀ i (h : i < s.size), 48 ≤ (s[i]'h).toNat ∧ (s[i]'h).toNat ≤ 57
theorem row_plus_other {V u : World} {b j : Nat} {T : TypeId} {c : Array Value} {o : Obj} (hj : V.heap[j]? = some o) (hne : j ≠ b) : ((V.row b T c).plus u).heap[j]? = some o := by
 have h := (Array.getElem?_eq_some_iff.1 hj).1
 rw [World.heap_plus _ _ _ (by rw [World.size_row]; exact h), World.heap_row_other _ _ _ _ _ hne, hj]
theorem row_plus_same {V u : World} {b : Nat} {T : TypeId} {c : Array Value} (h : b < V.heap.size) : ((V.row b T c).plus u).heap[b]? = some (.cells c T (0, 0)) := by
 rw [World.heap_plus _ _ _ (by rw [World.size_row]; exact h), World.heap_row_same _ _ _ _ h]
theorem isEmpty_size (s : ByteArray) : s.toList.isEmpty = decide (s.size = 0) := by
 rw [toList_data]
 have : s.data.toList.length = s.size := rfl
 cases h : s.data.toList with
 | nil => rw [h] at this; simp at this; simp [← this]
 | cons a l =>
  rw [h] at this
  have h0 : s.size ≠ 0 := by rw [← this]; simp
  simp [h0]
set_option maxRecDepth 100000 in
set_option maxHeartbeats 3200000 in
theorem qDigits_c (s : ByteArray) (hs : s.size ≤ 4096) (r1 : Int) (r2 : Bool) (hok : (DigS s ∧ r1 = (pv s s.size : Nat) ∧ r2 = decide (0 < s.size)) ∨ (¬ DigS s ∧ r1 = 0 ∧ r2 = false)) (w : World) : Calls Tryz.prog 128 #[.string s] w fun z w' => z = .returned (.tuple #[.agg #[.bool (sg r1), .string (mg r1)], .bool r2]) ∧ Below w.heap.size w w' := by
 have HOK := Lib.hid hok
 clear hok
 obtain ⟨ten, hten⟩ : ∃ z : Int, z = 10 := ⟨_, rfl⟩
 have h10 : Hid (∀ w, Calls Tryz.prog 110 #[.int .i64 10] w fun z w' => z = .returned (.agg #[.bool (sg ten), .string (mg ten)]) ∧ Below w.heap.size w w') := Lib.hid fun w => by rw [hten]; exact FromInt_c 10 w (by decide) (by decide)
 have HTEN := Lib.hid hten
 clear hten
 go_enter Tryz.func128, Tryz.ntmps128
 go_upto_region 2 with fail
 obtain ⟨V1, hV1⟩ : ∃ z, z = ((w.alloc (.cells #[.bool false, .string ⟨#[]⟩] 23)).alloc (.cells #[.bool false, .string ⟨#[]⟩] 23)) := ⟨_, rfl⟩
 rw [← hV1]
 try rw [← hV1] at HV
 have q4 : V1.heap[w.heap.size + 1]? = some (.cells #[.bool false, .string ⟨#[]⟩] 23 (0, 0)) := by rw [hV1]; (repeat' (first | (with_reducible exact heap_at _ _ _ (by first | (simp [go_sem]; done) | omega)) | (with_reducible assumption) | (with_reducible exact World.heap_row_same _ _ _ _ (by first | assumption | omega | (with_reducible exact Nat.lt_of_lt_of_le (by first | assumption | omega | (simp [go_sem]; done) | (simp [go_sem]; omega)) (World.size_plus _ _)) | (simp [go_sem]; done) | (simp [go_sem]; omega))) | (rw [World.heap_row_other _ _ _ _ _ (by first | assumption | omega)]) | (rw [World.heap_plus _ _ _ (by first | assumption | omega | (with_reducible exact Nat.lt_of_lt_of_le (by first | assumption | omega | (simp [go_sem]; done) | (simp [go_sem]; omega)) (World.size_plus _ _)) | (simp [go_sem]; done) | (simp [go_sem]; omega))]) | (rw [heap_alloc_old _ _ (by first | assumption | omega | (with_reducible exact Nat.lt_of_lt_of_le (by first | assumption | omega | (simp [go_sem]; done) | (simp [go_sem]; omega)) (World.size_plus _ _)) | (simp [go_sem]; done) | (simp [go_sem]; omega))])))
 have q2 : V1.heap[w.heap.size]? = some (.cells #[.bool false, .string ⟨#[]⟩] 23 (0, 0)) := by rw [hV1]; (repeat' (first | (with_reducible exact heap_at _ _ _ (by first | (simp [go_sem]; done) | omega)) | (with_reducible assumption) | (with_reducible exact World.heap_row_same _ _ _ _ (by first | assumption | omega | (with_reducible exact Nat.lt_of_lt_of_le (by first | assumption | omega | (simp [go_sem]; done) | (simp [go_sem]; omega)) (World.size_plus _ _)) | (simp [go_sem]; done) | (simp [go_sem]; omega))) | (rw [World.heap_row_other _ _ _ _ _ (by first | assumption | omega)]) | (rw [World.heap_plus _ _ _ (by first | assumption | omega | (with_reducible exact Nat.lt_of_lt_of_le (by first | assumption | omega | (simp [go_sem]; done) | (simp [go_sem]; omega)) (World.size_plus _ _)) | (simp [go_sem]; done) | (simp [go_sem]; omega))]) | (rw [heap_alloc_old _ _ (by first | assumption | omega | (with_reducible exact Nat.lt_of_lt_of_le (by first | assumption | omega | (simp [go_sem]; done) | (simp [go_sem]; omega)) (World.size_plus _ _)) | (simp [go_sem]; done) | (simp [go_sem]; omega))])))
 replace hbw : Below w.heap.size w V1 := by rw [hV1]; (repeat' (first | (with_reducible first | exact Below.refl _ _ | assumption | refine Below.plus0 ?_ _ | refine Below.row ?_ ?_ _ _ | refine Below.alloc0 ?_ _ | refine Below.plus ?_ ?_ _ | refine Below.alloc ?_ ?_ _ | refine Below.drew ?_ | refine Below.drewN ?_ _) | (simp [go_sem]; done) | (simp [go_sem]; omega)))
 obtain ⟨b4, hb4⟩ : ∃ b, b = w.heap.size + 1 := ⟨_, rfl⟩
 rw [← hb4] at q4
 try simp only [← hb4]
 obtain ⟨b2, hb2⟩ : ∃ b, b = w.heap.size := ⟨_, rfl⟩
 rw [← hb2] at q2
 try simp only [← hb2]
 have y4 : w.heap.size ≤ b4 := by first | omega | (rw [hb4]; first | exact Nat.le_refl _ | (simp [go_sem]; done) | (simp [go_sem]; omega) | (have := hbw.size; simp [go_sem] at *; omega))
 have y2 : w.heap.size ≤ b2 := by first | omega | (rw [hb2]; first | exact Nat.le_refl _ | (simp [go_sem]; done) | (simp [go_sem]; omega) | (have := hbw.size; simp [go_sem] at *; omega))
 have n42 : b4 ≠ b2 := by first | omega | (rw [hb4, hb2]; first | (simp [go_sem]; done) | (simp [go_sem]; omega))
 have n24 : b2 ≠ b4 := n42.symm
 replace z4 : b4 < V1.heap.size := (Array.getElem?_eq_some_iff.1 q4).1
 replace c40 : V1.cell? ⟨b4, 0, none⟩ = some (.bool false) := (cell_at q4).trans rfl
 replace c41 : V1.cell? ⟨b4, 1, none⟩ = some (.string ⟨#[]⟩) := (cell_at q4).trans rfl
 replace z2 : b2 < V1.heap.size := (Array.getElem?_eq_some_iff.1 q2).1
 replace c20 : V1.cell? ⟨b2, 0, none⟩ = some (.bool false) := (cell_at q2).trans rfl
 replace c21 : V1.cell? ⟨b2, 1, none⟩ = some (.string ⟨#[]⟩) := (cell_at q2).trans rfl
 clear hV1 hb4 hb2
 (go_wp2_with fail; refine (h10.out _).mono ?_; rintro e w' ⟨rfl, hb⟩; (first | (with_reducible (have hb2 := World.plus_of_below ((World.below_plus _ _).trans (hb.mono (World.size_plus _ _)))); obtain ⟨u, rfl⟩ := hb2) | (obtain ⟨u, rfl⟩ := World.plus_of_below hb)); clear hb)
 go_upto_region 3 with fail
 obtain ⟨V2, hV2⟩ : ∃ z, z = ((V1.plus u).alloc (.cells #[.bool (sg ten), .string (mg ten)] 23)) := ⟨_, rfl⟩
 rw [← hV2]
 try rw [← hV2] at HV
 have q5 : V2.heap[(V1.plus u).heap.size]? = some (.cells #[.bool (sg ten), .string (mg ten)] 23 (0, 0)) := by rw [hV2]; (repeat' (first | (with_reducible exact heap_at _ _ _ (by first | (simp [go_sem]; done) | omega)) | (with_reducible assumption) | (with_reducible exact World.heap_row_same _ _ _ _ (by first | assumption | omega | (with_reducible exact Nat.lt_of_lt_of_le (by first | assumption | omega | (simp [go_sem]; done) | (simp [go_sem]; omega)) (World.size_plus _ _)) | (simp [go_sem]; done) | (simp [go_sem]; omega))) | (rw [World.heap_row_other _ _ _ _ _ (by first | assumption | omega)]) | (rw [World.heap_plus _ _ _ (by first | assumption | omega | (with_reducible exact Nat.lt_of_lt_of_le (by first | assumption | omega | (simp [go_sem]; done) | (simp [go_sem]; omega)) (World.size_plus _ _)) | (simp [go_sem]; done) | (simp [go_sem]; omega))]) | (rw [heap_alloc_old _ _ (by first | assumption | omega | (with_reducible exact Nat.lt_of_lt_of_le (by first | assumption | omega | (simp [go_sem]; done) | (simp [go_sem]; omega)) (World.size_plus _ _)) | (simp [go_sem]; done) | (simp [go_sem]; omega))])))
 replace q4 : V2.heap[b4]? = some (.cells #[.bool false, .string ⟨#[]⟩] 23 (0, 0)) := by rw [hV2]; (repeat' (first | (with_reducible exact heap_at _ _ _ (by first | (simp [go_sem]; done) | omega)) | (with_reducible assumption) | (with_reducible exact World.heap_row_same _ _ _ _ (by first | assumption | omega | (with_reducible exact Nat.lt_of_lt_of_le (by first | assumption | omega | (simp [go_sem]; done) | (simp [go_sem]; omega)) (World.size_plus _ _)) | (simp [go_sem]; done) | (simp [go_sem]; omega))) | (rw [World.heap_row_other _ _ _ _ _ (by first | assumption | omega)]) | (rw [World.heap_plus _ _ _ (by first | assumption | omega | (with_reducible exact Nat.lt_of_lt_of_le (by first | assumption | omega | (simp [go_sem]; done) | (simp [go_sem]; omega)) (World.size_plus _ _)) | (simp [go_sem]; done) | (simp [go_sem]; omega))]) | (rw [heap_alloc_old _ _ (by first | assumption | omega | (with_reducible exact Nat.lt_of_lt_of_le (by first | assumption | omega | (simp [go_sem]; done) | (simp [go_sem]; omega)) (World.size_plus _ _)) | (simp [go_sem]; done) | (simp [go_sem]; omega))])))
 replace q2 : V2.heap[b2]? = some (.cells #[.bool false, .string ⟨#[]⟩] 23 (0, 0)) := by rw [hV2]; (repeat' (first | (with_reducible exact heap_at _ _ _ (by first | (simp [go_sem]; done) | omega)) | (with_reducible assumption) | (with_reducible exact World.heap_row_same _ _ _ _ (by first | assumption | omega | (with_reducible exact Nat.lt_of_lt_of_le (by first | assumption | omega | (simp [go_sem]; done) | (simp [go_sem]; omega)) (World.size_plus _ _)) | (simp [go_sem]; done) | (simp [go_sem]; omega))) | (rw [World.heap_row_other _ _ _ _ _ (by first | assumption | omega)]) | (rw [World.heap_plus _ _ _ (by first | assumption | omega | (with_reducible exact Nat.lt_of_lt_of_le (by first | assumption | omega | (simp [go_sem]; done) | (simp [go_sem]; omega)) (World.size_plus _ _)) | (simp [go_sem]; done) | (simp [go_sem]; omega))]) | (rw [heap_alloc_old _ _ (by first | assumption | omega | (with_reducible exact Nat.lt_of_lt_of_le (by first | assumption | omega | (simp [go_sem]; done) | (simp [go_sem]; omega)) (World.size_plus _ _)) | (simp [go_sem]; done) | (simp [go_sem]; omega))])))
 replace hbw : Below w.heap.size w V2 := by rw [hV2]; (repeat' (first | (with_reducible first | exact Below.refl _ _ | assumption | refine Below.plus0 ?_ _ | refine Below.row ?_ ?_ _ _ | refine Below.alloc0 ?_ _ | refine Below.plus ?_ ?_ _ | refine Below.alloc ?_ ?_ _ | refine Below.drew ?_ | refine Below.drewN ?_ _) | (simp [go_sem]; done) | (simp [go_sem]; omega)))
 obtain ⟨b5, hb5⟩ : ∃ b, b = (V1.plus u).heap.size := ⟨_, rfl⟩
 rw [← hb5] at q5
 try simp only [← hb5]
 have y5 : w.heap.size ≤ b5 := by first | omega | (rw [hb5]; first | exact Nat.le_refl _ | (simp [go_sem]; done) | (simp [go_sem]; omega) | (have := hbw.size; simp [go_sem] at *; omega))
 have n45 : b4 ≠ b5 := by first | omega | (rw [hb5]; first | (simp [go_sem]; done) | (simp [go_sem]; omega))
 have n54 : b5 ≠ b4 := n45.symm
 have n25 : b2 ≠ b5 := by first | omega | (rw [hb5]; first | (simp [go_sem]; done) | (simp [go_sem]; omega))
 have n52 : b5 ≠ b2 := n25.symm
 replace z5 : b5 < V2.heap.size := (Array.getElem?_eq_some_iff.1 q5).1
 replace c50 : V2.cell? ⟨b5, 0, none⟩ = some (.bool (sg ten)) := (cell_at q5).trans rfl
 replace c51 : V2.cell? ⟨b5, 1, none⟩ = some (.string (mg ten)) := (cell_at q5).trans rfl
 replace z4 : b4 < V2.heap.size := (Array.getElem?_eq_some_iff.1 q4).1
 replace c40 : V2.cell? ⟨b4, 0, none⟩ = some (.bool false) := (cell_at q4).trans rfl
 replace c41 : V2.cell? ⟨b4, 1, none⟩ = some (.string ⟨#[]⟩) := (cell_at q4).trans rfl
 replace z2 : b2 < V2.heap.size := (Array.getElem?_eq_some_iff.1 q2).1
 replace c20 : V2.cell? ⟨b2, 0, none⟩ = some (.bool false) := (cell_at q2).trans rfl
 replace c21 : V2.cell? ⟨b2, 1, none⟩ = some (.string ⟨#[]⟩) := (cell_at q2).trans rfl
 clear hV2 hb5
 go_wp2_with fail
 obtain ⟨k, hk⟩ : ∃ k, k = V2.heap.size := ⟨_, rfl⟩
 have n5 : b5 ≠ k := by omega
 have n4 : b4 ≠ k := by omega
 have n2 : b2 ≠ k := by omega
 have yk : w.heap.size ≤ k := by have := hbw.size; omega
 rw [← hk]
 go_loopw [] (fun wr => ∃ p : Nat, p ≤ s.size ∧ Hid (∀ i (h : i < s.size), i < p → 48 ≤ (s[i]'h).toNat ∧ (s[i]'h).toNat ≤ 57) ∧ wr.heap[k]? = some (.stringIter s p) ∧ wr.heap[b5]? = some (.cells #[.bool (sg ten), .string (mg ten)] 23 (0, 0)) ∧ wr.heap[b4]? = some (.cells #[.bool (sg ((pv s p : Nat) : Int)), .string (mg ((pv s p : Nat) : Int))] 23 (0, 0)) ∧ wr.heap[b2]? = some (.cells #[.bool false, .string ⟨#[]⟩] 23 (0, 0)) ∧ Below w.heap.size w wr) (fun wr => s.size - wr.iterPos k)
 case atStart =>
  refine ⟨0, Nat.zero_le _, Lib.hid (fun i h hi => absurd hi (by omega)), ?_, ?_, ?_, ?_, ?_⟩
  ·rw [hk]; exact World.iter_heap ..
  ·show (V2.alloc _).heap[b5]? = _
   rw [heap_alloc_old _ _ z5]; exact q5
  ·show (V2.alloc _).heap[b4]? = _
   rw [heap_alloc_old _ _ z4]; exact q4
  ·show (V2.alloc _).heap[b2]? = _
   rw [heap_alloc_old _ _ z2]; exact q2
  ·exact Below.alloc hbw hbw.size _
 case round =>
  obtain ⟨p, hp, HP, qk, r5, r4, r2', hbel⟩ := hrel
  clear q5 q4 q2 c50 c51 c40 c41 c20 c21 z5 z4 z2 hbw hk
  have HPK := Lib.hid (iterPos_of qk)
  by_cases hlt : p < s.size
  ·obtain ⟨c, hc⟩ : ∃ c, c = (s[p]'hlt).toNat := ⟨_, rfl⟩
   have HC := Lib.hid hc
   have step : ∀ (V : World) (p' : Nat), V = wr.iterAt k s p' → V.heap[k]? = some (.stringIter s p') ∧ V.heap[b5]? = some (.cells #[.bool (sg ten), .string (mg ten)] 23 (0, 0)) ∧ V.heap[b4]? = some (.cells #[.bool (sg ((pv s p : Nat) : Int)), .string (mg ((pv s p : Nat) : Int))] 23 (0, 0)) ∧ V.heap[b2]? = some (.cells #[.bool false, .string ⟨#[]⟩] 23 (0, 0)) ∧ Below w.heap.size w V := by
    rintro V p' rfl
    exact ⟨Lib.iterAt_heap _ _ _ _ _ qk, by rw [Lib.iterAt_other _ _ _ _ _ n5]; exact r5, by rw [Lib.iterAt_other _ _ _ _ _ n4]; exact r4, by rw [Lib.iterAt_other _ _ _ _ _ n2]; exact r2', Lib.below_iterAt hbel yk _ _⟩
   by_cases hd : 48 ≤ c ∧ c ≤ 57
   ·
    have hnx : ∀ ty, (Instr.next (.pointer (some ⟨k, 0, none⟩)) true ty).run Tryz.prog wr = _ := fun ty => Lib.run_next_ascii_at wr k s p ty qk hlt (by omega)
    rw [← hc] at hnx
    obtain ⟨V, hV⟩ : ∃ V, V = wr.iterAt k s (p + 1) := ⟨_, rfl⟩
    rw [← hV] at hnx
    obtain ⟨qk', q5, q4, q2, hbw⟩ := step V _ hV
    have QK := Lib.hid qk'
    have HV := Lib.hid hV
    have hsz := hbel.size
    clear step hV qk qk' r5 r4 r2' hbel hc
    have c40 := (cell_at (i := 0) q4).trans rfl
    have c41 := (cell_at (i := 1) q4).trans rfl
    have c50 := (cell_at (i := 0) q5).trans rfl
    have c51 := (cell_at (i := 1) q5).trans rfl
    have z4 := (Array.getElem?_eq_some_iff.1 q4).1
    have d1 : decide ((c : Int) < 48) = false := decide_eq_false (by omega)
    have d2 : decide ((57 : Int) < (c : Int)) = false := decide_eq_false (by omega)
    go_upto_region 8 with fail
    obtain ⟨X, hX⟩ : ∃ z : Nat, z = pv s p := ⟨_, rfl⟩
    rw [← hX] at c40 c41 q4
    have sX : (mg ((X : Nat) : Int)).size ≤ s.size := by
     rw [hX, mg_nat]
     refine size_mag_le _ _ (Nat.lt_of_lt_of_le (pv_lt s p (fun i hi => ?_)) (Nat.le_trans (Nat.pow_le_pow_left (by decide : 10 ≤ 256) p) (Nat.pow_le_pow_right (by decide) (by omega))))
     have h1 := HP.out i (by omega) hi
     have h2 := dgt_le s i (by omega) (by unfold isD; simp; omega)
     exact h2.1
    obtain ⟨M, hM⟩ : ∃ z : Int, z = (X : Int) * 10 := ⟨_, rfl⟩
    obtain ⟨Y, hY⟩ : ∃ z : Nat, z = pv s (p + 1) := ⟨_, rfl⟩
    have sM : (mg M).size ≤ s.size + 2 := by
     have h1 := lt_of_size_mag X s.size (by rw [← mg_nat]; exact sX)
     rw [hM]
     refine size_mag_le _ _ ?_
     rw [Nat.pow_add]
     omega
    have h1 : Hid (∀ w, Calls Tryz.prog 107 #[.agg #[.bool (sg (X : Int)), .string (mg (X : Int))], .agg #[.bool (sg ten), .string (mg ten)]] w fun z w' => z = .returned (.agg #[.bool (sg M), .string (mg M)]) ∧ Below w.heap.size w w') := Lib.hid fun w => by rw [HTEN.out, hM]; exact Mul_c (X : Int) 10 w (by omega) (by decide)
    have h2 : Hid (∀ w, Calls Tryz.prog 110 #[.int .i64 ((c : Int) - 48)] w fun z w' => z = .returned (.agg #[.bool (sg ((c : Int) - 48)), .string (mg ((c : Int) - 48))]) ∧ Below w.heap.size w w') := Lib.hid fun w => FromInt_c ((c : Int) - 48) w (by omega) (by omega)
    have h3 : Hid (∀ w, Calls Tryz.prog 109 #[.agg #[.bool (sg M), .string (mg M)], .agg #[.bool (sg ((c : Int) - 48)), .string (mg ((c : Int) - 48))]] w fun z w' => z = .returned (.agg #[.bool (sg (Y : Int)), .string (mg (Y : Int))]) ∧ Below w.heap.size w w') := Lib.hid fun w => by
     have e : (Y : Int) = M + ((c : Int) - 48) := by
      have h1 := dgt_le s p hlt (by unfold isD; have h9 := HC.out; simp; omega)
      have h2 := HC.out
      rw [hY, pv_succ, hM, hX, h2]
      omega
     rw [e]
     exact Add_c M ((c : Int) - 48) w (by omega) (by have := size_i64 ((c : Int) - 48) (by omega) (by omega); omega)
    have HX := Lib.hid hX
    have HY := Lib.hid hY
    have HM2 := Lib.hid hd
    clear hX hM hY sX sM
    (go_wp2_with fail; refine (h1.out _).mono ?_; rintro e w' ⟨rfl, hb⟩; (first | (with_reducible (have hb2 := World.plus_of_below ((World.below_plus _ _).trans (hb.mono (World.size_plus _ _)))); obtain ⟨u, rfl⟩ := hb2) | (obtain ⟨u, rfl⟩ := World.plus_of_below hb)); clear hb)
    go_wp2_with fail
    (go_wp2_with fail; refine (h2.out _).mono ?_; rintro e w' ⟨rfl, hb⟩; (first | (with_reducible (have hb2 := World.plus_of_below ((World.below_plus _ _).trans (hb.mono (World.size_plus _ _)))); obtain ⟨u, rfl⟩ := hb2) | (obtain ⟨u, rfl⟩ := World.plus_of_below hb)); clear hb)
    go_wp2_with fail
    (go_wp2_with fail; refine (h3.out _).mono ?_; rintro e w' ⟨rfl, hb⟩; (first | (with_reducible (have hb2 := World.plus_of_below ((World.below_plus _ _).trans (hb.mono (World.size_plus _ _)))); obtain ⟨u, rfl⟩ := hb2) | (obtain ⟨u, rfl⟩ := World.plus_of_below hb)); clear hb)
    have eW := World.row_self V _ _ _ q4
    rw [← eW]
    clear eW
    go_wp2_with fail
    refine ⟨⟨p + 1, by omega, Lib.hid (fun i h hi => ?_), row_plus_other QK.out n4.symm, row_plus_other q5 n54, ?_, row_plus_other q2 n24, ?_⟩, ?_⟩
    ·by_cases e : i = p
     ·subst e
      have := HC.out
      omega
     ·exact HP.out i h (by omega)
    ·rw [← HY.out]; exact row_plus_same z4
    ·exact Below.plus (hbw.row y4 _ _) (hbw.row y4 _ _).size u
    ·rw [HPK.out, iterPos_of (row_plus_other QK.out n4.symm)]
     omega
   ·
    have hND : ¬ DigS s := fun h => hd (by have := h p hlt; omega)
    obtain ⟨hr1, hr2⟩ : r1 = 0 ∧ r2 = false := by
     rcases HOK.out with h | h
     ·exact absurd h.1 hND
     ·exact h.2
    subst hr1 hr2
    obtain ⟨R, hR⟩ : ∃ R : Nat, R = (Utf8.decode s p).1 := ⟨_, rfl⟩
    have hR2 : R < 48 ∨ ¬ R < 48 ∧ 57 < R := by
     by_cases h128 : c < 128
     ·have h1 := decode_ascii s p hlt (by omega)
      rw [h1] at hR
      simp only at hR
      omega
     ·have h1 := (decode_high s p hlt (by omega)).1
      omega
    have hnx : ∀ ty, (Instr.next (.pointer (some ⟨k, 0, none⟩)) true ty).run Tryz.prog wr = _ := fun ty => Lib.run_next_any_at wr k s p ty qk hlt
    rw [← hR] at hnx
    obtain ⟨V, hV⟩ : ∃ V, V = wr.iterAt k s (p + (Utf8.decode s p).2) := ⟨_, rfl⟩
    rw [← hV] at hnx
    obtain ⟨_, _, _, q2, hbw⟩ := step V _ hV
    clear step hV qk r5 r4 r2' hbel hc HOK hd hND hR
    have z2 := (Array.getElem?_eq_some_iff.1 q2).1
    rcases hR2 with h48 | ⟨h48, h57⟩
    ·have d1 : decide ((R : Int) < 48) = true := decide_eq_true (by omega)
     go_upto_region 7 with fail
     have eW := World.row_self V _ _ _ q2
     rw [← eW]
     clear eW
     go_wp2_with fail
     refine bodyPost_ret (by simp [results, Tryz.results128, go_sem, z2]; rfl) rfl ?_
     exact ⟨rfl, by (repeat' (first | (with_reducible first | exact Below.refl _ _ | assumption | refine Below.plus0 ?_ _ | refine Below.row ?_ ?_ _ _ | refine Below.alloc0 ?_ _ | refine Below.plus ?_ ?_ _ | refine Below.alloc ?_ ?_ _ | refine Below.drew ?_ | refine Below.drewN ?_ _) | (simp [go_sem]; done) | (simp [go_sem]; omega)))⟩
    ·have d1 : decide ((R : Int) < 48) = false := decide_eq_false (by omega)
     have d2 : decide ((57 : Int) < (R : Int)) = true := decide_eq_true (by omega)
     go_upto_region 7 with fail
     have eW := World.row_self V _ _ _ q2
     rw [← eW]
     clear eW
     go_wp2_with fail
     refine bodyPost_ret (by simp [results, Tryz.results128, go_sem, z2]; rfl) rfl ?_
     exact ⟨rfl, by (repeat' (first | (with_reducible first | exact Below.refl _ _ | assumption | refine Below.plus0 ?_ _ | refine Below.row ?_ ?_ _ _ | refine Below.alloc0 ?_ _ | refine Below.plus ?_ ?_ _ | refine Below.alloc ?_ ?_ _ | refine Below.drew ?_ | refine Below.drewN ?_ _) | (simp [go_sem]; done) | (simp [go_sem]; omega)))⟩
  ·have ep : p = s.size := by omega
   have hDS : DigS s := fun i h => HP.out i h (by omega)
   obtain ⟨hr1, hr2⟩ : r1 = (pv s s.size : Nat) ∧ r2 = decide (0 < s.size) := by
    rcases HOK.out with h | h
    ·exact h.2
    ·exact absurd hDS h.1
   have hr3 : r2 = !s.toList.isEmpty := by rw [hr2, isEmpty_size]; by_cases h : s.size = 0 <;> simp [h] <;> omega
   have hnx : ∀ ty, (Instr.next (.pointer (some ⟨k, 0, none⟩)) true ty).run Tryz.prog wr = _ := fun ty => Lib.run_next_end_at wr k s p ty qk hlt
   obtain ⟨X, hX⟩ : ∃ z : Nat, z = pv s p := ⟨_, rfl⟩
   rw [← hX] at r4
   have HR1 : Hid (r1 = (X : Int)) := Lib.hid (by rw [hr1, hX, ep])
   have HR3 := Lib.hid hr3
   have c40 := (cell_at (i := 0) r4).trans rfl
   have c41 := (cell_at (i := 1) r4).trans rfl
   have z2 := (Array.getElem?_eq_some_iff.1 r2').1
   have z4 := (Array.getElem?_eq_some_iff.1 r4).1
   clear hr1 hr2 hr3 HOK hX ep hDS r5 qk
   cases hbe : s.toList.isEmpty
   ·have HBE := Lib.hid hbe
    go_upto_region 9 with fail
    have eW := World.row_self wr _ _ _ r2'
    rw [← eW]
    clear eW
    go_wp2_with fail
    refine bodyPost_ret (by simp [results, Tryz.results128, go_sem, z2]; rfl) rfl ?_
    exact ⟨by rw [HR1.out, HR3.out, HBE.out]; rfl, by (repeat' (first | (with_reducible first | exact Below.refl _ _ | assumption | refine Below.plus0 ?_ _ | refine Below.row ?_ ?_ _ _ | refine Below.alloc0 ?_ _ | refine Below.plus ?_ ?_ _ | refine Below.alloc ?_ ?_ _ | refine Below.drew ?_ | refine Below.drewN ?_ _) | (simp [go_sem]; done) | (simp [go_sem]; omega)))⟩
   ·have HBE := Lib.hid hbe
    go_upto_region 9 with fail
    have eW := World.row_self wr _ _ _ r2'
    rw [← eW]
    clear eW
    go_wp2_with fail
    refine bodyPost_ret (by simp [results, Tryz.results128, go_sem, z2]; rfl) rfl ?_
    exact ⟨by rw [HR1.out, HR3.out, HBE.out]; rfl, by (repeat' (first | (with_reducible first | exact Below.refl _ _ | assumption | refine Below.plus0 ?_ _ | refine Below.row ?_ ?_ _ _ | refine Below.alloc0 ?_ _ | refine Below.plus ?_ ?_ _ | refine Below.alloc ?_ ?_ _ | refine Below.drew ?_ | refine Below.drewN ?_ _) | (simp [go_sem]; done) | (simp [go_sem]; omega)))⟩
theorem cut1_no (s : ByteArray) (h : Lib.indexByte s.data.toList 47 = -1) (w : World) : Calls Tryz.prog 127 #[.string s, .string ⟨#[47]⟩] w fun e w' => e = .returned (.tuple #[.string s, .string ⟨#[]⟩, .bool false]) ∧ Below w.heap.size w w' := by
 have h1 : Hid (∀ w, Calls Tryz.prog 169 #[.string s, .string ⟨#[47]⟩] w fun e w' => e = .returned (.tuple #[.string s, .string ⟨#[]⟩, .bool false]) ∧ Below w.heap.size w w') := Lib.hid fun w => by
  have h2 : Hid (∀ w, Calls Tryz.prog 188 #[.string s, .string ⟨#[47]⟩] w fun e w' => e = .returned (.int .i64 (-1)) ∧ w = w') := Lib.hid fun w => (Tryz.stringslite_Index_one s 47 w).mono fun e w' hh => ⟨by rw [hh.1, h], hh.2.symm⟩
  clear h
  go_enter Tryz.func169, Tryz.ntmps169
  go_wp2_with fail
  go_at_call 188; refine (h2.out _).mono ?_
  rintro e w' ⟨rfl, rfl⟩
  go_wp2_with fail
  go_ret3
  exact ⟨rfl, by (repeat' (first | (with_reducible first | exact Below.refl _ _ | assumption | refine Below.plus0 ?_ _ | refine Below.alloc0 ?_ _ | refine Below.plus ?_ ?_ _ | refine Below.alloc ?_ ?_ _ | refine Below.drew ?_ | refine Below.drewN ?_ _) | (simp [go_sem]; done) | (simp [go_sem]; omega)))⟩
 clear h
 go_enter Tryz.func127, Tryz.ntmps127
 go_wp2_with fail
 (go_wp2_with fail; refine (h1.out _).mono ?_; rintro e w' ⟨rfl, hb⟩; (first | (with_reducible (have hb2 := World.plus_of_below ((World.below_plus _ _).trans (hb.mono (World.size_plus _ _)))); obtain ⟨u, rfl⟩ := hb2) | (obtain ⟨u, rfl⟩ := World.plus_of_below hb)); clear hb)
 go_wp2_with fail
 go_ret3
 exact ⟨rfl, by (repeat' (first | (with_reducible first | exact Below.refl _ _ | assumption | refine Below.plus0 ?_ _ | refine Below.alloc0 ?_ _ | refine Below.plus ?_ ?_ _ | refine Below.alloc ?_ ?_ _ | refine Below.drew ?_ | refine Below.drewN ?_ _) | (simp [go_sem]; done) | (simp [go_sem]; omega)))⟩
theorem cut1_yes (s : ByteArray) (i : Nat) (h : Lib.indexByte s.data.toList 47 = (i : Int)) (hi : i < s.size) (hs : s.size ≤ 4294967296) (w : World) : Calls Tryz.prog 127 #[.string s, .string ⟨#[47]⟩] w fun e w' => e = .returned (.tuple #[.string (s.extract 0 i), .string (s.extract (i + 1) s.size), .bool true]) ∧ Below w.heap.size w w' := by
 have h1 : Hid (∀ w, Calls Tryz.prog 169 #[.string s, .string ⟨#[47]⟩] w fun e w' => e = .returned (.tuple #[.string (s.extract 0 i), .string (s.extract (i + 1) s.size), .bool true]) ∧ Below w.heap.size w w') := Lib.hid fun w => by
  have h2 : Hid (∀ w, Calls Tryz.prog 188 #[.string s, .string ⟨#[47]⟩] w fun e w' => e = .returned (.int .i64 (i : Int)) ∧ w = w') := Lib.hid fun w => (Tryz.stringslite_Index_one s 47 w).mono fun e w' hh => ⟨by rw [hh.1, h], hh.2.symm⟩
  have hw : wrap64 ((i : Int) + 1) = ((i + 1 : Nat) : Int) := by unfold wrap64; omega
  have hle : i + 1 ≤ s.size := by omega
  have hle2 : i ≤ s.size := by omega
  have hd : decide ((0 : Int) ≤ (i : Int)) = true := decide_eq_true (by omega)
  have HW := Lib.hid hw
  clear h hw
  go_enter Tryz.func169, Tryz.ntmps169
  go_wp2_with fail
  go_at_call 188; refine (h2.out _).mono ?_
  rintro e w' ⟨rfl, rfl⟩
  go_upto_region 3 with fail
  (refine wp_region_exact (by kernel_rfl) (by kernel_rfl) ?_; repeat go_big_quiet_step (fail)); (refine wpQuiet_nil ?_; rintro _ rfl)
  go_wp2_with fail
  go_ret3
  exact ⟨rfl, by (repeat' (first | (with_reducible first | exact Below.refl _ _ | assumption | refine Below.plus0 ?_ _ | refine Below.alloc0 ?_ _ | refine Below.plus ?_ ?_ _ | refine Below.alloc ?_ ?_ _ | refine Below.drew ?_ | refine Below.drewN ?_ _) | (simp [go_sem]; done) | (simp [go_sem]; omega)))⟩
 clear h
 go_enter Tryz.func127, Tryz.ntmps127
 go_wp2_with fail
 (go_wp2_with fail; refine (h1.out _).mono ?_; rintro e w' ⟨rfl, hb⟩; (first | (with_reducible (have hb2 := World.plus_of_below ((World.below_plus _ _).trans (hb.mono (World.size_plus _ _)))); obtain ⟨u, rfl⟩ := hb2) | (obtain ⟨u, rfl⟩ := World.plus_of_below hb)); clear hb)
 go_wp2_with fail
 go_ret3
 exact ⟨rfl, by (repeat' (first | (with_reducible first | exact Below.refl _ _ | assumption | refine Below.plus0 ?_ _ | refine Below.alloc0 ?_ _ | refine Below.plus ?_ ?_ _ | refine Below.alloc ?_ ?_ _ | refine Below.drew ?_ | refine Below.drewN ?_ _) | (simp [go_sem]; done) | (simp [go_sem]; omega)))⟩
end Go.Proofs.YthdaimoankaciaaGreatDoor

end
section
/- What chapter 2's laws share: valid, den, short; Print. -/
set_option linter.unusedSimpArgs false
set_option linter.unusedVariables false
namespace Go.Proofs.YthdaimoankaciaaGreatDoor
open Go Go.RowKit Go.Sy
open Vi
theorem printS_size (x : Int) (h : (mg x).size ≤ 1048576) : (printS x).size ≤ 4194304 := by
 have h1 : (decS x.natAbs).length ≤ 3 * 1048576 := decS_len _ _ h
 unfold printS
 split
 ·decide
 ·split
  ·show (45 :: decS x.natAbs).length ≤ _
   rw [List.length_cons]; omega
  ·show (decS x.natAbs).length ≤ _
   omega
theorem iPrint (x : Int) (h : (mg x).size ≤ 1048576) : Sp Tryz.prog 125 [] [iV x] (.string (printS x)) [] := Sp.of (fun xs w => Tryz.call125 xs w) (by kernel_rfl) (by kernel_rfl) (fun w => Print_c x w h)
def printQ (p : Rat) : ByteArray := if dn p = 0 then printS p.num else printS p.num ++ ⟨#[47]⟩ ++ printS (dn p)
theorem pPrint (p : Rat) (hp : Fits p) : Sp Tryz.prog 75 [] [rV p] (.string (printQ p)) [] := by
 have s1 := hp.mn
 have s2 := hp.md
 have h1 := iPrint p.num (by omega)
 have h2 := iPrint (dn p) (by omega)
 have z1 := printS_size p.num (by omega)
 have z2 := printS_size (dn p) (by omega)
 unfold printQ
 by_cases h : dn p = 0
 ·rw [if_pos h]
  exact walk (code := Tryz.f75.body.getD .skip) [x2 (binI0 (dn p) (b := true) (by rw [h]; rfl)), c h1] fol Tryz.func75 (by kernel_rfl) (fun xs w => Tryz.call75 xs w) (by kernel_rfl)
 ·rw [if_neg h]
  exact walk (code := Tryz.f75.body.getD .skip) [x2 (binI0 (dn p) (b := false) (by simpa using h)), c h1, x2 (bin_cat (printS p.num) ⟨#[47]⟩ (by show (printS p.num).size + 1 ≤ _; omega)), c h2, x2 (bin_cat (printS p.num ++ ⟨#[47]⟩) (printS (dn p)) (by rw [ByteArray.size_append]; show (printS p.num).size + 1 + _ ≤ _; omega))] fol Tryz.func75 (by kernel_rfl) (fun xs w => Tryz.call75 xs w) (by kernel_rfl)
end Go.Proofs.YthdaimoankaciaaGreatDoor
set_option linter.unusedSimpArgs false
set_option linter.unusedVariables false
namespace Go.Proofs.YthdaimoankaciaaGreatDoor
open Go Go.RowKit Go.Sy
open Vi
def qneg (s : ByteArray) : Bool := Lib.hasPrefix s.data.toList [45]
def qrest (s : ByteArray) : ByteArray := ⟨(Lib.trimPrefix s.data.toList [45]).toArray⟩
def cutI (T : ByteArray) : Int := Lib.indexByte T.data.toList 47
def cutA (T : ByteArray) : ByteArray := if cutI T = -1 then T else T.extract 0 (cutI T).toNat
def cutB (T : ByteArray) : ByteArray := if cutI T = -1 then ⟨#[]⟩ else T.extract ((cutI T).toNat + 1) T.size
def cutH (T : ByteArray) : Bool := decide (cutI T ≠ -1)
def okD (s : ByteArray) : Bool := s.data.toList.all isD && decide (0 < s.size)
def parseQ (s : ByteArray) : Rat × Int :=
 if 4096 < s.size then (0, 28) else
 if !(okD (cutA (qrest s))) || (cutH (qrest s) && !(okD (cutB (qrest s)))) then (0, 15) else
 if (if cutH (qrest s) then pv (cutB (qrest s)) (cutB (qrest s)).size else 1) = 0 then (0, 6) else
 (Rat.divInt (if qneg s then -((pv (cutA (qrest s)) (cutA (qrest s)).size : Nat) : Int) else (pv (cutA (qrest s)) (cutA (qrest s)).size : Nat)) ((if cutH (qrest s) then pv (cutB (qrest s)) (cutB (qrest s)).size else 1 : Nat) : Int), 0)
theorem digS_iff (s : ByteArray) : DigS s ↔ s.data.toList.all isD = true := by
 rw [List.all_eq_true]
 unfold DigS
 constructor
 ·intro h b hb
  obtain ⟨i, hi, rfl⟩ := List.getElem_of_mem hb
  have hi2 : i < s.size := by simpa using hi
  have := h i hi2
  unfold isD
  simp only [Bool.and_eq_true, decide_eq_true_eq]
  exact this
 ·intro h i hi
  have h1 := h (s[i]'hi) (by
   have : s.data.toList[i]'(by simpa using hi) = s[i]'hi := rfl
   rw [← this]; exact List.getElem_mem _)
  unfold isD at h1
  simpa using h1
theorem trim_len (l p : List UInt8) : (Lib.trimPrefix l p).length ≤ l.length := by
 unfold Lib.trimPrefix
 split <;> simp
theorem qrest_size (s : ByteArray) : (qrest s).size ≤ s.size := by
 have h := trim_len s.data.toList [45]
 show (Lib.trimPrefix s.data.toList [45]).toArray.size ≤ s.data.size
 simpa using h
theorem cutI_lt (T : ByteArray) : cutI T ≠ -1 → ∃ i : Nat, cutI T = (i : Int) ∧ i < T.size := by
 intro h
 have h1 := Lib.indexByte_ge T.data.toList 47
 have e : cutI T = Lib.indexByte T.data.toList 47 := rfl
 refine ⟨(cutI T).toNat, by omega, ?_⟩
 have h2 := Lib.indexByte_some (l := T.data.toList) (c := 47) (o := (cutI T).toNat) (by rw [← e]; omega)
 have h3 := (List.getElem?_eq_some_iff.1 h2.1).1
 simpa using h3
theorem cutA_size (T : ByteArray) : (cutA T).size ≤ T.size := by
 unfold cutA
 split
 ·exact Nat.le_refl _
 ·rw [ByteArray.size_extract]; omega
theorem cutB_size (T : ByteArray) : (cutB T).size ≤ T.size := by
 unfold cutB
 split
 ·exact Nat.zero_le _
 ·rw [ByteArray.size_extract]; omega
theorem Cut_c (T : ByteArray) (hT : T.size ≤ 4294967296) (w : World) : Calls Tryz.prog 127 #[.string T, .string ⟨#[47]⟩] w fun e w' => e = .returned (.tuple #[.string (cutA T), .string (cutB T), .bool (cutH T)]) ∧ Below w.heap.size w w' := by
 unfold cutA cutB cutH
 by_cases h : cutI T = -1
 ·rw [if_pos h, if_pos h, decide_eq_false (by simpa using h)]
  exact cut1_no T h w
 ·rw [if_neg h, if_neg h, decide_eq_true h]
  obtain ⟨i, h1, h2⟩ := cutI_lt T h
  have e : (cutI T).toNat = i := by omega
  rw [e]
  exact cut1_yes T i h1 h2 hT w
def dvl (s : ByteArray) : Int := if s.data.toList.all isD then ((pv s s.size : Nat) : Int) else 0
theorem qDigits_c2 (s : ByteArray) (hs : s.size ≤ 4096) (w : World) : Calls Tryz.prog 128 #[.string s] w fun z w' => z = .returned (.tuple #[.agg #[.bool (sg (dvl s)), .string (mg (dvl s))], .bool (okD s)]) ∧ Below w.heap.size w w' := by
 refine qDigits_c s hs (dvl s) (okD s) ?_ w
 unfold dvl okD
 by_cases h : s.data.toList.all isD = true
 ·exact .inl ⟨(digS_iff s).2 h, by rw [if_pos h], by rw [h]; simp⟩
 ·exact .inr ⟨fun h2 => h ((digS_iff s).1 h2), by rw [if_neg h], by simp [h]⟩
theorem dvl_ok (s : ByteArray) (h : okD s = true) : dvl s = ((pv s s.size : Nat) : Int) := by
 unfold okD at h
 simp only [Bool.and_eq_true] at h
 unfold dvl
 rw [if_pos h.1]
theorem pv_size (s : ByteArray) (h : okD s = true) (hs : s.size ≤ 4096) : (mg ((pv s s.size : Nat) : Int)).size ≤ 4096 := by
 unfold okD at h
 simp only [Bool.and_eq_true] at h
 have hd := (digS_iff s).2 h.1
 rw [mg_nat]
 refine Nat.le_trans (size_mag_le _ s.size (Nat.lt_of_lt_of_le (pv_lt s s.size (fun i hi => ?_)) (Nat.pow_le_pow_left (by decide : 10 ≤ 256) s.size))) hs
 have h1 := hd i hi
 exact (dgt_le s i hi (by unfold isD; simp; omega)).1
theorem pDigits (s : ByteArray) (hs : s.size ≤ 4096) : Sp Tryz.prog 128 [] [.string s] (.tuple #[iV (dvl s), .bool (okD s)]) [] := Sp.of (fun xs w => Tryz.call128 xs w) (by kernel_rfl) (by kernel_rfl) (fun w => qDigits_c2 s hs w)
theorem lCut (T : ByteArray) (hT : T.size ≤ 4294967296) : Sp Tryz.prog 127 [] [.string T, .string ⟨#[47]⟩] (.tuple #[.string (cutA T), .string (cutB T), .bool (cutH T)]) [] := Sp.of (fun xs w => Tryz.call127 xs w) (by kernel_rfl) (by kernel_rfl) (fun w => Cut_c T hT w)
theorem lCutPrefix (s : ByteArray) : Sp Tryz.prog 126 [] [.string s, .string ⟨#[45]⟩] (.tuple #[.string (qrest s), .bool (qneg s)]) [] := Sp.of (fun xs w => Tryz.call126 xs w) (by kernel_rfl) (by kernel_rfl) (fun w => (Tryz.strings_CutPrefix s ⟨#[45]⟩ w).mono fun e w' h => ⟨h.1, by rw [h.2]; exact Below.refl _ _⟩)
theorem pMakeN (n : Int) (d : Nat) (hn : (mg n).size ≤ 5000) (hd : (mg (d : Int)).size ≤ 5000) : Sp Tryz.prog 118 [] [iV n, iV d] (.tuple #[rV (if d = 0 then (0, 6) else (Rat.divInt n d, 0) : Rat × Int).1, nV (if d = 0 then (0, 6) else (Rat.divInt n d, 0) : Rat × Int).2]) [] := by
 by_cases h : d = 0
 ·subst h
  simp only [if_true]
  rw [rV0]
  exact pMake0 n
 ·rw [if_neg h]
  exact pMake n d (by omega) (by omega) (by omega)
theorem neg_size (n : Nat) : (mg (-(n : Int))).size = (mg (n : Int)).size := by rw [mg_nd, mg_nd, Int.natAbs_neg]
theorem pParse (s : ByteArray) : Sp Tryz.prog 76 [] [.string s] (.tuple #[rV (parseQ s).1, nV (parseQ s).2]) [] := by
 unfold parseQ
 by_cases hl : 4096 < s.size
 ·rw [if_pos hl, rV0]
  have l2 : decide ((s.size : Int) > 4096) = true := decide_eq_true (by omega)
  exact walk (code := Tryz.f76.body.getD .skip) [L, eb l2] fol Tryz.func76 (by kernel_rfl) (fun xs w => Tryz.call76 xs w) (by kernel_rfl)
 ·rw [if_neg hl]
  have l2 : decide ((s.size : Int) > 4096) = false := decide_eq_false (by omega)
  have hT := qrest_size s
  have H1 := lCutPrefix s
  obtain ⟨T, eT⟩ : ∃ T, T = qrest s := ⟨_, rfl⟩
  rw [← eT] at hT H1 ⊢
  have hA := cutA_size T
  have hB := cutB_size T
  have H2 := lCut T (by omega)
  have H3 := pDigits (cutA T) (by omega)
  have H4 := pOne
  have H5 := pDigits (cutB T) (by omega)
  have one5 : (mg ((1 : Nat) : Int)).size ≤ 5000 := by rw [mg_nd, show ((1 : Nat) : Int).natAbs = 1 from rfl, nd_small 1 (by omega) (by omega)]; omega
  cases e1 : okD (cutA T) <;> rw [e1] at H3
  ·simp only [Bool.not_false, Bool.true_or, if_true]
   rw [rV0]
   cases e2 : cutH T <;> rw [e2] at H2
   ·exact walk (code := Tryz.f76.body.getD .skip) [L, eb l2, c H1, c H2, c H3, c H4] fol Tryz.func76 (by kernel_rfl) (fun xs w => Tryz.call76 xs w) (by kernel_rfl)
   ·cases e4 : okD (cutB T) <;> rw [e4] at H5 <;> exact walk (code := Tryz.f76.body.getD .skip) [L, eb l2, c H1, c H2, c H3, c H4, c H5] fol Tryz.func76 (by kernel_rfl) (fun xs w => Tryz.call76 xs w) (by kernel_rfl)
  ·have v1 := dvl_ok _ e1
   have z1 := pv_size _ e1 (by omega)
   rw [v1] at H3
   obtain ⟨N, hN⟩ : ∃ D, D = pv (cutA T) (cutA T).size := ⟨_, rfl⟩
   rw [← hN] at H3 z1 ⊢
   have z1' : (mg (-(N : Int))).size ≤ 5000 := by rw [neg_size]; omega
   cases e2 : cutH T <;> rw [e2] at H2
   ·simp only [Bool.not_true, Bool.false_or, Bool.false_and, Bool.false_eq_true, if_false]
    cases e3 : qneg s <;> rw [e3] at H1
    ·exact walk (code := Tryz.f76.body.getD .skip) [L, eb l2, c H1, c H2, c H3, c H4, c (pMakeN N 1 (by omega) one5)] fol Tryz.func76 (by kernel_rfl) (fun xs w => Tryz.call76 xs w) (by kernel_rfl)
    ·exact walk (code := Tryz.f76.body.getD .skip) [L, eb l2, c H1, c H2, c H3, c H4, c (iNegate N), c (pMakeN (-(N : Int)) 1 z1' one5)] fol Tryz.func76 (by kernel_rfl) (fun xs w => Tryz.call76 xs w) (by kernel_rfl)
   ·cases e4 : okD (cutB T) <;> rw [e4] at H5
    ·simp only [Bool.not_true, Bool.false_or, Bool.not_false, Bool.and_true, if_true]
     rw [rV0]
     exact walk (code := Tryz.f76.body.getD .skip) [L, eb l2, c H1, c H2, c H3, c H4, c H5] fol Tryz.func76 (by kernel_rfl) (fun xs w => Tryz.call76 xs w) (by kernel_rfl)
    ·have v2 := dvl_ok _ e4
     have z2 := pv_size _ e4 (by omega)
     rw [v2] at H5
     simp only [Bool.not_true, Bool.false_or, Bool.and_false, if_true, Bool.false_eq_true, if_false]
     obtain ⟨D, hD⟩ : ∃ D, D = pv (cutB T) (cutB T).size := ⟨_, rfl⟩
     rw [← hD] at H5 z2 ⊢
     cases e3 : qneg s <;> rw [e3] at H1
     ·exact walk (code := Tryz.f76.body.getD .skip) [L, eb l2, c H1, c H2, c H3, c H4, c H5, c (pMakeN N D (by omega) (by omega))] fol Tryz.func76 (by kernel_rfl) (fun xs w => Tryz.call76 xs w) (by kernel_rfl)
     ·exact walk (code := Tryz.f76.body.getD .skip) [L, eb l2, c H1, c H2, c H3, c H4, c H5, c (iNegate N), c (pMakeN (-(N : Int)) D z1' (by omega))] fol Tryz.func76 (by kernel_rfl) (fun xs w => Tryz.call76 xs w) (by kernel_rfl)
end Go.Proofs.YthdaimoankaciaaGreatDoor
set_option linter.unusedSimpArgs false
set_option linter.unusedVariables false
namespace Go.Proofs.YthdaimoankaciaaGreatDoor
open Go Go.RowKit Go.Sy
open Vi
end Go.Proofs.YthdaimoankaciaaGreatDoor

end
section
/- No program in sight: what is printed of a fraction is read as this fraction. -/
set_option linter.unusedSimpArgs false
set_option linter.unusedVariables false
namespace Go.Proofs.YthdaimoankaciaaGreatDoor
open Go Go.RowKit Go.Sy
open Vi
theorem cv_congr2 {s t : ByteArray} {k : Nat} : ∀ n, (∀ i, i < n → dgt s (k + i) = dgt t (k + i)) → cv s k n = cv t k n
 | 0, _ => rfl
 | n + 1, h => by rw [cv, cv, cv_congr2 n fun i hi => h i (by omega), h n (by omega)]
theorem pv_snoc2 (l : List UInt8) (b : UInt8) : pv ⟨(l ++ [b]).toArray⟩ (l.length + 1) = pv ⟨l.toArray⟩ l.length * 10 + (b.toNat - 48) := by
 rw [pv_succ]
 have h1 : pv ⟨(l ++ [b]).toArray⟩ l.length = pv ⟨l.toArray⟩ l.length := cv_congr2 l.length fun i hi => by
  unfold dgt
  show ((l ++ [b]).getD (0 + i) 0).toNat - 48 = (l.getD (0 + i) 0).toNat - 48
  rw [List.getD_eq_getElem?_getD, List.getD_eq_getElem?_getD, List.getElem?_append_left (by omega)]
 have h2 : dgt ⟨(l ++ [b]).toArray⟩ l.length = b.toNat - 48 := by
  unfold dgt
  show ((l ++ [b]).getD l.length 0).toNat - 48 = _
  rw [List.getD_eq_getElem?_getD, List.getElem?_append_right (Nat.le_refl _), Nat.sub_self]
  rfl
 rw [h1, h2]
theorem dig_byte2 (d : Nat) (h : d < 10) : (UInt8.ofNat (48 + d)).toNat = 48 + d := by
 rw [UInt8.toNat_ofNat']; omega
theorem pv_decS2 (n : Nat) : pv ⟨(decS n).toArray⟩ (decS n).length = n := by
 induction n using Nat.strongRecOn with
 | _ n ih =>
  by_cases h : n = 0
  ·subst h; rfl
  ·rw [decS_pos n (by omega), List.length_append, List.length_singleton, pv_snoc2, ih (n / 10) (by omega), dig_byte2 _ (by omega)]
   omega
theorem all_decS (n : Nat) : (decS n).all isD = true := by
 rw [List.all_eq_true]
 intro b hb
 unfold decS at hb
 rw [List.mem_reverse, List.mem_map] at hb
 obtain ⟨d, hd, rfl⟩ := hb
 have h10 := dig_lt 10 (by omega) n d hd
 unfold isD
 rw [dig_byte2 d h10]
 simp; omega
def dqL (X : Nat) : List UInt8 := if X = 0 then [48] else decS X
theorem dqL_all (X : Nat) : (dqL X).all isD = true := by
 unfold dqL; split
 ·decide
 ·exact all_decS X
theorem dqL_ne (X : Nat) : 0 < (dqL X).length := by
 unfold dqL; split
 ·decide
 ·rw [decS_pos X (by omega), List.length_append]; show 0 < _ + 1; omega
theorem dqL_pv (X : Nat) : pv ⟨(dqL X).toArray⟩ (dqL X).length = X := by
 unfold dqL; split
 ·rename_i h; rw [h]; decide
 ·exact pv_decS2 X
theorem isD_ne {b : UInt8} (h : isD b = true) (c : UInt8) (hc : c.toNat < 48) : b ≠ c := by
 rintro rfl
 unfold isD at h
 simp at h
 omega
def prL (p : Rat) : List UInt8 := (if p.num < 0 then [45] else []) ++ dqL p.num.natAbs ++ (if dn p = 0 then [] else 47 :: dqL (dn p).natAbs)
theorem printS_list (z : Int) : printS z = ⟨((if z < 0 then [45] else []) ++ dqL z.natAbs).toArray⟩ := by
 unfold printS dqL
 by_cases h0 : z = 0
 ·subst h0; rfl
 ·have ha : ¬ z.natAbs = 0 := by omega
  rw [if_neg h0, if_neg ha]
  by_cases hn : z < 0
  ·rw [if_pos hn, if_pos hn]; rfl
  ·rw [if_neg hn, if_neg hn]; rfl
theorem app_mk (a b : List UInt8) : (⟨a.toArray⟩ : ByteArray) ++ ⟨b.toArray⟩ = ⟨(a ++ b).toArray⟩ := by
 apply ByteArray.ext
 rw [ByteArray.data_append]
 simp
theorem printQ_list (p : Rat) : printQ p = ⟨(prL p).toArray⟩ := by
 unfold printQ prL
 by_cases h : dn p = 0
 ·rw [if_pos h, if_pos h, printS_list, List.append_nil]
 ·have := dn_nonneg p
  rw [if_neg h, if_neg h, printS_list, printS_list, if_neg (show ¬ dn p < 0 by omega)]
  rw [show (⟨#[47]⟩ : ByteArray) = ⟨([47] : List UInt8).toArray⟩ from rfl, app_mk, app_mk]
  simp
theorem indexByte_no {l : List UInt8} {c : UInt8} (h : ∀ b ∈ l, b ≠ c) : Lib.indexByte l c = -1 := by
 induction l with
 | nil => rfl
 | cons a l ih =>
  unfold Lib.indexByte
  rw [ih fun b hb => h b (List.mem_cons_of_mem _ hb)]
  have : (a == c) = false := by simpa using h a List.mem_cons_self
  rw [this]; rfl
theorem indexByte_app {l : List UInt8} {c : UInt8} (h : ∀ b ∈ l, b ≠ c) (r : List UInt8) : Lib.indexByte (l ++ c :: r) c = l.length := by
 induction l with
 | nil => show Lib.indexByte (c :: r) c = 0; unfold Lib.indexByte; simp
 | cons a l ih =>
  show Lib.indexByte (a :: (l ++ c :: r)) c = _
  unfold Lib.indexByte
  rw [ih fun b hb => h b (List.mem_cons_of_mem _ hb)]
  have : (a == c) = false := by simpa using h a List.mem_cons_self
  rw [this]
  have e : ((l.length : Int) == -1) = false := by rw [beq_eq_false_iff_ne]; omega
  simp [e]
theorem okD_list {l : List UInt8} (h : l.all isD = true) (h0 : 0 < l.length) : okD ⟨l.toArray⟩ = true := by
 unfold okD
 show (l.all isD && decide (0 < l.length)) = true
 rw [h, decide_eq_true h0]; rfl
theorem qneg_yes (l : List UInt8) : qneg ⟨(45 :: l).toArray⟩ = true ∧ qrest ⟨(45 :: l).toArray⟩ = ⟨l.toArray⟩ := by
 have h : Lib.hasPrefix (45 :: l) [45] = true := by simp [Lib.hasPrefix]
 refine ⟨h, ?_⟩
 unfold qrest Lib.trimPrefix
 show (⟨(if Lib.hasPrefix (45 :: l) [45] then (45 :: l).drop 1 else 45 :: l).toArray⟩ : ByteArray) = _
 rw [h]; rfl
theorem qneg_no {l : List UInt8} (h0 : l.head? ≠ some 45) : qneg ⟨l.toArray⟩ = false ∧ qrest ⟨l.toArray⟩ = ⟨l.toArray⟩ := by
 have h : Lib.hasPrefix l [45] = false := by
  cases l with
  | nil => rfl
  | cons a l =>
   have : a ≠ 45 := fun e => h0 (by rw [e]; rfl)
   show ((45 : UInt8) == a && ([] : List UInt8).isPrefixOf l) = false
   rw [show ((45 : UInt8) == a) = false by simpa using this.symm]; rfl
 refine ⟨h, ?_⟩
 unfold qrest Lib.trimPrefix
 show (⟨(if Lib.hasPrefix l [45] then l.drop 1 else l).toArray⟩ : ByteArray) = _
 rw [h]; rfl
theorem cut_no {a : List UInt8} (ha : a.all isD = true) : cutH ⟨a.toArray⟩ = false ∧ cutA ⟨a.toArray⟩ = ⟨a.toArray⟩ := by
 have h : cutI ⟨a.toArray⟩ = -1 := indexByte_no fun b hb => isD_ne (List.all_eq_true.1 ha b hb) 47 (by decide)
 unfold cutH cutA
 rw [h]
 exact ⟨by decide, if_pos rfl⟩
theorem cut_yes {a : List UInt8} (ha : a.all isD = true) (b : List UInt8) : cutH ⟨(a ++ 47 :: b).toArray⟩ = true ∧ cutA ⟨(a ++ 47 :: b).toArray⟩ = ⟨a.toArray⟩ ∧ cutB ⟨(a ++ 47 :: b).toArray⟩ = ⟨b.toArray⟩ := by
 have h : cutI ⟨(a ++ 47 :: b).toArray⟩ = a.length := indexByte_app (fun b hb => isD_ne (List.all_eq_true.1 ha b hb) 47 (by decide)) b
 have hne : ¬ (a.length : Int) = -1 := by omega
 unfold cutH cutA cutB
 rw [h, if_neg hne, if_neg hne]
 refine ⟨by simp, ?_, ?_⟩
 ·rw [Lib.extract_mk]
  simp
 ·rw [Lib.extract_mk]
  have e : (⟨(a ++ 47 :: b).toArray⟩ : ByteArray).size = a.length + 1 + b.length := by
   show (a ++ 47 :: b).length = _
   rw [List.length_append, List.length_cons]; omega
  rw [e]
  simp only [Int.toNat_natCast]
  congr 2
  rw [List.take_of_length_le (by rw [List.length_drop, List.length_append, List.length_cons]; omega), List.drop_append]
  simp
theorem parse_print (p : Rat) (hl : (printQ p).size ≤ 4096) : parseQ (printQ p) = (p, 0) := by
 have ha := dqL_all p.num.natAbs
 have hn := dqL_ne p.num.natAbs
 have hv := dqL_pv p.num.natAbs
 have hb := dqL_all (dn p).natAbs
 have hm := dqL_ne (dn p).natAbs
 have hw := dqL_pv (dn p).natAbs
 have hd := dn_nonneg p
 obtain ⟨t, ht⟩ : ∃ t, t = dqL p.num.natAbs ++ (if dn p = 0 then [] else 47 :: dqL (dn p).natAbs) := ⟨_, rfl⟩
 have hq : qneg (printQ p) = decide (p.num < 0) ∧ qrest (printQ p) = ⟨t.toArray⟩ := by
  rw [printQ_list]
  unfold prL
  rw [List.append_assoc, ← ht]
  by_cases h : p.num < 0
  ·rw [if_pos h, decide_eq_true h]; exact qneg_yes t
  ·rw [if_neg h, decide_eq_false h]
   refine qneg_no ?_
   show t.head? ≠ some 45
   rw [ht]
   generalize dqL p.num.natAbs = a at *
   cases a with
   | nil => simp at hn
   | cons x a =>
    have := isD_ne (List.all_eq_true.1 ha x List.mem_cons_self) 45 (by decide)
    simpa using this
 obtain ⟨q1, q2⟩ := hq
 have hc : okD (cutA ⟨t.toArray⟩) = true ∧ (cutA ⟨t.toArray⟩) = ⟨(dqL p.num.natAbs).toArray⟩ ∧ (cutH ⟨t.toArray⟩ = !decide (dn p = 0)) ∧ (dn p ≠ 0 → cutB ⟨t.toArray⟩ = ⟨(dqL (dn p).natAbs).toArray⟩) := by
  rw [ht]
  by_cases h : dn p = 0
  ·rw [if_pos h, List.append_nil, decide_eq_true h]
   obtain ⟨c1, c2⟩ := cut_no ha
   exact ⟨by rw [c2]; exact okD_list ha hn, c2, c1, fun h2 => absurd h h2⟩
  ·rw [if_neg h, decide_eq_false h]
   obtain ⟨c1, c2, c3⟩ := cut_yes ha (dqL (dn p).natAbs)
   exact ⟨by rw [c2]; exact okD_list ha hn, c2, c1, fun _ => c3⟩
 obtain ⟨c1, c2, c3, c4⟩ := hc
 unfold parseQ
 rw [if_neg (by omega), q1, q2, c1, c3]
 have nv : pv (cutA ⟨t.toArray⟩) (cutA ⟨t.toArray⟩).size = p.num.natAbs := by rw [c2]; exact hv
 rw [nv]
 have num : (if decide (p.num < 0) then -((p.num.natAbs : Nat) : Int) else ((p.num.natAbs : Nat) : Int)) = p.num := by
  by_cases h : p.num < 0
  ·rw [decide_eq_true h, if_pos rfl]; omega
  ·rw [decide_eq_false h, if_neg (by simp)]; omega
 rw [num]
 by_cases h : dn p = 0
 ·have h1 : p.den = 1 := by
    unfold dn at h
    split at h
    ·assumption
    ·have := p.den_nz; omega
  rw [decide_eq_true h]
  simp only [Bool.not_true, Bool.false_or, Bool.false_and, Bool.false_eq_true, if_false]
  rw [if_neg (by decide)]
  have := Rat.num_divInt_den p
  rw [h1] at this
  exact Prod.ext this rfl
 ·rw [decide_eq_false h, c4 h]
  have h1 : dn p = (p.den : Int) := by
   unfold dn
   split
   ·rename_i e; exact absurd (by unfold dn; rw [if_pos e]) h
   ·rfl
  have dv : pv ⟨(dqL (dn p).natAbs).toArray⟩ (⟨(dqL (dn p).natAbs).toArray⟩ : ByteArray).size = p.den := by
   have : pv ⟨(dqL (dn p).natAbs).toArray⟩ (⟨(dqL (dn p).natAbs).toArray⟩ : ByteArray).size = (dn p).natAbs := hw
   rw [this, h1]; rfl
  rw [okD_list hb hm, dv]
  simp only [Bool.not_true, Bool.not_false, Bool.false_or, Bool.and_false, Bool.false_eq_true, if_false, if_true]
  rw [if_neg p.den_nz]
  exact Prod.ext (Rat.num_divInt_den p) rfl
end Go.Proofs.YthdaimoankaciaaGreatDoor

end
section
/- No program in sight: the real numbers as far as they are wanted: Cauchy sequences of fractions, their order, square roots of fractions, and a checker of ring identities. -/
set_option linter.unusedSimpArgs false
set_option linter.unusedVariables false
namespace Vi
def Cau (f : Nat → Rat) : Prop := ∀ e : Rat, 0 < e → ∃ N, ∀ m, N ≤ m → ∀ n, N ≤ n → f m - f n < e
def Nul (f : Nat → Rat) : Prop := ∀ e : Rat, 0 < e → ∃ N, ∀ n, N ≤ n → f n < e ∧ -e < f n
def Pst (f : Nat → Rat) : Prop := ∃ d : Rat, 0 < d ∧ ∃ N, ∀ n, N ≤ n → d ≤ f n
def Bdd (f : Nat → Rat) : Prop := ∃ B : Rat, 0 < B ∧ ∃ N, ∀ n, N ≤ n → f n < B ∧ -B < f n
theorem half_pos {e : Rat} (h : 0 < e) : 0 < e / 2 := by grind
theorem Cau.bdd {f : Nat → Rat} (h : Cau f) : Bdd f := by
 obtain ⟨N, hN⟩ := h 1 (by decide)
 by_cases h0 : f N < 0
 ·refine ⟨1 - f N, by grind, N, fun n hn => ?_⟩
  have h1 := hN n hn N (Nat.le_refl _)
  have h2 := hN N (Nat.le_refl _) n hn
  constructor <;> grind
 ·refine ⟨1 + f N, by grind, N, fun n hn => ?_⟩
  have h1 := hN n hn N (Nat.le_refl _)
  have h2 := hN N (Nat.le_refl _) n hn
  constructor <;> grind
theorem mul_in {x y a b : Rat} (h1 : x < a) (h2 : -a < x) (h3 : y < b) (h4 : -b < y) : x * y < a * b ∧ -(a * b) < x * y := by
 have p1 : 0 < (a - x) * (b + y) := Rat.mul_pos (by grind) (by grind)
 have p2 : 0 < (a + x) * (b - y) := Rat.mul_pos (by grind) (by grind)
 have p3 : 0 < (a - x) * (b - y) := Rat.mul_pos (by grind) (by grind)
 have p4 : 0 < (a + x) * (b + y) := Rat.mul_pos (by grind) (by grind)
 constructor <;> grind
theorem Cau.const (q : Rat) : Cau fun _ => q := fun e he => ⟨0, fun _ _ _ _ => by grind⟩
theorem Cau.add {f g : Nat → Rat} (hf : Cau f) (hg : Cau g) : Cau fun n => f n + g n := fun e he => by
 obtain ⟨N, hN⟩ := hf (e / 2) (half_pos he)
 obtain ⟨M, hM⟩ := hg (e / 2) (half_pos he)
 refine ⟨N + M, fun m hm n hn => ?_⟩
 have h1 := hN m (by omega) n (by omega)
 have h2 := hM m (by omega) n (by omega)
 grind
theorem Cau.neg {f : Nat → Rat} (hf : Cau f) : Cau fun n => -f n := fun e he => by
 obtain ⟨N, hN⟩ := hf e he
 refine ⟨N, fun m hm n hn => ?_⟩
 have h1 := hN n hn m hm
 grind
theorem div_small {e B : Rat} (he : 0 < e) (hB : 0 < B) : 0 < e / B := by
 rw [Rat.div_def]; exact Rat.mul_pos he (Rat.inv_pos.2 hB)
theorem div_mul {e B : Rat} (hB : 0 < B) : e / B * B = e := by
 rw [Rat.div_def, Rat.mul_assoc, Rat.inv_mul_cancel _ (by grind), Rat.mul_one]
theorem Nul.mul {f g : Nat → Rat} (hf : Nul f) (hg : Bdd g) : Nul fun n => f n * g n := fun e he => by
 obtain ⟨B, hB, M, hM⟩ := hg
 obtain ⟨N, hN⟩ := hf (e / B) (div_small he hB)
 refine ⟨N + M, fun n hn => ?_⟩
 have h1 := hN n (by omega)
 have h2 := hM n (by omega)
 have h3 := mul_in h1.1 h1.2 h2.1 h2.2
 rw [div_mul hB] at h3
 exact h3
theorem Nul.add {f g : Nat → Rat} (hf : Nul f) (hg : Nul g) : Nul fun n => f n + g n := fun e he => by
 obtain ⟨N, hN⟩ := hf (e / 2) (half_pos he)
 obtain ⟨M, hM⟩ := hg (e / 2) (half_pos he)
 refine ⟨N + M, fun n hn => ?_⟩
 have h1 := hN n (by omega)
 have h2 := hM n (by omega)
 constructor <;> grind
theorem Nul.neg {f : Nat → Rat} (hf : Nul f) : Nul fun n => -f n := fun e he => by
 obtain ⟨N, hN⟩ := hf e he
 refine ⟨N, fun n hn => ?_⟩
 have h1 := hN n hn
 constructor <;> grind
theorem Nul.zero : Nul fun _ => 0 := fun e he => ⟨0, fun _ _ => by constructor <;> grind⟩
theorem Cau.mul {f g : Nat → Rat} (hf : Cau f) (hg : Cau g) : Cau fun n => f n * g n := fun e he => by
 obtain ⟨A, hA, M1, hM1⟩ := hf.bdd
 obtain ⟨B, hB, M2, hM2⟩ := hg.bdd
 obtain ⟨N1, h1⟩ := hf (e / 2 / B) (div_small (half_pos he) hB)
 obtain ⟨N2, h2⟩ := hg (e / 2 / A) (div_small (half_pos he) hA)
 refine ⟨M1 + M2 + N1 + N2, fun m hm n hn => ?_⟩
 have a1 := h1 m (by omega) n (by omega)
 have a2 := h1 n (by omega) m (by omega)
 have a3 := h2 m (by omega) n (by omega)
 have a4 := h2 n (by omega) m (by omega)
 have b1 := hM1 n (by omega)
 have b2 := hM2 m (by omega)
 have c1 := mul_in (x := f m - f n) a1 (by grind) b2.1 b2.2
 have c2 := mul_in (x := g m - g n) a3 (by grind) b1.1 b1.2
 rw [div_mul hB] at c1
 rw [div_mul hA] at c2
 grind
theorem Cau.tri {f : Nat → Rat} (h : Cau f) : Nul f ∨ Pst f ∨ Pst fun n => -f n := by
 apply Classical.byContradiction
 intro hc
 have hn : ¬ Nul f := fun h => hc (.inl h)
 unfold Nul at hn
 obtain ⟨e, he⟩ := Classical.not_forall.1 hn
 obtain ⟨h0, he⟩ := Classical.not_imp.1 he
 obtain ⟨N, hN⟩ := h (e / 2) (half_pos h0)
 have h1 : ∃ n, N ≤ n ∧ ¬ (f n < e ∧ -e < f n) := by
  apply Classical.byContradiction
  intro h2
  exact he ⟨N, fun n hn => Classical.byContradiction fun h3 => h2 ⟨n, hn, h3⟩⟩
 obtain ⟨n, hn, h2⟩ := h1
 by_cases h3 : f n < e
 ·refine hc (.inr (.inr ⟨e / 2, half_pos h0, N, fun m hm => ?_⟩))
  have := hN m hm n hn
  grind
 ·refine hc (.inr (.inl ⟨e / 2, half_pos h0, N, fun m hm => ?_⟩))
  have := hN n hn m hm
  grind
theorem Pst.add {f g : Nat → Rat} (hf : Pst f) (hg : Pst g) : Pst fun n => f n + g n := by
 obtain ⟨d, h0, N, h1⟩ := hf
 obtain ⟨e, h2, M, h3⟩ := hg
 refine ⟨d, h0, N + M, fun n hn => ?_⟩
 have a := h1 n (by omega)
 have b := h3 n (by omega)
 grind
theorem Pst.mul {f g : Nat → Rat} (hf : Pst f) (hg : Pst g) : Pst fun n => f n * g n := by
 obtain ⟨d, h0, N, h1⟩ := hf
 obtain ⟨e, h2, M, h3⟩ := hg
 refine ⟨d * e, Rat.mul_pos h0 h2, N + M, fun n hn => ?_⟩
 have a := h1 n (by omega)
 have b := h3 n (by omega)
 have p1 : 0 ≤ (f n - d) * g n := Rat.mul_nonneg (by grind) (by grind)
 have p2 : 0 ≤ d * (g n - e) := Rat.mul_nonneg (by grind) (by grind)
 grind
theorem Pst.addNul {f g : Nat → Rat} (hf : Pst f) (hg : Nul g) : Pst fun n => f n + g n := by
 obtain ⟨d, h0, N, h1⟩ := hf
 obtain ⟨M, h3⟩ := hg (d / 2) (half_pos h0)
 refine ⟨d / 2, half_pos h0, N + M, fun n hn => ?_⟩
 have a := h1 n (by omega)
 have b := h3 n (by omega)
 grind
theorem Pst.notNul {f : Nat → Rat} (hf : Pst f) (hg : Nul f) : False := by
 obtain ⟨d, h0, N, h1⟩ := hf
 obtain ⟨M, h3⟩ := hg d h0
 have a := h1 (N + M) (by omega)
 have b := h3 (N + M) (by omega)
 grind
structure CSeq where
 f : Nat → Rat
 c : Cau f
instance CSeq.setoid : Setoid CSeq where
 r a b := Nul fun n => a.f n - b.f n
 iseqv := {
  refl := fun a => by simpa [Rat.sub_self] using Nul.zero
  symm := fun {a b} h => by
   have := h.neg
   have e : (fun n => -(a.f n - b.f n)) = fun n => b.f n - a.f n := funext fun n => by grind
   rwa [e] at this
  trans := fun {a b c} h1 h2 => by
   have := h1.add h2
   have e : (fun n => a.f n - b.f n + (b.f n - c.f n)) = fun n => a.f n - c.f n := funext fun n => by grind
   rwa [e] at this }
def RR : Type := Quotient CSeq.setoid
namespace RR
def mk (a : CSeq) : RR := Quotient.mk CSeq.setoid a
theorem sound {a b : CSeq} (h : Nul fun n => a.f n - b.f n) : mk a = mk b := Quotient.sound h
def ofRat (q : Rat) : RR := mk ⟨fun _ => q, Cau.const q⟩
def addS (a b : CSeq) : CSeq := ⟨_, a.c.add b.c⟩
def mulS (a b : CSeq) : CSeq := ⟨_, a.c.mul b.c⟩
def negS (a : CSeq) : CSeq := ⟨_, a.c.neg⟩
def add (x y : RR) : RR := Quotient.liftOn₂ x y (fun a b => mk (addS a b)) fun a b a' b' h1 h2 => sound (by
 have := Nul.add h1 h2
 have e : (fun n => a.f n - a'.f n + (b.f n - b'.f n)) = fun n => (a.f n + b.f n) - (a'.f n + b'.f n) := funext fun n => by grind
 rwa [e] at this)
def mul (x y : RR) : RR := Quotient.liftOn₂ x y (fun a b => mk (mulS a b)) fun a b a' b' h1 h2 => sound (by
 have := Nul.add (Nul.mul h1 b.c.bdd) (Nul.mul h2 a'.c.bdd)
 have e : (fun n => (a.f n - a'.f n) * b.f n + (b.f n - b'.f n) * a'.f n) = fun n => (a.f n * b.f n) - (a'.f n * b'.f n) := funext fun n => by grind
 rwa [e] at this)
def neg (x : RR) : RR := Quotient.liftOn x (fun a => mk (negS a)) fun a a' h1 => sound (by
 have := Nul.neg h1
 have e : (fun n => -(a.f n - a'.f n)) = fun n => (-a.f n) - (-a'.f n) := funext fun n => by grind
 rwa [e] at this)
instance : Add RR := ⟨add⟩
instance : Mul RR := ⟨mul⟩
instance : Neg RR := ⟨neg⟩
instance : Sub RR := ⟨fun x y => x + -y⟩
instance : Coe Rat RR := ⟨ofRat⟩
instance (n : Nat) : OfNat RR n := ⟨ofRat ((n : Nat) : Rat)⟩
theorem sub_eq (x y : RR) : x - y = x + -y := rfl
theorem ind {p : RR → Prop} (h : ∀ a, p (mk a)) (x : RR) : p x := Quotient.ind h x
theorem same {a b : CSeq} (h : ∀ n, a.f n = b.f n) : mk a = mk b := by
 cases a; cases b
 congr 2
 exact funext h
theorem add_comm (x y : RR) : x + y = y + x := by
 induction x using ind with | h a => induction y using ind with | h b => exact same fun n => by simp only [addS]; grind
theorem add_assoc (x y z : RR) : x + y + z = x + (y + z) := by
 induction x using ind with | h a => induction y using ind with | h b => induction z using ind with | h c => exact same fun n => by simp only [addS]; grind
theorem mul_comm (x y : RR) : x * y = y * x := by
 induction x using ind with | h a => induction y using ind with | h b => exact same fun n => by simp only [mulS]; grind
theorem mul_assoc (x y z : RR) : x * y * z = x * (y * z) := by
 induction x using ind with | h a => induction y using ind with | h b => induction z using ind with | h c => exact same fun n => by simp only [mulS]; grind
theorem mul_add (x y z : RR) : x * (y + z) = x * y + x * z := by
 induction x using ind with | h a => induction y using ind with | h b => induction z using ind with | h c => exact same fun n => by simp only [mulS, addS]; grind
theorem rat_add (p q : Rat) : ofRat (p + q) = ofRat p + ofRat q := rfl
theorem rat_mul (p q : Rat) : ofRat (p * q) = ofRat p * ofRat q := rfl
theorem rat_neg (p : Rat) : ofRat (-p) = -ofRat p := rfl
theorem rat_sub (p q : Rat) : ofRat (p - q) = ofRat p - ofRat q := by rw [sub_eq, ← rat_neg, ← rat_add, Rat.sub_eq_add_neg]
theorem zero_add (x : RR) : ofRat 0 + x = x := by
 induction x using ind with | h a => exact same fun n => by simp only [addS]; grind
theorem one_mul (x : RR) : ofRat 1 * x = x := by
 induction x using ind with | h a => exact same fun n => by simp only [mulS]; grind
theorem zero_mul (x : RR) : ofRat 0 * x = ofRat 0 := by
 induction x using ind with | h a => exact same fun n => by simp only [mulS]; grind
theorem add_neg (x : RR) : x + -x = ofRat 0 := by
 induction x using ind with | h a => exact same fun n => by simp only [addS, negS]; grind
theorem neg_mul (x y : RR) : -x * y = -(x * y) := by
 induction x using ind with | h a => induction y using ind with | h b => exact same fun n => by simp only [mulS, negS]; grind
theorem neg_neg (x : RR) : - -x = x := by
 induction x using ind with | h a => exact same fun n => by simp only [negS]; grind
end RR
end Vi
namespace Vi
inductive PE where
 | v (n : Nat)
 | z (k : Int)
 | a (x y : PE)
 | m (x y : PE)
 | n (x : PE)
namespace PE
def at' (ρ : List RR) (i : Nat) : RR := match ρ, i with
 | [], _ => RR.ofRat 0
 | x :: _, 0 => x
 | _ :: l, i + 1 => at' l i
def ofInt (k : Int) : RR := RR.ofRat (k : Rat)
def ev (ρ : List RR) : PE → RR
 | .v i => at' ρ i
 | .z k => ofInt k
 | .a x y => x.ev ρ + y.ev ρ
 | .m x y => x.ev ρ * y.ev ρ
 | .n x => -x.ev ρ
def evM (ρ : List RR) : List Nat → RR
 | [] => ofInt 1
 | i :: l => at' ρ i * evM ρ l
def evP (ρ : List RR) : List (Int × List Nat) → RR
 | [] => ofInt 0
 | (k, l) :: p => ofInt k * evM ρ l + evP ρ p
def insM (i : Nat) : List Nat → List Nat
 | [] => [i]
 | j :: l => match Nat.ble i j with
  | true => i :: j :: l
  | false => j :: insM i l
def mulM : List Nat → List Nat → List Nat
 | [], q => q
 | i :: l, q => insM i (mulM l q)
def eqM : List Nat → List Nat → Bool
 | [], [] => true
 | i :: l, j :: q => match Nat.beq i j with
  | true => eqM l q
  | false => false
 | _, _ => false
def addT (k : Int) (l : List Nat) : List (Int × List Nat) → List (Int × List Nat)
 | [] => [(k, l)]
 | (k', l') :: p => match eqM l l' with
  | true => (k + k', l') :: p
  | false => (k', l') :: addT k l p
def addP : List (Int × List Nat) → List (Int × List Nat) → List (Int × List Nat)
 | [], q => q
 | (k, l) :: p, q => addT k l (addP p q)
def mulT (k : Int) (l : List Nat) : List (Int × List Nat) → List (Int × List Nat)
 | [] => []
 | (k', l') :: p => addT (k * k') (mulM l l') (mulT k l p)
def mulP : List (Int × List Nat) → List (Int × List Nat) → List (Int × List Nat)
 | [], _ => []
 | (k, l) :: p, q => addP (mulT k l q) (mulP p q)
def norm : PE → List (Int × List Nat)
 | .v i => [(1, [i])]
 | .z k => [(k, [])]
 | .a x y => addP x.norm y.norm
 | .m x y => mulP x.norm y.norm
 | .n x => mulT (-1) [] x.norm
def isZ : List (Int × List Nat) → Bool
 | [] => true
 | (k, _) :: p => match decide (k = 0) with
  | true => isZ p
  | false => false
open RR
theorem i0 (x : RR) : ofInt 0 + x = x := RR.zero_add x
theorem i1 (x : RR) : ofInt 1 * x = x := RR.one_mul x
theorem iadd (j k : Int) : ofInt (j + k) = ofInt j + ofInt k := by unfold ofInt; rw [← rat_add, Rat.intCast_add]
theorem imul (j k : Int) : ofInt (j * k) = ofInt j * ofInt k := by unfold ofInt; rw [← rat_mul, Rat.intCast_mul]
theorem ineg (j : Int) : ofInt (-j) = -ofInt j := by unfold ofInt; rw [← rat_neg, Rat.intCast_neg]
theorem add_left (x y z : RR) : x + (y + z) = y + (x + z) := by rw [← RR.add_assoc, RR.add_comm x y, RR.add_assoc]
theorem mul_left (x y z : RR) : x * (y * z) = y * (x * z) := by rw [← RR.mul_assoc, RR.mul_comm x y, RR.mul_assoc]
theorem add_mul (x y z : RR) : (x + y) * z = x * z + y * z := by rw [RR.mul_comm, RR.mul_add, RR.mul_comm z x, RR.mul_comm z y]
theorem mul0 (x : RR) : x * ofInt 0 = ofInt 0 := by rw [RR.mul_comm]; exact RR.zero_mul x
theorem ev_insM (ρ : List RR) (i : Nat) : ∀ l, evM ρ (insM i l) = at' ρ i * evM ρ l
 | [] => rfl
 | j :: l => by
  unfold insM
  split
  ·rfl
  ·show at' ρ j * evM ρ (insM i l) = at' ρ i * (at' ρ j * evM ρ l)
   rw [ev_insM ρ i l, mul_left]
theorem ev_mulM (ρ : List RR) : ∀ l q, evM ρ (mulM l q) = evM ρ l * evM ρ q
 | [], q => (i1 _).symm
 | i :: l, q => by
  show evM ρ (insM i (mulM l q)) = at' ρ i * evM ρ l * evM ρ q
  rw [ev_insM, ev_mulM ρ l q, RR.mul_assoc]
theorem eqM_eq : ∀ l q, eqM l q = true → l = q
 | [], [], _ => rfl
 | i :: l, j :: q, h => by
  unfold eqM at h
  split at h
  ·rename_i h1
   rw [Nat.eq_of_beq_eq_true h1, eqM_eq l q h]
  ·cases h
 | [], _ :: _, h => by simp [eqM] at h
 | _ :: _, [], h => by simp [eqM] at h
theorem ev_addT (ρ : List RR) (k : Int) (l : List Nat) : ∀ p, evP ρ (addT k l p) = ofInt k * evM ρ l + evP ρ p
 | [] => rfl
 | (k', l') :: p => by
  unfold addT
  split
  ·rename_i h
   rw [eqM_eq l l' h]
   show ofInt (k + k') * evM ρ l' + evP ρ p = ofInt k * evM ρ l' + (ofInt k' * evM ρ l' + evP ρ p)
   rw [iadd, add_mul, RR.add_assoc]
  ·show ofInt k' * evM ρ l' + evP ρ (addT k l p) = ofInt k * evM ρ l + (ofInt k' * evM ρ l' + evP ρ p)
   rw [ev_addT ρ k l p, add_left]
theorem ev_addP (ρ : List RR) : ∀ p q, evP ρ (addP p q) = evP ρ p + evP ρ q
 | [], q => (i0 _).symm
 | (k, l) :: p, q => by
  show evP ρ (addT k l (addP p q)) = ofInt k * evM ρ l + evP ρ p + evP ρ q
  rw [ev_addT, ev_addP ρ p q, RR.add_assoc]
theorem ev_mulT (ρ : List RR) (k : Int) (l : List Nat) : ∀ p, evP ρ (mulT k l p) = ofInt k * evM ρ l * evP ρ p
 | [] => (mul0 _).symm
 | (k', l') :: p => by
  show evP ρ (addT (k * k') (mulM l l') (mulT k l p)) = ofInt k * evM ρ l * (ofInt k' * evM ρ l' + evP ρ p)
  rw [ev_addT, ev_mulT ρ k l p, ev_mulM, imul, RR.mul_add]
  congr 1
  rw [RR.mul_assoc, RR.mul_assoc, mul_left (ofInt k')]
theorem ev_mulP (ρ : List RR) : ∀ p q, evP ρ (mulP p q) = evP ρ p * evP ρ q
 | [], q => (RR.zero_mul _).symm
 | (k, l) :: p, q => by
  show evP ρ (addP (mulT k l q) (mulP p q)) = (ofInt k * evM ρ l + evP ρ p) * evP ρ q
  rw [ev_addP, ev_mulT, ev_mulP ρ p q, add_mul]
theorem ev_norm (ρ : List RR) : ∀ e : PE, evP ρ e.norm = e.ev ρ
 | .v i => by
  show ofInt 1 * (at' ρ i * ofInt 1) + ofInt 0 = at' ρ i
  rw [RR.add_comm, i0, i1, RR.mul_comm, i1]
 | .z k => by
  show ofInt k * ofInt 1 + ofInt 0 = ofInt k
  rw [RR.add_comm, i0, RR.mul_comm, i1]
 | .a x y => by
  show evP ρ (addP x.norm y.norm) = x.ev ρ + y.ev ρ
  rw [ev_addP, ev_norm ρ x, ev_norm ρ y]
 | .m x y => by
  show evP ρ (mulP x.norm y.norm) = x.ev ρ * y.ev ρ
  rw [ev_mulP, ev_norm ρ x, ev_norm ρ y]
 | .n x => by
  show evP ρ (mulT (-1) [] x.norm) = -x.ev ρ
  rw [ev_mulT, ev_norm ρ x]
  show ofInt (-1) * ofInt 1 * x.ev ρ = -x.ev ρ
  rw [ineg, RR.mul_assoc, i1, RR.neg_mul, i1]
theorem ev_isZ (ρ : List RR) : ∀ p, isZ p = true → evP ρ p = ofInt 0
 | [], _ => rfl
 | (k, l) :: p, h => by
  unfold isZ at h
  split at h
  ·rename_i h1
   obtain rfl := of_decide_eq_true h1
   show ofInt 0 * evM ρ l + evP ρ p = ofInt 0
   rw [ev_isZ ρ p h, RR.add_comm, i0]
   exact RR.zero_mul _
  ·cases h
end PE
class AtR (ρ : List RR) (x : RR) (i : outParam Nat) : Prop where
 eq : PE.at' ρ i = x
instance (x : RR) (l : List RR) : AtR (x :: l) x 0 := ⟨rfl⟩
instance (priority := low) (x y : RR) (l : List RR) (i : Nat) [h : AtR l x i] : AtR (y :: l) x (i + 1) := ⟨h.eq⟩
class QtR (ρ : List RR) (x : RR) (e : outParam PE) : Prop where
 eq : e.ev ρ = x
instance (priority := low) (ρ : List RR) (x : RR) (i : Nat) [h : AtR ρ x i] : QtR ρ x (.v i) := ⟨h.eq⟩
instance (ρ : List RR) (x y : RR) (e f : PE) [h : QtR ρ x e] [g : QtR ρ y f] : QtR ρ (x + y) (.a e f) := ⟨by show e.ev ρ + f.ev ρ = _; rw [h.eq, g.eq]⟩
instance (ρ : List RR) (x y : RR) (e f : PE) [h : QtR ρ x e] [g : QtR ρ y f] : QtR ρ (x * y) (.m e f) := ⟨by show e.ev ρ * f.ev ρ = _; rw [h.eq, g.eq]⟩
instance (ρ : List RR) (x y : RR) (e f : PE) [h : QtR ρ x e] [g : QtR ρ y f] : QtR ρ (x - y) (.a e (.n f)) := ⟨by show e.ev ρ + -f.ev ρ = _; rw [h.eq, g.eq]; rfl⟩
instance (ρ : List RR) (x : RR) (e : PE) [h : QtR ρ x e] : QtR ρ (-x) (.n e) := ⟨by show -e.ev ρ = _; rw [h.eq]⟩
instance (ρ : List RR) (n : Nat) : QtR ρ (no_index (OfNat.ofNat n : RR)) (.z n) := ⟨rfl⟩
instance (ρ : List RR) (p q : Rat) (e f : PE) [h : QtR ρ (RR.ofRat p) e] [g : QtR ρ (RR.ofRat q) f] : QtR ρ (RR.ofRat (p + q)) (.a e f) := ⟨by show e.ev ρ + f.ev ρ = _; rw [h.eq, g.eq]; rfl⟩
instance (ρ : List RR) (p q : Rat) (e f : PE) [h : QtR ρ (RR.ofRat p) e] [g : QtR ρ (RR.ofRat q) f] : QtR ρ (RR.ofRat (p * q)) (.m e f) := ⟨by show e.ev ρ * f.ev ρ = _; rw [h.eq, g.eq]; rfl⟩
instance (ρ : List RR) (p q : Rat) (e f : PE) [h : QtR ρ (RR.ofRat p) e] [g : QtR ρ (RR.ofRat q) f] : QtR ρ (RR.ofRat (p - q)) (.a e (.n f)) := ⟨by show e.ev ρ + -f.ev ρ = _; rw [h.eq, g.eq, RR.rat_sub]; rfl⟩
instance (ρ : List RR) (p : Rat) (e : PE) [h : QtR ρ (RR.ofRat p) e] : QtR ρ (RR.ofRat (-p)) (.n e) := ⟨by show -e.ev ρ = _; rw [h.eq]; rfl⟩
instance (ρ : List RR) (n : Nat) : QtR ρ (RR.ofRat (no_index (OfNat.ofNat n))) (.z n) := ⟨rfl⟩
namespace RR
theorem sub_zero' {x y : RR} (h : x + -y = ofRat 0) : x = y := by
 have : x + -y + y = ofRat 0 + y := by rw [h]
 rwa [add_assoc, add_comm (-y) y, add_neg, zero_add, add_comm, zero_add] at this
theorem ring (ρ : List RR) {x y : RR} {e f : PE} [h1 : QtR ρ x e] [h2 : QtR ρ y f] (h : PE.isZ (PE.norm (.a e (.n f))) = true) : x = y := by
 have := PE.ev_isZ ρ _ h
 rw [PE.ev_norm] at this
 have h3 : x + -y = ofRat 0 := by
  rw [← h1.eq, ← h2.eq]; exact this
 exact sub_zero' h3
theorem ring1 (ρ : List RR) {l r : RR} (hl : l = r) (k : RR) {x y : RR} {e f g u v : PE} [h1 : QtR ρ x e] [h2 : QtR ρ y f] [h3 : QtR ρ l u] [h4 : QtR ρ r v] [h5 : QtR ρ k g] (h : PE.isZ (PE.norm (.a (.a e (.n f)) (.n (.m g (.a u (.n v)))))) = true) : x = y := by
 have := PE.ev_isZ ρ _ h
 rw [PE.ev_norm] at this
 have h6 : (x + -y) + -(k * (l + -r)) = ofRat 0 := by
  rw [← h1.eq, ← h2.eq, ← h3.eq, ← h4.eq, ← h5.eq]; exact this
 rw [hl, add_neg, mul_comm, zero_mul] at h6
 have h7 : -(ofRat 0) = ofRat 0 := by have := add_neg (ofRat 0); rwa [zero_add] at this
 rw [h7, add_comm, zero_add] at h6
 exact sub_zero' h6
theorem ring2 (ρ : List RR) {l r : RR} (hl : l = r) (k : RR) {l' r' : RR} (hl' : l' = r') (k' : RR) {x y : RR} {e f g u v g' u' v' : PE} [h1 : QtR ρ x e] [h2 : QtR ρ y f] [h3 : QtR ρ l u] [h4 : QtR ρ r v] [h5 : QtR ρ k g] [h3' : QtR ρ l' u'] [h4' : QtR ρ r' v'] [h5' : QtR ρ k' g'] (h : PE.isZ (PE.norm (.a (.a (.a e (.n f)) (.n (.m g (.a u (.n v))))) (.n (.m g' (.a u' (.n v')))))) = true) : x = y := by
 have := PE.ev_isZ ρ _ h
 rw [PE.ev_norm] at this
 have h6 : ((x + -y) + -(k * (l + -r))) + -(k' * (l' + -r')) = ofRat 0 := by
  rw [← h1.eq, ← h2.eq, ← h3.eq, ← h4.eq, ← h5.eq, ← h3'.eq, ← h4'.eq, ← h5'.eq]; exact this
 have h7 : -(ofRat 0) = ofRat 0 := by have := add_neg (ofRat 0); rwa [zero_add] at this
 rw [hl, hl', add_neg, add_neg, mul_comm, zero_mul, mul_comm, zero_mul, h7, add_comm, zero_add, add_comm, zero_add] at h6
 exact sub_zero' h6
example (x y : RR) (p : Rat) : (x + y) * (x - ofRat (p + 2)) = x * x + y * x - (2 * x + p * x) - p * y - 2 * y := ring [x, y, p] (by decide +kernel)
end RR
end Vi
namespace Vi
namespace RR
def pos (x : RR) : Prop := Quotient.liftOn x (fun a => Pst a.f) fun a b h => propext ⟨fun p => by
    have := p.addNul (Nul.neg h)
    have e : (fun n => a.f n + -(a.f n - b.f n)) = b.f := funext fun n => by grind
    rwa [e] at this, fun p => by
    have := p.addNul h
    have e : (fun n => b.f n + (a.f n - b.f n)) = a.f := funext fun n => by grind
    rwa [e] at this⟩
instance : LT RR := ⟨fun x y => pos (y - x)⟩
instance : LE RR := ⟨fun x y => ¬ y < x⟩
theorem lt_iff {x y : RR} : x < y ↔ pos (y - x) := Iff.rfl
theorem pos_add {x y : RR} : pos x → pos y → pos (x + y) := by
 induction x using ind with | h a => induction y using ind with | h b => exact fun h1 h2 => Pst.add h1 h2
theorem pos_mul {x y : RR} : pos x → pos y → pos (x * y) := by
 induction x using ind with | h a => induction y using ind with | h b => exact fun h1 h2 => Pst.mul h1 h2
theorem pos_zero : ¬ pos (ofRat 0) := fun h => Pst.notNul (f := fun _ => 0) h Nul.zero
theorem pos_tri (x : RR) : x = 0 ∨ pos x ∨ pos (-x) := by
 induction x using ind with | h a =>
 rcases a.c.tri with h | h | h
 ·left
  exact sound (by
   have e : (fun n => a.f n - 0) = a.f := funext fun n => by grind
   have : Nul fun n => a.f n - 0 := by rw [e]; exact h
   exact this)
 ·exact .inr (.inl h)
 ·exact .inr (.inr h)
theorem pos_rat (q : Rat) : pos (ofRat q) ↔ 0 < q := by
 constructor
 ·intro h
  obtain ⟨d, h0, N, h1⟩ := (h : Pst fun _ => q)
  have := h1 N (Nat.le_refl _)
  grind
 ·intro h
  exact (⟨q, h, 0, fun _ _ => Rat.le_refl⟩ : Pst fun _ => q)
theorem zero_lt {x : RR} : 0 < x ↔ pos x := by
 rw [lt_iff, ring (x := x - 0) (y := x) [x] (by decide +kernel)]
theorem lt_of_pos {x y : RR} (t : RR) (h : 0 < t) (e : y - x = t) : x < y := by
 rw [lt_iff, e]; exact zero_lt.1 h
theorem lt_zero {x : RR} : x < 0 ↔ 0 < -x := by
 rw [zero_lt, lt_iff, ring (x := 0 - x) (y := -x) [x] (by decide +kernel)]
theorem sub_pos {x y : RR} : 0 < y - x ↔ x < y := by rw [zero_lt]; rfl
theorem lt_irrefl (x : RR) : ¬ x < x := fun h => by
 rw [lt_iff, ring (x := x - x) (y := ofRat 0) [x] (by decide +kernel)] at h
 exact pos_zero h
theorem lt_trans {x y z : RR} (h1 : x < y) (h2 : y < z) : x < z := by
 have := pos_add h1 h2
 rwa [ring (x := y - x + (z - y)) (y := z - x) [x, y, z] (by decide +kernel)] at this
theorem tri (x y : RR) : x < y ∨ x = y ∨ y < x := by
 rcases pos_tri (y - x) with h | h | h
 ·exact .inr (.inl (ring1 [x, y] h (-1) (by decide +kernel)))
 ·exact .inl h
 ·refine .inr (.inr ?_)
  rwa [ring (x := -(y - x)) (y := x - y) [x, y] (by decide +kernel)] at h
theorem le_refl (x : RR) : x ≤ x := lt_irrefl x
theorem le_of_lt {x y : RR} (h : x < y) : x ≤ y := fun h2 => lt_irrefl _ (lt_trans h h2)
theorem le_of_eq {x y : RR} (h : x = y) : x ≤ y := h ▸ le_refl x
theorem lt_or_eq {x y : RR} (h : x ≤ y) : x < y ∨ x = y := by
 rcases tri x y with h1 | h1 | h1
 ·exact .inl h1
 ·exact .inr h1
 ·exact absurd h1 h
theorem le_trans {x y z : RR} (h1 : x ≤ y) (h2 : y ≤ z) : x ≤ z := by
 rcases lt_or_eq h1 with h1 | rfl
 ·rcases lt_or_eq h2 with h2 | rfl
  ·exact le_of_lt (lt_trans h1 h2)
  ·exact le_of_lt h1
 ·exact h2
theorem lt_of_lt_of_le {x y z : RR} (h1 : x < y) (h2 : y ≤ z) : x < z := by
 rcases lt_or_eq h2 with h2 | rfl
 ·exact lt_trans h1 h2
 ·exact h1
theorem lt_of_le_of_lt {x y z : RR} (h1 : x ≤ y) (h2 : y < z) : x < z := by
 rcases lt_or_eq h1 with h1 | rfl
 ·exact lt_trans h1 h2
 ·exact h2
theorem le_antisymm {x y : RR} (h1 : x ≤ y) (h2 : y ≤ x) : x = y := by
 rcases lt_or_eq h1 with h1 | h1
 ·exact absurd h1 h2
 ·exact h1
theorem not_lt {x y : RR} : ¬ x < y ↔ y ≤ x := Iff.rfl
theorem not_le {x y : RR} : ¬ x ≤ y ↔ y < x := Classical.not_not
theorem le_total (x y : RR) : x ≤ y ∨ y ≤ x := by
 rcases tri x y with h | h | h
 ·exact .inl (le_of_lt h)
 ·exact .inl (le_of_eq h)
 ·exact .inr (le_of_lt h)
theorem ne_of_lt {x y : RR} (h : x < y) : x ≠ y := fun e => lt_irrefl x (by rw [← e] at h; exact h)
theorem add_pos {x y : RR} (h1 : 0 < x) (h2 : 0 < y) : 0 < x + y := zero_lt.2 (pos_add (zero_lt.1 h1) (zero_lt.1 h2))
theorem mul_pos {x y : RR} (h1 : 0 < x) (h2 : 0 < y) : 0 < x * y := zero_lt.2 (pos_mul (zero_lt.1 h1) (zero_lt.1 h2))
theorem mul_neg {x y : RR} (h1 : 0 < x) (h2 : y < 0) : x * y < 0 := by
 rw [lt_zero] at *
 have := mul_pos h1 h2
 rwa [ring (x := x * -y) (y := -(x * y)) [x, y] (by decide +kernel)] at this
theorem mul_neg_neg {x y : RR} (h1 : x < 0) (h2 : y < 0) : 0 < x * y := by
 rw [lt_zero] at *
 have := mul_pos h1 h2
 rwa [ring (x := -x * -y) (y := x * y) [x, y] (by decide +kernel)] at this
theorem add_nonneg {x y : RR} (h1 : 0 ≤ x) (h2 : 0 ≤ y) : 0 ≤ x + y := by
 rcases lt_or_eq h1 with h1 | rfl
 ·rcases lt_or_eq h2 with h2 | rfl
  ·exact le_of_lt (add_pos h1 h2)
  ·rw [ring (x := x + 0) (y := x) [x] (by decide +kernel)]; exact le_of_lt h1
 ·rw [ring (x := 0 + y) (y := y) [y] (by decide +kernel)]; exact h2
theorem add_pos_of_nonneg {x y : RR} (h1 : 0 < x) (h2 : 0 ≤ y) : 0 < x + y := by
 rcases lt_or_eq h2 with h2 | rfl
 ·exact add_pos h1 h2
 ·rw [ring (x := x + 0) (y := x) [x] (by decide +kernel)]; exact h1
theorem mul_nonneg {x y : RR} (h1 : 0 ≤ x) (h2 : 0 ≤ y) : 0 ≤ x * y := by
 rcases lt_or_eq h1 with h1 | rfl
 ·rcases lt_or_eq h2 with h2 | rfl
  ·exact le_of_lt (mul_pos h1 h2)
  ·rw [ring (x := x * 0) (y := 0) [x] (by decide +kernel)]; exact le_refl _
 ·rw [ring (x := 0 * y) (y := 0) [y] (by decide +kernel)]; exact le_refl _
theorem sub_nonneg {x y : RR} : 0 ≤ y - x ↔ x ≤ y := by
 rw [← not_lt, ← not_lt, lt_zero, ring (x := -(y - x)) (y := x - y) [x, y] (by decide +kernel), sub_pos]
theorem le_of_nonneg {x y : RR} (t : RR) (h : 0 ≤ t) (e : y - x = t) : x ≤ y := by
 rw [← sub_nonneg, e]; exact h
theorem mul_ne {x y : RR} (hx : x ≠ 0) (hy : y ≠ 0) : x * y ≠ 0 := by
 rcases tri x 0 with h | h | h
 ·rcases tri y 0 with g | g | g
  ·exact (ne_of_lt (mul_neg_neg h g)).symm
  ·exact absurd g hy
  ·rw [mul_comm]; exact ne_of_lt (mul_neg g h)
 ·exact absurd h hx
 ·rcases tri y 0 with g | g | g
  ·exact ne_of_lt (mul_neg h g)
  ·exact absurd g hy
  ·exact (ne_of_lt (mul_pos h g)).symm
theorem rat_lt {p q : Rat} : ofRat p < ofRat q ↔ p < q := by
 rw [lt_iff, ← rat_sub, pos_rat]
 constructor <;> intro h <;> grind
theorem rat_le {p q : Rat} : ofRat p ≤ ofRat q ↔ p ≤ q := by
 rw [← not_lt, rat_lt, Rat.not_lt]
theorem rat_inj {p q : Rat} (h : ofRat p = ofRat q) : p = q := by
 have h1 : ¬ p < q := fun g => ne_of_lt (rat_lt.2 g) h
 have h2 : ¬ q < p := fun g => ne_of_lt (rat_lt.2 g) h.symm
 exact Rat.le_antisymm (Rat.not_lt.1 h2) (Rat.not_lt.1 h1)
end RR
noncomputable def sgR (x : RR) : Int := open Classical in if 0 < x then 1 else if x < 0 then -1 else 0
namespace RR
theorem sg_pos {x : RR} (h : 0 < x) : sgR x = 1 := if_pos h
theorem sg_neg {x : RR} (h : x < 0) : sgR x = -1 := by unfold sgR; rw [if_neg (le_of_lt h), if_pos h]
theorem sg_zero {x : RR} (h : x = 0) : sgR x = 0 := by subst h; unfold sgR; rw [if_neg (lt_irrefl 0), if_neg (lt_irrefl 0)]
theorem sg_cases (x : RR) : (sgR x = -1 ∧ x < 0) ∨ (sgR x = 0 ∧ x = 0) ∨ (sgR x = 1 ∧ 0 < x) := by
 rcases tri x 0 with h | h | h
 ·exact .inl ⟨sg_neg h, h⟩
 ·exact .inr (.inl ⟨sg_zero h, h⟩)
 ·exact .inr (.inr ⟨sg_pos h, h⟩)
theorem sg_mul (x y : RR) : sgR (x * y) = sgR x * sgR y := by
 rcases sg_cases x with ⟨h1, h⟩ | ⟨h1, rfl⟩ | ⟨h1, h⟩ <;> rcases sg_cases y with ⟨g1, g⟩ | ⟨g1, rfl⟩ | ⟨g1, g⟩ <;> simp only [h1, g1]
 ·exact sg_pos (mul_neg_neg h g)
 ·exact sg_zero (ring [x] (by decide +kernel))
 ·rw [mul_comm]; exact sg_neg (mul_neg g h)
 ·exact sg_zero (ring [y] (by decide +kernel))
 ·exact sg_zero (ring [] (by decide +kernel))
 ·exact sg_zero (ring [y] (by decide +kernel))
 ·exact sg_neg (mul_neg h g)
 ·exact sg_zero (ring [x] (by decide +kernel))
 ·exact sg_pos (mul_pos h g)
theorem sg_opp (x : RR) : sgR (-x) = -sgR x := by
 rw [ring (x := -x) (y := ofRat (-1) * x) [x] (by decide +kernel), sg_mul, sg_neg (x := ofRat (-1)) (rat_lt.2 (by decide))]
 omega
theorem sg_iff0 {x : RR} : sgR x = 0 ↔ x = 0 := by
 rcases sg_cases x with ⟨h1, h⟩ | ⟨h1, h⟩ | ⟨h1, h⟩ <;> rw [h1]
 ·exact ⟨fun e => by omega, fun e => absurd e (ne_of_lt h)⟩
 ·exact ⟨fun _ => h, fun _ => rfl⟩
 ·exact ⟨fun e => by omega, fun e => absurd e.symm (ne_of_lt h)⟩
theorem sg_iff1 {x : RR} : sgR x = 1 ↔ 0 < x := by
 rcases sg_cases x with ⟨h1, h⟩ | ⟨h1, rfl⟩ | ⟨h1, h⟩ <;> rw [h1]
 ·exact ⟨fun e => by omega, fun e => absurd e (le_of_lt h)⟩
 ·exact ⟨fun e => by omega, fun e => absurd e (lt_irrefl _)⟩
 ·exact ⟨fun _ => h, fun _ => rfl⟩
theorem sg_iff2 {x : RR} : sgR x = -1 ↔ x < 0 := by
 rcases sg_cases x with ⟨h1, h⟩ | ⟨h1, rfl⟩ | ⟨h1, h⟩ <;> rw [h1]
 ·exact ⟨fun _ => h, fun _ => rfl⟩
 ·exact ⟨fun e => by omega, fun e => absurd e (lt_irrefl _)⟩
 ·exact ⟨fun e => by omega, fun e => absurd e (le_of_lt h)⟩
theorem sg_add_same {x y : RR} (h : sgR x = sgR y ∨ sgR y = 0) : sgR (x + y) = sgR x := by
 rcases h with h | h
 ·rcases sg_cases y with ⟨g1, g⟩ | ⟨g1, g⟩ | ⟨g1, g⟩ <;> rw [g1] at h
  ·have h2 := sg_iff2.1 h
   rw [h]
   refine sg_iff2.2 ?_
   rw [lt_zero] at *
   have := add_pos h2 g
   rwa [ring (x := -x + -y) (y := -(x + y)) [x, y] (by decide +kernel)] at this
  ·obtain rfl := sg_iff0.1 h
   subst g
   rw [ring (x := (0 : RR) + 0) (y := 0) [] (by decide +kernel)]
  ·rw [h]
   exact sg_iff1.2 (add_pos (sg_iff1.1 h) g)
 ·obtain rfl := sg_iff0.1 h
  rw [ring (x := x + 0) (y := x) [x] (by decide +kernel)]
theorem sg_add_diff {x y : RR} (h : sgR x = -sgR y) (h0 : sgR x ≠ 0) : sgR (x + y) = sgR x * sgR (x * x - y * y) := by
 have e : x * x - y * y = (x + y) * (x - y) := ring [x, y] (by decide +kernel)
 have h1 : sgR (x - y) = sgR x := by
  rw [sub_eq]
  refine sg_add_same (.inl ?_)
  rw [sg_opp]; exact h
 rw [e, sg_mul, h1]
 rcases sg_cases x with ⟨g1, _⟩ | ⟨g1, _⟩ | ⟨g1, _⟩ <;> rw [g1] at h0 ⊢ <;> omega
end RR
end Vi
namespace Vi
theorem rsq_ex (r : Rat) (hr : 0 ≤ r) (n : Nat) : ∃ u : Rat, 0 ≤ u ∧ u * u ≤ r ∧ r < (u + 1 / ((n + 1 : Nat) : Rat)) * (u + 1 / ((n + 1 : Nat) : Rat)) := by
 obtain ⟨d, hd⟩ : ∃ d : Rat, d = ((n + 1 : Nat) : Rat) := ⟨_, rfl⟩
 have d0 : 0 < d := by rw [hd]; exact_mod_cast Nat.succ_pos n
 rw [← hd]
 obtain ⟨X, hX⟩ : ∃ X : Rat, X = r * (d * d) := ⟨_, rfl⟩
 have x0 : 0 ≤ X := by rw [hX]; exact Rat.mul_nonneg hr (Rat.le_of_lt (Rat.mul_pos d0 d0))
 have f0 : 0 ≤ X.floor := Rat.le_floor_iff.2 x0
 have root : ∀ N : Nat, ∃ s : Nat, s * s ≤ N ∧ N < (s + 1) * (s + 1) := by
  intro N
  induction N with
  | zero => exact ⟨0, by omega⟩
  | succ N ih =>
   obtain ⟨s, h1, h2⟩ := ih
   by_cases h : N + 1 < (s + 1) * (s + 1)
   ·exact ⟨s, by omega, h⟩
   ·refine ⟨s + 1, by omega, ?_⟩
    have e : (s + 1 + 1) * (s + 1 + 1) = (s + 1) * (s + 1) + 2 * s + 3 := by grind
    omega
 obtain ⟨s, h1, h2⟩ := root X.floor.toNat
 obtain ⟨S, hS⟩ : ∃ S : Rat, S = (s : Rat) := ⟨_, rfl⟩
 have S0 : 0 ≤ S := by rw [hS]; exact_mod_cast Nat.zero_le s
 have a1 : S * S ≤ X := by
  have h3 : ((s * s : Nat) : Int) ≤ X.floor := by omega
  have h4 := Rat.le_floor_iff.1 h3
  rw [hS]
  have h5 : (((s * s : Nat) : Int) : Rat) = (s : Rat) * (s : Rat) := by push_cast; rfl
  rwa [h5] at h4
 have a2 : X < (S + 1) * (S + 1) := by
  have h3 : X.floor < (((s + 1) * (s + 1) : Nat) : Int) := by omega
  have h4 := Rat.floor_lt_iff.1 h3
  have h5 : ((((s + 1) * (s + 1) : Nat) : Int) : Rat) = ((s : Rat) + 1) * ((s : Rat) + 1) := by push_cast; rfl
  rw [h5] at h4
  rw [hS]; exact h4
 have di : d * d⁻¹ = 1 := Rat.mul_inv_cancel _ (by grind)
 have i0 : 0 < d⁻¹ := Rat.inv_pos.2 d0
 have hr2 : r = X * (d⁻¹ * d⁻¹) := by rw [hX]; grind
 refine ⟨S * d⁻¹, Rat.mul_nonneg S0 (Rat.le_of_lt i0), ?_, ?_⟩
 ·have := Rat.mul_nonneg (show 0 ≤ X - S * S by grind) (Rat.le_of_lt (Rat.mul_pos i0 i0))
  grind
 ·have := Rat.mul_pos (show 0 < (S + 1) * (S + 1) - X by grind) (Rat.mul_pos i0 i0)
  have e : (1 : Rat) / d = d⁻¹ := by rw [Rat.div_def, Rat.one_mul]
  rw [e]
  grind
theorem small_inv (e : Rat) (he : 0 < e) : ∃ N : Nat, ∀ n : Nat, N ≤ n → 1 / ((n + 1 : Nat) : Rat) < e := by
 refine ⟨e⁻¹.floor.toNat, fun n hn => ?_⟩
 obtain ⟨d, hd⟩ : ∃ d : Rat, d = ((n + 1 : Nat) : Rat) := ⟨_, rfl⟩
 have d0 : 0 < d := by rw [hd]; exact_mod_cast Nat.succ_pos n
 have h1 : e⁻¹ < d := by
  have : e⁻¹.floor < ((n + 1 : Nat) : Int) := by omega
  have := Rat.floor_lt_iff.1 this
  rw [hd]; exact_mod_cast this
 rw [← hd, Rat.div_def, Rat.one_mul]
 have i0 : 0 < d⁻¹ := Rat.inv_pos.2 d0
 have e0 : 0 < e⁻¹ := Rat.inv_pos.2 he
 have := Rat.mul_pos (show 0 < d - e⁻¹ by grind) (Rat.mul_pos i0 he)
 have x1 : d * d⁻¹ = 1 := Rat.mul_inv_cancel _ (by grind)
 have x2 : e * e⁻¹ = 1 := Rat.mul_inv_cancel _ (by grind)
 generalize e⁻¹ = e' at *
 generalize d⁻¹ = d' at *
 clear hd hn h1
 rw [show (d - e') * (d' * e) = (d * d') * e - (e * e') * d' by grind, x1, x2] at this
 grind
theorem lt_of_sq {a b : Rat} (hb : 0 ≤ b) (h : a * a < b * b) : a < b := by
 apply Rat.not_le.1
 intro hc
 have := Rat.mul_nonneg (show 0 ≤ a - b by grind) (show 0 ≤ a + b by grind)
 grind
noncomputable def sqSeq (r : Rat) (hr : 0 ≤ r) (n : Nat) : Rat := Classical.choose (rsq_ex r hr n)
theorem sqSeq_spec (r : Rat) (hr : 0 ≤ r) (n : Nat) : 0 ≤ sqSeq r hr n ∧ sqSeq r hr n * sqSeq r hr n ≤ r ∧ r < (sqSeq r hr n + 1 / ((n + 1 : Nat) : Rat)) * (sqSeq r hr n + 1 / ((n + 1 : Nat) : Rat)) := Classical.choose_spec (rsq_ex r hr n)
theorem one_div_pos (n : Nat) : 0 < 1 / ((n + 1 : Nat) : Rat) := by
 have d0 : (0 : Rat) < ((n + 1 : Nat) : Rat) := by exact_mod_cast Nat.succ_pos n
 rw [Rat.div_def, Rat.one_mul]; exact Rat.inv_pos.2 d0
theorem sq_cau (r : Rat) (hr : 0 ≤ r) : Cau (sqSeq r hr) := fun e he => by
 obtain ⟨N, hN⟩ := small_inv e he
 refine ⟨N, fun m hm n hn => ?_⟩
 obtain ⟨a0, a1, a2⟩ := sqSeq_spec r hr m
 obtain ⟨b0, b1, b2⟩ := sqSeq_spec r hr n
 have c1 := hN n hn
 have p := one_div_pos n
 have := lt_of_sq (a := sqSeq r hr m) (b := sqSeq r hr n + 1 / ((n + 1 : Nat) : Rat)) (by grind) (by grind)
 grind
namespace RR
open Classical in
noncomputable def sqrt (r : Rat) : RR := if hr : 0 ≤ r then mk ⟨sqSeq r hr, sq_cau r hr⟩ else 0
theorem sqrt_nonneg (r : Rat) : 0 ≤ sqrt r := by
 unfold sqrt
 split
 ·rename_i hr
  rw [← not_lt, lt_zero, zero_lt]
  intro h
  obtain ⟨d, d0, N, hN⟩ := (h : Pst fun n => -(sqSeq r hr n))
  have h1 : d ≤ -(sqSeq r hr N) := hN N (Nat.le_refl _)
  have h2 := (sqSeq_spec r hr N).1
  grind
 ·exact le_refl _
theorem sqrt_sq (r : Rat) (hr : 0 ≤ r) : sqrt r * sqrt r = r := by
 unfold sqrt
 rw [dif_pos hr]
 refine sound (b := ⟨fun _ => r, Cau.const r⟩) ?_
 have goal : Nul fun n => sqSeq r hr n * sqSeq r hr n - r := by
  intro e he
  obtain ⟨B, hB, M, hM⟩ := (sq_cau r hr).bdd
  have hC : 0 < 2 * B + 1 := by grind
  obtain ⟨N, hN⟩ := small_inv (e / (2 * B + 1)) (div_small he hC)
  obtain ⟨N1, hN1⟩ := small_inv 1 (by decide)
  refine ⟨M + N + N1, fun n hn => ?_⟩
  obtain ⟨b0, b1, b2⟩ := sqSeq_spec r hr n
  have c1 := hM n (by omega)
  have c2 := hN n (by omega)
  have c3 := hN1 n (by omega)
  have c4 := one_div_pos n
  have c5 := div_mul (e := e) hC
  show sqSeq r hr n * sqSeq r hr n - r < e ∧ -e < sqSeq r hr n * sqSeq r hr n - r
  generalize sqSeq r hr n = u at *
  generalize 1 / ((n + 1 : Nat) : Rat) = t at *
  generalize e / (2 * B + 1) = q at *
  have d1 := Rat.mul_pos (show 0 < q - t by grind) hC
  have d2 := Rat.mul_pos c4 (show 0 < B - u by grind)
  have d3 := Rat.mul_pos c4 (show 0 < 1 - t by grind)
  constructor <;> grind
 exact goal
theorem sqrt_pos {r : Rat} (h : 0 < r) : 0 < sqrt r := by
 rcases lt_or_eq (sqrt_nonneg r) with h1 | h1
 ·exact h1
 ·exfalso
  have h2 := sqrt_sq r (Rat.le_of_lt h)
  rw [← h1, ring (x := (0 : RR) * 0) (y := ofRat 0) [] (by decide +kernel)] at h2
  have := rat_inj h2
  rw [← this] at h
  exact Rat.lt_irrefl h
theorem sqrt_zero : sqrt 0 = 0 := by
 have h2 := sqrt_sq 0 (by decide)
 rcases tri (sqrt 0) 0 with h | h | h
 ·exact absurd h (sqrt_nonneg 0)
 ·exact h
 ·exact absurd (mul_pos h h) (by rw [h2]; exact lt_irrefl _)
theorem sg_sqrt {r : Rat} (h : 0 ≤ r) : sgR (sqrt r) = sgR (ofRat r) := by
 rcases tri (ofRat r) 0 with g | g | g
 ·exact absurd (rat_lt.1 g) (Rat.not_lt.2 h)
 ·have : r = 0 := rat_inj g
  subst this
  rw [sqrt_zero]; rfl
 ·rw [sg_pos g, sg_pos (sqrt_pos (rat_lt.1 g))]
end RR
end Vi

end
section
/- No program in sight: the numbers p + sqrt r and p - sqrt r: signs, comparison, the canonical form. -/
set_option linter.unusedSimpArgs false
set_option linter.unusedVariables false
namespace Vi
open RR
def sgQ (a : Rat) : Int := if a < 0 then -1 else if a = 0 then 0 else 1
theorem sgQ_cases (a : Rat) : (sgQ a = -1 ∧ a < 0) ∨ (sgQ a = 0 ∧ a = 0) ∨ (sgQ a = 1 ∧ 0 < a) := by
 unfold sgQ
 by_cases h : a < 0
 ·exact .inl ⟨if_pos h, h⟩
 ·rw [if_neg h]
  by_cases h2 : a = 0
  ·exact .inr (.inl ⟨if_pos h2, h2⟩)
  ·exact .inr (.inr ⟨if_neg h2, by grind⟩)
theorem sg_rat (a : Rat) : sgR (ofRat a) = sgQ a := by
 rcases sgQ_cases a with ⟨h1, h⟩ | ⟨h1, rfl⟩ | ⟨h1, h⟩ <;> rw [h1]
 ·exact RR.sg_neg (rat_lt.2 h)
 ·exact RR.sg_zero rfl
 ·exact sg_pos (rat_lt.2 h)
def signF (a b r : Rat) : Int :=
 if sgQ b * sgQ r = 0 ∨ sgQ a = sgQ b * sgQ r then sgQ a else if sgQ a = 0 then sgQ b * sgQ r else sgQ a * sgQ (a * a - b * b * r)
theorem signF_eq (a b r : Rat) (hr : 0 ≤ r) : signF a b r = sgR (ofRat a + ofRat b * sqrt r) := by
 have hn : sgR (ofRat b * sqrt r) = sgQ b * sgQ r := by rw [sg_mul, sg_sqrt hr, sg_rat, sg_rat]
 have hm := sg_rat a
 unfold signF
 rw [← hn, ← hm, ← sg_rat (a * a - b * b * r)]
 split
 ·rename_i h
  rcases h with h | h
  ·exact (sg_add_same (.inr h)).symm
  ·exact (sg_add_same (.inl h)).symm
 ·rename_i h
  split
  ·rename_i h0
   have := sg_iff0.1 h0
   rw [this, ring (x := 0 + ofRat b * sqrt r) (y := ofRat b * sqrt r) [b, sqrt r] (by decide +kernel)]
  ·rename_i h0
   rw [sg_add_diff ?_ h0]
   ·have e : ofRat a * ofRat a - ofRat b * sqrt r * (ofRat b * sqrt r) = ofRat (a * a - b * b * r) :=
      ring1 [a, b, r, sqrt r] (sqrt_sq r hr) (-(b * b)) (by decide +kernel)
    rw [e]
   ·rcases sg_cases (ofRat a) with ⟨g1, _⟩ | ⟨g1, _⟩ | ⟨g1, _⟩ <;> rcases sg_cases (ofRat b * sqrt r) with ⟨g2, _⟩ | ⟨g2, _⟩ | ⟨g2, _⟩ <;> rw [g1, g2] at h ⊢ <;> simp_all
theorem RR.sqrt_unique {r : Rat} (hr : 0 ≤ r) {u : RR} (h0 : 0 ≤ u) (h : u * u = ofRat r) : sqrt r = u := by
 have h2 := sqrt_sq r hr
 have e : (sqrt r - u) * (sqrt r + u) = 0 := by
  have : (sqrt r - u) * (sqrt r + u) = sqrt r * sqrt r - u * u := ring [sqrt r, u] (by decide +kernel)
  rw [this, h2, h]; exact ring [r] (by decide +kernel)
 by_cases h3 : sqrt r - u = 0
 ·exact ring1 [sqrt r, u] h3 1 (by decide +kernel)
 ·by_cases h4 : sqrt r + u = 0
  ·
   rcases lt_or_eq h0 with g | g
   ·have := add_pos_of_nonneg g (sqrt_nonneg r)
    rw [RR.add_comm, h4] at this
    exact absurd this (lt_irrefl 0)
   ·rw [← g] at h4 ⊢
    exact ring1 [sqrt r] h4 1 (by decide +kernel)
  ·exact absurd e (mul_ne h3 h4)
theorem RR.sqrt_mul {p q : Rat} (hp : 0 ≤ p) (hq : 0 ≤ q) : sqrt (p * q) = sqrt p * sqrt q := by
 refine RR.sqrt_unique (Rat.mul_nonneg hp hq) (RR.mul_nonneg (sqrt_nonneg p) (sqrt_nonneg q)) ?_
 exact ring2 [sqrt p, sqrt q, p, q] (sqrt_sq p hp) (sqrt q * sqrt q) (sqrt_sq q hq) p (by decide +kernel)
theorem RR.sqrt_sqr {q : Rat} (hq : 0 ≤ q) : sqrt (q * q) = ofRat q := RR.sqrt_unique (Rat.mul_nonneg hq hq) (rat_le.2 hq) rfl
structure Rl where
 p : Rat
 r : Rat
 neg : Bool
namespace Rl
def s (x : Rl) : Rat := if x.neg then -1 else 1
def Ok (x : Rl) : Prop := (x.r = 0 ∧ x.neg = false) ∨ (0 < x.r ∧ ∀ q : Rat, q * q ≠ x.r)
theorem Ok.nonneg {x : Rl} (h : x.Ok) : 0 ≤ x.r := by
 rcases h with ⟨h, _⟩ | ⟨h, _⟩
 ·rw [h]; exact Rat.le_refl
 ·exact Rat.le_of_lt h
theorem s_sq (x : Rl) : x.s * x.s = 1 := by unfold s; split <;> decide +kernel
theorem s_cases (x : Rl) : (x.neg = true ∧ x.s = -1) ∨ (x.neg = false ∧ x.s = 1) := by
 unfold s; cases x.neg <;> simp
noncomputable def val (x : Rl) : RR := ofRat x.p + ofRat x.s * sqrt x.r
noncomputable def cmp (x y : Rl) : Int := sgR (x.val - y.val)
def rat (q : Rat) : Rl := ⟨q, 0, false⟩
theorem rat_ok (q : Rat) : (rat q).Ok := .inl ⟨rfl, rfl⟩
theorem rat_val (q : Rat) : (rat q).val = ofRat q := by
 unfold val
 show ofRat q + ofRat (rat q).s * sqrt 0 = ofRat q
 rw [sqrt_zero]; exact ring [ofRat q, ofRat (rat q).s] (by decide +kernel)
def cmpF (x y : Rl) : Int :=
 if sgQ (-y.s) * sgQ y.r = 0 ∨ signF (x.p - y.p) x.s x.r = sgQ (-y.s) * sgQ y.r then signF (x.p - y.p) x.s x.r
 else if signF (x.p - y.p) x.s x.r = 0 then sgQ (-y.s) * sgQ y.r
 else signF (x.p - y.p) x.s x.r * signF ((x.p - y.p) * (x.p - y.p) + x.r - y.r) (2 * ((x.p - y.p) * x.s)) x.r
theorem opp_of {x y : RR} (h : ¬ (sgR y = 0 ∨ sgR x = sgR y)) (h0 : ¬ sgR x = 0) : sgR x = -sgR y := by
 rcases sg_cases x with ⟨g1, _⟩ | ⟨g1, _⟩ | ⟨g1, _⟩ <;> rcases sg_cases y with ⟨g2, _⟩ | ⟨g2, _⟩ | ⟨g2, _⟩ <;> rw [g1, g2] at h ⊢ <;> simp_all
theorem cmpF_eq (x y : Rl) (hx : 0 ≤ x.r) (hy : 0 ≤ y.r) : cmpF x y = cmp x y := by
 have hn : sgR (ofRat (-y.s) * sqrt y.r) = sgQ (-y.s) * sgQ y.r := by rw [sg_mul, sg_sqrt hy, sg_rat, sg_rat]
 have hm := signF_eq (x.p - y.p) x.s x.r hx
 unfold cmpF cmp
 have e : x.val - y.val = (ofRat (x.p - y.p) + ofRat x.s * sqrt x.r) + ofRat (-y.s) * sqrt y.r := by
  unfold val
  exact ring [x.p, y.p, x.s, y.s, sqrt x.r, sqrt y.r] (by decide +kernel)
 rw [e, ← hn, hm]
 split
 ·rename_i h
  rcases h with h | h
  ·exact (sg_add_same (.inr h)).symm
  ·exact (sg_add_same (.inl h)).symm
 ·rename_i h
  split
  ·rename_i h0
   have := sg_iff0.1 h0
   rw [this, ring (x := 0 + ofRat (-y.s) * sqrt y.r) (y := ofRat (-y.s) * sqrt y.r) [y.s, sqrt y.r] (by decide +kernel)]
  ·rename_i h0
   rw [sg_add_diff (opp_of h h0) h0, signF_eq _ _ _ hx]
   congr 2
   have s1 : ofRat x.s * ofRat x.s = 1 := by rw [← rat_mul, s_sq]; rfl
   have s2 : ofRat y.s * ofRat y.s = 1 := by rw [← rat_mul, s_sq]; rfl
   have r1 := sqrt_sq x.r hx
   have r2 := sqrt_sq y.r hy
   have t1 : ofRat x.s * sqrt x.r * (ofRat x.s * sqrt x.r) = x.r := ring2 [x.s, sqrt x.r, x.r] s1 (sqrt x.r * sqrt x.r) r1 1 (by decide +kernel)
   have t2 : ofRat y.s * sqrt y.r * (ofRat y.s * sqrt y.r) = y.r := ring2 [y.s, sqrt y.r, y.r] s2 (sqrt y.r * sqrt y.r) r2 1 (by decide +kernel)
   exact ring2 [x.p, y.p, x.s, sqrt x.r, y.s, sqrt y.r, x.r, y.r] t1 (-1) t2 1 (by decide +kernel)
theorem sr_sq (x : Rl) (hx : 0 ≤ x.r) : ofRat x.s * sqrt x.r * (ofRat x.s * sqrt x.r) = x.r := by
 have s1 : ofRat x.s * ofRat x.s = 1 := by rw [← rat_mul, s_sq]; rfl
 exact ring2 [x.s, sqrt x.r, x.r] s1 (sqrt x.r * sqrt x.r) (sqrt_sq x.r hx) 1 (by decide +kernel)
theorem inj {x y : Rl} (hx : x.Ok) (hy : y.Ok) (h : x.val = y.val) : x = y := by
 have x0 := hx.nonneg
 have y0 := hy.nonneg
 obtain ⟨d, hd⟩ : ∃ d, d = x.p - y.p := ⟨_, rfl⟩
 have e : ofRat d + ofRat x.s * sqrt x.r = ofRat y.s * sqrt y.r := by
  unfold val at h
  rw [hd]
  exact ring1 [x.p, y.p, x.s, y.s, sqrt x.r, sqrt y.r] h 1 (by decide +kernel)
 have e2 : ofRat d + ofRat x.s * sqrt x.r - ofRat y.s * sqrt y.r = 0 := by rw [e]; exact ring [y.s, sqrt y.r] (by decide +kernel)
 have sq : ofRat (2 * d * x.s) * sqrt x.r = ofRat (y.r - x.r - d * d) := by
  have q1 := sr_sq x x0
  have q2 := sr_sq y y0
  have : (ofRat d + ofRat x.s * sqrt x.r) * (ofRat d + ofRat x.s * sqrt x.r) = y.r := by rw [e, q2]
  exact ring2 [d, x.s, sqrt x.r, x.r, y.r] this 1 q1 (-1) (by decide +kernel)
 by_cases hd0 : d = 0
 ·subst hd0
  have hp : x.p = y.p := by grind
  have hr : x.r = y.r := by
   have q1 := sr_sq x x0
   have q2 := sr_sq y y0
   rw [← e, ring (x := (ofRat 0 + ofRat x.s * sqrt x.r) * (ofRat 0 + ofRat x.s * sqrt x.r)) (y := ofRat x.s * sqrt x.r * (ofRat x.s * sqrt x.r)) [x.s, sqrt x.r] (by decide +kernel), q1] at q2
   exact rat_inj q2
  have hn : x.neg = y.neg := by
   rcases hx with ⟨a, b⟩ | ⟨a, b⟩
   ·rcases hy with ⟨c, d⟩ | ⟨c, d⟩
    ·rw [b, d]
    ·rw [← hr, a] at c; exact absurd c Rat.lt_irrefl
   ·have hs := sqrt_pos a
    rw [← hr] at e
    have : (ofRat x.s - ofRat y.s) * sqrt x.r = 0 := ring1 [x.s, y.s, sqrt x.r] e 1 (by decide +kernel)
    have hxy : ofRat x.s - ofRat y.s = 0 := by
     apply Classical.byContradiction
     intro hc
     exact mul_ne hc (ne_of_lt hs).symm this
    rw [← rat_sub] at hxy
    have hxy := rat_inj (q := 0) hxy
    rcases s_cases x with ⟨a1, a2⟩ | ⟨a1, a2⟩ <;> rcases s_cases y with ⟨b1, b2⟩ | ⟨b1, b2⟩ <;> rw [a2, b2] at hxy <;> rw [a1, b1]
    ·exact absurd hxy (by decide +kernel)
    ·exact absurd hxy (by decide +kernel)
  cases x; cases y
  simp_all
 ·
  exfalso
  have hc : 2 * d * x.s ≠ 0 := by
   have := s_sq x
   intro h0
   have : 2 * d * (x.s * x.s) = 0 := by grind
   grind
  obtain ⟨w, hw⟩ : ∃ w : Rat, w = (y.r - x.r - d * d) / (2 * d * x.s) := ⟨_, rfl⟩
  have hw2 : 2 * d * x.s * w = y.r - x.r - d * d := by
   rw [hw, Rat.div_def, Rat.mul_comm, Rat.mul_assoc, Rat.inv_mul_cancel _ hc, Rat.mul_one]
  have hs : sqrt x.r = ofRat w := by
   have h1 : ofRat (2 * d * x.s) * (sqrt x.r - ofRat w) = 0 := by
    rw [← hw2] at sq
    exact ring1 [d, x.s, w, sqrt x.r] sq 1 (by decide +kernel)
   apply Classical.byContradiction
   intro hne
   refine mul_ne (fun h => hc (rat_inj h)) (fun h => hne ?_) h1
   exact ring1 [sqrt x.r, w] h 1 (by decide +kernel)
  have hww : w * w = x.r := by
   have := sqrt_sq x.r x0
   rw [hs] at this
   exact rat_inj this
  rcases hx with ⟨a, b⟩ | ⟨a, b⟩
  ·
   rw [a] at hww
   have w0 : w = 0 := by rcases Rat.mul_eq_zero.1 hww with h | h <;> exact h
   have hyr : y.r = d * d := by rw [w0, a] at hw2; grind
   rcases hy with ⟨c, _⟩ | ⟨c, f⟩
   ·have : d * d = 0 := by rw [← hyr, c]
    rcases Rat.mul_eq_zero.1 this with h | h <;> exact hd0 h
   ·exact f d hyr.symm
  ·exact b w hww
end Rl
end Vi

end
section
/- No program in sight: whole parts of numbers with a root. -/
set_option linter.unusedSimpArgs false
set_option linter.unusedVariables false
namespace Vi
open RR
namespace RR
theorem sq_lt {u v : RR} (hu : 0 ≤ u) (hv : 0 ≤ v) (h : u * u < v * v) : u < v := by
 have hu := hu
 rw [← not_le]
 intro hc
 refine absurd h (not_lt.2 (le_of_nonneg ((u - v) * (u + v)) (mul_nonneg (sub_nonneg.2 hc) (add_nonneg hu hv)) (ring [u, v] (by decide +kernel))))
theorem sq_le {u v : RR} (hu : 0 ≤ u) (hv : 0 ≤ v) (h : u * u ≤ v * v) : u ≤ v := by
 rw [← not_lt]
 intro hc
 have h1 := sub_pos.2 hc
 have h2 : 0 < u + v := lt_of_lt_of_le (lt_of_le_of_lt hv hc) (le_of_nonneg v hv (ring [u, v] (by decide +kernel)))
 exact absurd h (not_le.2 (lt_of_pos ((u - v) * (u + v)) (mul_pos h1 h2) (ring [u, v] (by decide +kernel))))
theorem mul_lt_iff {d u v : RR} (hd : 0 < d) : d * u < d * v ↔ u < v := by
 rw [← sub_pos, ← sub_pos (x := u), ring (x := d * v - d * u) (y := d * (v - u)) [d, u, v] (by decide +kernel)]
 constructor
 ·intro h
  rcases tri (v - u) 0 with g | g | g
  ·exact absurd h (le_of_lt (mul_neg hd g))
  ·rw [g, ring (x := d * 0) (y := 0) [d] (by decide +kernel)] at h; exact absurd h (lt_irrefl 0)
  ·exact g
 ·exact mul_pos hd
theorem mul_le_iff {d u v : RR} (hd : 0 < d) : d * u ≤ d * v ↔ u ≤ v := by
 rw [← not_lt, ← not_lt, mul_lt_iff hd]
def IsFl (v : RR) (n : Int) : Prop := ofRat n ≤ v ∧ v < ofRat ((n + 1 : Int) : Rat)
theorem IsFl.unique {v : RR} {m n : Int} (h1 : IsFl v m) (h2 : IsFl v n) : m = n := by
 have a := rat_lt.1 (lt_of_le_of_lt h1.1 h2.2)
 have b := rat_lt.1 (lt_of_le_of_lt h2.1 h1.2)
 have a : m < n + 1 := by exact_mod_cast a
 have b : n < m + 1 := by exact_mod_cast b
 omega
end RR
theorem rat_mul_den (p : Rat) : p * (p.den : Rat) = (p.num : Rat) := by
 have h := Rat.num_divInt_den p
 rw [Rat.divInt_eq_div] at h
 have hd : ((p.den : Int) : Rat) ≠ 0 := by have := p.den_nz; exact_mod_cast this
 have e : ((p.den : Int) : Rat) = (p.den : Rat) := rfl
 rw [e] at h hd
 generalize (p.den : Rat) = d at *
 generalize (p.num : Rat) = n at *
 rw [← h, Rat.div_def, Rat.mul_assoc, Rat.inv_mul_cancel _ hd, Rat.mul_one]
theorem isq_real (X r : Nat) (h1 : r * r ≤ X) (h2 : X < (r + 1) * (r + 1)) : ofRat (r : Rat) ≤ RR.sqrt (X : Rat) ∧ RR.sqrt (X : Rat) < ofRat ((r : Rat) + 1) := by
 have hX : (0 : Rat) ≤ (X : Rat) := by exact_mod_cast Nat.zero_le X
 have hr : (0 : Rat) ≤ (r : Rat) := by exact_mod_cast Nat.zero_le r
 constructor
 ·refine sq_le (rat_le.2 hr) (sqrt_nonneg _) ?_
  rw [sqrt_sq _ hX, ← rat_mul, rat_le]
  exact_mod_cast h1
 ·refine sq_lt (sqrt_nonneg _) (rat_le.2 (by grind)) ?_
  rw [sqrt_sq _ hX, ← rat_mul, rat_lt]
  exact_mod_cast h2
namespace Rl
noncomputable def topI (isq : Nat → Nat) (x : Rl) : Int :=
 if x.neg then x.p.num * x.r.den - ((isq ((x.p.den * x.p.den : Int) * (x.r.num * x.r.den)).toNat : Nat) + 1 : Int) else x.p.num * x.r.den + (isq ((x.p.den * x.p.den : Int) * (x.r.num * x.r.den)).toNat : Nat)
noncomputable def flI (isq : Nat → Nat) (x : Rl) : Int := topI isq x / (x.p.den * x.r.den)
theorem flI_ok (isq : Nat → Nat) (hq : ∀ X, isq X * isq X ≤ X ∧ X < (isq X + 1) * (isq X + 1)) (x : Rl) (hx : x.Ok) : IsFl x.val (flI isq x) := by
 have hd : (0 : Int) < x.p.den := by have := x.p.den_nz; omega
 have hb : (0 : Int) < x.r.den := by have := x.r.den_nz; omega
 have hr := hx.nonneg
 have ha : 0 ≤ x.r.num := Rat.num_nonneg.2 hr
 obtain ⟨D, hD⟩ : ∃ D : Int, D = x.p.den * x.r.den := ⟨_, rfl⟩
 have hD0 : 0 < D := by rw [hD]; exact Int.mul_pos hd hb
 obtain ⟨X, hX⟩ : ∃ X : Nat, X = ((x.p.den * x.p.den : Int) * (x.r.num * x.r.den)).toNat := ⟨_, rfl⟩
 have hXi : (X : Int) = (x.p.den * x.p.den : Int) * (x.r.num * x.r.den) := by
  rw [hX]; exact Int.toNat_of_nonneg (Int.mul_nonneg (Int.le_of_lt (Int.mul_pos hd hd)) (Int.mul_nonneg ha (Int.le_of_lt hb)))
 obtain ⟨g1, g2⟩ := hq X
 obtain ⟨r, hrt⟩ : ∃ r, r = isq X := ⟨_, rfl⟩
 rw [← hrt] at g1 g2
 obtain ⟨w1, w2⟩ := isq_real X r g1 g2
 have hpe : x.p * (x.p.den : Rat) = (x.p.num : Rat) := rat_mul_den x.p
 have hre : x.r * (x.r.den : Rat) = (x.r.num : Rat) := rat_mul_den x.r
 have hDr : ((D : Int) : Rat) = (x.p.den : Rat) * (x.r.den : Rat) := by rw [hD]; push_cast; rfl
 have hXr : (X : Rat) = ((x.p.den : Rat) * (x.r.den : Rat)) * ((x.p.den : Rat) * (x.r.den : Rat)) * x.r := by
  have : ((X : Int) : Rat) = ((x.p.den * x.p.den : Int) * (x.r.num * x.r.den) : Int) := by rw [hXi]
  have e2 : ((X : Int) : Rat) = (X : Rat) := rfl
  rw [← e2, this]
  push_cast
  rw [← hre]
  grind
 have hDq : (0 : Rat) < ((D : Int) : Rat) := by exact_mod_cast hD0
 have hW : RR.sqrt (X : Rat) = ofRat ((D : Int) : Rat) * sqrt x.r := by
  rw [hXr, ← hDr, RR.sqrt_mul (Rat.mul_nonneg (Rat.le_of_lt hDq) (Rat.le_of_lt hDq)) hr, RR.sqrt_sqr (Rat.le_of_lt hDq)]
 have hN : ofRat ((D : Int) : Rat) * ofRat x.p = ofRat ((x.p.num * x.r.den : Int) : Rat) := by
  rw [← rat_mul, hDr]
  congr 1
  push_cast
  rw [← hpe]
  grind
 have hDv : ofRat ((D : Int) : Rat) * x.val = ofRat ((x.p.num * x.r.den : Int) : Rat) + ofRat x.s * RR.sqrt (X : Rat) := by
  unfold val
  rw [hW, ← hN]
  exact ring [((D : Int) : Rat), x.p, x.s, sqrt x.r] (by decide +kernel)
 have key : ofRat ((topI isq x : Int) : Rat) ≤ ofRat ((D : Int) : Rat) * x.val ∧ ofRat ((D : Int) : Rat) * x.val < ofRat ((topI isq x + 1 : Int) : Rat) := by
  rw [hDv]
  unfold topI
  rw [← hX, ← hrt]
  rcases s_cases x with ⟨n1, n2⟩ | ⟨n1, n2⟩
  ·rw [n1, n2, if_pos rfl]
   have hstrict : ofRat (r : Rat) < RR.sqrt (X : Rat) := by
    rcases lt_or_eq w1 with h | h
    ·exact h
    ·exfalso
     rcases hx with ⟨_, h2⟩ | ⟨h1, h2⟩
     ·rw [n1] at h2; cases h2
     ·refine h2 ((r : Rat) * ((D : Int) : Rat)⁻¹) ?_
      have h3 := sqrt_sq (X : Rat) (by exact_mod_cast Nat.zero_le X)
      rw [← h, ← rat_mul] at h3
      have h4 := rat_inj h3
      rw [hXr, ← hDr] at h4
      have e1 : ((D : Int) : Rat) * ((D : Int) : Rat)⁻¹ = 1 := Rat.mul_inv_cancel _ (by grind)
      generalize ((D : Int) : Rat)⁻¹ = i at *
      generalize ((D : Int) : Rat) = q at *
      generalize (r : Rat) = z at *
      have : z * i * (z * i) = (z * z) * (i * i) := by grind
      rw [this, h4]
      have : q * q * x.r * (i * i) = (q * i) * (q * i) * x.r := by grind
      rw [this, e1]; grind
   constructor
   ·refine le_of_lt (lt_of_pos (ofRat ((r : Rat) + 1) - RR.sqrt (X : Rat)) (sub_pos.2 w2) ?_)
    have e : ((x.p.num * x.r.den - ((r : Int) + 1) : Int) : Rat) = ((x.p.num * x.r.den : Int) : Rat) - ((r : Rat) + 1) := by push_cast; rfl
    rw [e]
    generalize ((x.p.num * x.r.den : Int) : Rat) = y1
    generalize RR.sqrt (X : Rat) = y2
    generalize (r : Rat) = y3
    exact ring [y1, y3, y2] (by decide +kernel)
   ·refine lt_of_pos (RR.sqrt (X : Rat) - ofRat (r : Rat)) (sub_pos.2 hstrict) ?_
    have e : ((x.p.num * x.r.den - ((r : Int) + 1) + 1 : Int) : Rat) = ((x.p.num * x.r.den : Int) : Rat) - (r : Rat) := by push_cast; grind
    rw [e]
    generalize ((x.p.num * x.r.den : Int) : Rat) = y1
    generalize RR.sqrt (X : Rat) = y2
    generalize (r : Rat) = y3
    exact ring [y1, y3, y2] (by decide +kernel)
  ·rw [n1, n2, if_neg (by simp)]
   constructor
   ·refine le_of_nonneg (RR.sqrt (X : Rat) - ofRat (r : Rat)) (sub_nonneg.2 w1) ?_
    have e : ((x.p.num * x.r.den + (r : Int) : Int) : Rat) = ((x.p.num * x.r.den : Int) : Rat) + (r : Rat) := by push_cast; rfl
    rw [e]
    generalize ((x.p.num * x.r.den : Int) : Rat) = y1
    generalize RR.sqrt (X : Rat) = y2
    generalize (r : Rat) = y3
    exact ring [y1, y3, y2] (by decide +kernel)
   ·refine lt_of_pos (ofRat ((r : Rat) + 1) - RR.sqrt (X : Rat)) (sub_pos.2 w2) ?_
    have e : ((x.p.num * x.r.den + (r : Int) + 1 : Int) : Rat) = ((x.p.num * x.r.den : Int) : Rat) + ((r : Rat) + 1) := by push_cast; grind
    rw [e]
    generalize ((x.p.num * x.r.den : Int) : Rat) = y1
    generalize RR.sqrt (X : Rat) = y2
    generalize (r : Rat) = y3
    exact ring [y1, y3, y2] (by decide +kernel)
 have hDR : 0 < ofRat ((D : Int) : Rat) := rat_lt.2 hDq
 unfold flI
 rw [← hD]
 generalize topI isq x = t at *
 have d1 := Int.mul_ediv_add_emod t D
 have d2 := Int.emod_nonneg t (show D ≠ 0 by omega)
 have d3 := Int.emod_lt_of_pos t hD0
 generalize t / D = q at *
 constructor
 ·refine (mul_le_iff hDR).1 (le_trans ?_ key.1)
  rw [← rat_mul, rat_le]
  have : D * q ≤ t := by omega
  exact_mod_cast this
 ·refine (mul_lt_iff hDR).1 (lt_of_lt_of_le key.2 ?_)
  rw [← rat_mul, rat_le]
  have : t + 1 ≤ D * (q + 1) := by rw [Int.mul_add, Int.mul_one]; omega
  exact_mod_cast this
end Rl
end Vi
namespace Vi
open RR
def Rl.scR (x : Rl) (q : Rat) : Rl := ⟨x.p * q, q * q * x.r, !decide (q * q * x.r = 0) && (x.neg != decide (q < 0))⟩
namespace Rl
end Rl
end Vi
namespace Vi
open RR
end Vi

end
section
/- Sizes of fractions, found by instances; the least and the greatest of fractions; the sign of a fraction. -/
set_option linter.unusedSimpArgs false
set_option linter.unusedVariables false
namespace Vi
class HasSz (q : Rat) (k : outParam Nat) : Prop where
 sz : Sz k q
instance (p q : Rat) (i j : Nat) [h : HasSz p i] [g : HasSz q j] : HasSz (p + q) (i + j + 1) := ⟨h.sz.add g.sz⟩
instance (p q : Rat) (i j : Nat) [h : HasSz p i] [g : HasSz q j] : HasSz (p - q) (i + j + 1) := ⟨h.sz.sub g.sz⟩
instance (p q : Rat) (i j : Nat) [h : HasSz p i] [g : HasSz q j] : HasSz (p * q) (i + j) := ⟨h.sz.mul g.sz⟩
instance (p : Rat) (i : Nat) [h : HasSz p i] : HasSz (-p) i := ⟨h.sz.neg⟩
theorem lt_pow_self (n : Nat) : n < 256 ^ (n + 1) := by
 induction n with
 | zero => decide
 | succ n ih => rw [Nat.pow_succ]; omega
theorem int_hs (z : Int) (k : Nat) (h : z.natAbs < 256 ^ (k + 1)) : HasSz (z : Rat) (k + 1) :=
 ⟨by rw [Rat.num_intCast]; exact h, by rw [Rat.den_intCast, Nat.pow_succ]; have := Nat.pow_pos (a := 256) (n := k) (by omega); omega⟩
instance (n : Nat) : HasSz (no_index (OfNat.ofNat n : Rat)) (n + 1) := by
 have := int_hs (n : Int) n (by simpa using lt_pow_self n)
 exact this
instance : HasSz (0 : Rat) 1 := ⟨by unfold Sz; decide⟩
instance : HasSz (1 : Rat) 1 := ⟨by unfold Sz; decide⟩
instance : HasSz (2 : Rat) 1 := ⟨by unfold Sz; decide⟩
instance : HasSz (4 : Rat) 1 := ⟨by unfold Sz; decide⟩
theorem hs_div (p q : Rat) (i j : Nat) [h : HasSz p i] [g : HasSz q j] (h0 : q ≠ 0) : HasSz (p / q) (i + j) := ⟨h.sz.div g.sz (fun e => h0 (Rat.num_eq_zero.1 e))⟩
theorem hs_mono {p : Rat} {i j : Nat} (h : HasSz p i) (hij : i ≤ j) : HasSz p j := ⟨h.sz.mono hij⟩
def minQ (p q : Rat) : Rat := if p ≤ q then p else q
def maxQ (p q : Rat) : Rat := if q ≤ p then p else q
instance (p q : Rat) (i j : Nat) [h : HasSz p i] [g : HasSz q j] : HasSz (minQ p q) (i + j) := by
 unfold minQ; split
 ·exact hs_mono h (by omega)
 ·exact hs_mono g (by omega)
instance (p q : Rat) (i j : Nat) [h : HasSz p i] [g : HasSz q j] : HasSz (maxQ p q) (i + j) := by
 unfold maxQ; split
 ·exact hs_mono h (by omega)
 ·exact hs_mono g (by omega)
end Vi
namespace Go.Proofs.YthdaimoankaciaaGreatDoor
open Go Go.RowKit Go.Sy
open Vi
theorem fz {q : Rat} {k : Nat} [h : HasSz q k] (hk : k ≤ 131000 := by first | omega | decide) : Fits q := h.sz.fits hk
theorem cmpI_sg (p : Rat) : cmpI p.num 0 = sgQ p := by
 rcases sgn_cases p with ⟨h1, h2⟩ | ⟨h1, h2⟩ | ⟨h1, h2⟩ <;> rcases sgQ_cases p with ⟨g1, g2⟩ | ⟨g1, g2⟩ | ⟨g1, g2⟩ <;> rw [h1, g1] <;> grind
theorem cmpQ_sg (p q : Rat) : cmpQ p q = sgQ (p - q) := by
 rcases cmpQ_cases p q with ⟨h1, h2⟩ | ⟨h1, h2⟩ | ⟨h1, h2⟩ <;> rcases sgQ_cases (p - q) with ⟨g1, g2⟩ | ⟨g1, g2⟩ | ⟨g1, g2⟩ <;> rw [h1, g1] <;> grind
end Go.Proofs.YthdaimoankaciaaGreatDoor

end
section
/- No program in sight: the canonical form of p + q * sqrt r, and what follows for moves, inverses and values of quadratics. -/
set_option linter.unusedSimpArgs false
set_option linter.unusedVariables false
namespace Vi
open RR Rl
noncomputable def mkR (p q r : Rat) : Rl := open Classical in
 if h : ∃ w : Rat, 0 ≤ w ∧ w * w = r then ⟨p + q * Classical.choose h, 0, false⟩ else ⟨p, q * q * r, decide (q < 0)⟩
theorem sq_inj {v w : Rat} (hv : 0 ≤ v) (hw : 0 ≤ w) (h : v * v = w * w) : v = w := by
 have h2 : (v - w) * (v + w) = 0 := by grind
 rcases Rat.mul_eq_zero.1 h2 with h3 | h3 <;> grind
theorem mkR_sq (p q r w : Rat) (h0 : 0 ≤ w) (h : w * w = r) : mkR p q r = ⟨p + q * w, 0, false⟩ := by
 unfold mkR
 have hx : ∃ w : Rat, 0 ≤ w ∧ w * w = r := ⟨w, h0, h⟩
 rw [dif_pos hx]
 obtain ⟨h1, h2⟩ := Classical.choose_spec hx
 rw [sq_inj h1 h0 (h2.trans h.symm)]
theorem mkR_irr (p q r : Rat) (h : ∀ w : Rat, w * w ≠ r) : mkR p q r = ⟨p, q * q * r, decide (q < 0)⟩ := by
 unfold mkR
 exact dif_neg fun ⟨w, _, hw⟩ => h w hw
theorem sz_root {w : Rat} {k : Nat} [h : HasSz (w * w) k] : HasSz w k := by
 have h1 : (w * w).num = w.num * w.num ∧ (w * w).den = w.den * w.den := by
  have hc : Nat.Coprime (w.num * w.num).natAbs (w.den * w.den) := by
   rw [Int.natAbs_mul]
   exact Nat.Coprime.mul_left (Nat.Coprime.mul_right w.reduced w.reduced) (Nat.Coprime.mul_right w.reduced w.reduced)
  have e : w * w = ⟨w.num * w.num, w.den * w.den, Nat.mul_ne_zero w.den_nz w.den_nz, hc⟩ := by
   rw [Rat.mul_def, ← Rat.mk_eq_normalize]
  rw [e]; exact ⟨rfl, rfl⟩
 have h2 := h.sz
 unfold Sz at h2
 rw [h1.1, h1.2, Int.natAbs_mul] at h2
 refine ⟨?_⟩
 unfold Sz
 have a1 := Nat.le_mul_self w.num.natAbs
 have a2 := Nat.le_mul_self w.den
 omega
theorem hz0 : HasSz (0 : Rat) 1 := inferInstance
instance (p q r : Rat) (i j k : Nat) [hp : HasSz p i] [hq : HasSz q j] [hr : HasSz r k] : HasSz (mkR p q r).p (i + (j + k) + 1) := by
 by_cases h : ∃ w : Rat, 0 ≤ w ∧ w * w = r
 ·obtain ⟨w, h0, hw⟩ := h
  rw [mkR_sq p q r w h0 hw]
  subst hw
  haveI : HasSz w k := sz_root
  exact (inferInstance : HasSz (p + q * w) _)
 ·unfold mkR
  rw [dif_neg h]
  exact hs_mono hp (by omega)
instance (p q r : Rat) (i j k : Nat) [hp : HasSz p i] [hq : HasSz q j] [hr : HasSz r k] : HasSz (mkR p q r).r (j + j + k + 1) := by
 by_cases h : ∃ w : Rat, 0 ≤ w ∧ w * w = r
 ·obtain ⟨w, h0, hw⟩ := h
  rw [mkR_sq p q r w h0 hw]
  exact hs_mono hz0 (by omega)
 ·unfold mkR
  rw [dif_neg h]
  exact hs_mono (inferInstance : HasSz (q * q * r) _) (by omega)
def Rl.cj (x : Rl) : Rl := ⟨x.p, x.r, !x.neg⟩
def Rl.nm (x : Rl) : Rat := x.p * x.p - x.r
theorem nm_ne {x : Rl} (hx : x.Ok) (h0 : x.r ≠ 0) : x.nm ≠ 0 := by
 rcases hx with ⟨h, _⟩ | ⟨_, h⟩
 ·exact absurd h h0
 ·intro e; exact h x.p (by unfold Rl.nm at e; grind)
noncomputable def Rl.inv (x : Rl) : Rl := if x.r = 0 then Rl.rat (1 / x.p) else x.cj.scR (1 / x.nm)
theorem hs_div0 (p q : Rat) (i j : Nat) [h : HasSz p i] [g : HasSz q j] : HasSz (p / q) (i + j + 1) := by
 by_cases h0 : q = 0
 ·rw [h0, show p / 0 = 0 by rw [Rat.div_def]; simp]
  exact hs_mono hz0 (by omega)
 ·exact hs_mono (hs_div p q i j h0) (by omega)
instance (x : Rl) (i j : Nat) [h : HasSz x.p i] [g : HasSz x.r j] : HasSz x.nm (i + i + j + 1) := (inferInstance : HasSz (x.p * x.p - x.r) _)
instance (x : Rl) (i j : Nat) [h : HasSz x.p i] [g : HasSz x.r j] : HasSz x.inv.p (i + (1 + (i + i + j + 1) + 1)) := by
 haveI := hs_div0 1 x.nm 1 (i + i + j + 1)
 haveI := hs_div0 1 x.p 1 i
 unfold Rl.inv
 split
 ·exact hs_mono (inferInstance : HasSz (1 / x.p) _) (by omega)
 ·exact (inferInstance : HasSz (x.p * (1 / x.nm)) _)
instance (x : Rl) (i j : Nat) [h : HasSz x.p i] [g : HasSz x.r j] : HasSz x.inv.r (1 + (i + i + j + 1) + 1 + (1 + (i + i + j + 1) + 1) + j) := by
 haveI := hs_div0 1 x.nm 1 (i + i + j + 1)
 unfold Rl.inv
 split
 ·exact hs_mono hz0 (by omega)
 ·exact (inferInstance : HasSz (1 / x.nm * (1 / x.nm) * x.r) _)
theorem val_rat0 {x : Rl} (h : x.r = 0) : x.val = ofRat x.p := by
 unfold Rl.val
 rw [h, sqrt_zero]
 exact ring [x.p, x.s] (by decide +kernel)
theorem val_ne0 {x : Rl} (hx : x.Ok) (h0 : x ≠ Rl.rat 0) : x.val ≠ 0 := by
 intro e
 exact h0 (inj hx (rat_ok 0) (e.trans (rat_val 0).symm))
end Vi
set_option linter.unusedSimpArgs false
set_option linter.unusedVariables false
namespace Vi
open RR Rl
theorem irr_nat (n k : Nat) (h1 : k * k < n) (h2 : n < (k + 1) * (k + 1)) (w : Rat) : w * w ≠ ((n : Nat) : Rat) := by
 intro e
 have hc : Nat.Coprime (w.num * w.num).natAbs (w.den * w.den) := by
  rw [Int.natAbs_mul]
  exact Nat.Coprime.mul_left (Nat.Coprime.mul_right w.reduced w.reduced) (Nat.Coprime.mul_right w.reduced w.reduced)
 have e2 : w * w = ⟨w.num * w.num, w.den * w.den, Nat.mul_ne_zero w.den_nz w.den_nz, hc⟩ := by
  rw [Rat.mul_def, ← Rat.mk_eq_normalize]
 have e3 : (w * w).num = w.num * w.num := by rw [e2]
 have e4 : (((n : Nat) : Rat)).num = (n : Int) := by rfl
 rw [e, e4] at e3
 have e5 : n = w.num.natAbs * w.num.natAbs := by rw [← Int.natAbs_mul, ← e3]; rfl
 generalize w.num.natAbs = m at e5
 rcases Nat.lt_or_ge m (k + 1) with h | h
 ·have := Nat.mul_le_mul (show m ≤ k by omega) (show m ≤ k by omega); omega
 ·have := Nat.mul_le_mul h h; omega
theorem ok_nat (p : Rat) (n k : Nat) (b : Bool) (h0 : 0 < n) (h1 : k * k < n) (h2 : n < (k + 1) * (k + 1)) : (⟨p, ((n : Nat) : Rat), b⟩ : Rl).Ok :=
 .inr ⟨by have : ((0 : Nat) : Rat) < ((n : Nat) : Rat) := Rat.natCast_lt_natCast.2 h0
          exact this, irr_nat n k h1 h2⟩
end Vi

end
section
/- No program in sight: numbers with a root as strings. -/
set_option linter.unusedSimpArgs false
set_option linter.unusedVariables false
namespace Go.Proofs.YthdaimoankaciaaGreatDoor
open Go Go.RowKit Go.Sy
open Vi
theorem dqL_ln (X k : Nat) (h : nd 256 X ≤ k) (hk : 1 ≤ k) : (dqL X).length ≤ 3 * k := by
 unfold dqL; split
 ·show 1 ≤ _; omega
 ·exact decS_len X k (by rw [size_mag]; exact h)
theorem printQ_ln (p : Rat) (k : Nat) (hp : Sz k p) (hk : 1 ≤ k) : (printQ p).size ≤ 6 * k + 2 := by
 have h1 := dqL_ln p.num.natAbs k (by rw [← mg_nd]; exact hp.num) hk
 have h2 := dqL_ln (dn p).natAbs k (by rw [← mg_nd]; exact hp.dn) hk
 rw [printQ_list]
 show (prL p).length ≤ _
 unfold prL
 rw [List.length_append, List.length_append]
 split <;> split <;> simp only [List.length_cons, List.length_nil] <;> omega
def sqL : List UInt8 := [115, 113, 114, 116, 40]
def sgnB (b : Bool) : UInt8 := if b then 45 else 43
def prLL (x : Rl) : List UInt8 := prL x.p ++ (if x.r = 0 then [] else sgnB x.neg :: (sqL ++ (prL x.r ++ [41])))
def printL (x : Rl) : ByteArray := ⟨(prLL x).toArray⟩
theorem dqL_lt (X : Nat) : ∀ b ∈ dqL X, b.toNat < 58 := fun b hb => by
 have h := List.all_eq_true.1 (dqL_all X) b hb
 unfold isD at h
 simp at h
 omega
theorem prL_lt (p : Rat) : ∀ b ∈ prL p, b.toNat < 58 := fun b hb => by
 unfold prL at hb
 rw [List.mem_append, List.mem_append] at hb
 rcases hb with (hb | hb) | hb
 ·split at hb
  ·rw [List.mem_singleton] at hb; subst hb; decide
  ·cases hb
 ·exact dqL_lt _ b hb
 ·split at hb
  ·cases hb
  ·rcases List.mem_cons.1 hb with rfl | hb
   ·decide
   ·exact dqL_lt _ b hb
theorem sgnB_lt (b : Bool) : (sgnB b).toNat < 58 := by cases b <;> decide
theorem occ_no {l : List UInt8} {j : Nat} (h : ∀ b, l[j]? = some b → b ≠ 115) : Lib.occAt l sqL j = false := by
 unfold Lib.occAt
 cases hd : l.drop j with
 | nil => rfl
 | cons a t =>
  have : a ≠ 115 := h a (by rw [← List.head?_drop, hd]; rfl)
  show ((115 : UInt8) == a && _) = false
  rw [show ((115 : UInt8) == a) = false by simpa using this.symm]; rfl
theorem ne115 {b : UInt8} (h : b.toNat < 58) : b ≠ 115 := by rintro rfl; exact absurd h (by decide)
theorem cut_rat (p : Rat) : Lib.cut (prL p) sqL = (prL p, [], false) := by
 have h : Lib.index (prL p) sqL = -1 := Lib.index_none fun j _ => occ_no fun b hb => ne115 (prL_lt p b (List.mem_of_getElem? hb))
 unfold Lib.cut
 rw [h]; rfl
theorem cut_root (p : Rat) (n : Bool) (t : List UInt8) : Lib.cut (prL p ++ sgnB n :: (sqL ++ t)) sqL = (prL p ++ [sgnB n], t, true) := by
 have h : Lib.index (prL p ++ sgnB n :: (sqL ++ t)) sqL = ((prL p).length + 1 : Nat) := by
  refine Lib.index_first ?_ ?_ fun j hj => occ_no fun b hb => ?_
  ·rw [List.length_append, List.length_cons]; omega
  ·unfold Lib.occAt
   rw [List.drop_append, List.drop_of_length_le (by omega), show (prL p).length + 1 - (prL p).length = 1 by omega]
   show sqL.isPrefixOf (sqL ++ t) = true
   rw [List.isPrefixOf_iff_prefix]
   exact ⟨t, rfl⟩
  ·rcases (by omega : j < (prL p).length ∨ j = (prL p).length) with h | h
   ·rw [List.getElem?_append_left h] at hb
    exact ne115 (prL_lt p b (List.mem_of_getElem? hb))
   ·rw [h, List.getElem?_append_right (Nat.le_refl _), Nat.sub_self] at hb
    obtain rfl : sgnB n = b := Option.some.inj hb
    exact ne115 (sgnB_lt n)
 unfold Lib.cut
 rw [h, if_pos (by omega)]
 simp only [Int.toNat_natCast]
 have e1 : (prL p ++ sgnB n :: (sqL ++ t)).take ((prL p).length + 1) = prL p ++ [sgnB n] := by
  rw [List.take_append, List.take_of_length_le (by omega), show (prL p).length + 1 - (prL p).length = 1 by omega]; rfl
 have e2 : (prL p ++ sgnB n :: (sqL ++ t)).drop ((prL p).length + 1 + sqL.length) = t := by
  rw [List.drop_append, List.drop_of_length_le (by omega), show (prL p).length + 1 + sqL.length - (prL p).length = 6 by show _ + 1 + 5 - _ = 6; omega]; rfl
 rw [e1, e2]
theorem trim_par (l : List UInt8) : Lib.trimSuffix (l ++ [41]) [41] = l ∧ Lib.hasSuffix (l ++ [41]) [41] = true := by
 have h : Lib.hasSuffix (l ++ [41]) [41] = true := by
  unfold Lib.hasSuffix
  rw [List.isSuffixOf_iff_suffix]
  exact ⟨l, rfl⟩
 refine ⟨?_, h⟩
 unfold Lib.trimSuffix
 rw [h, if_pos rfl]
 simp
theorem pow10_le (k : Nat) : 10 ^ k ≤ 256 ^ k := Nat.pow_le_pow_left (by decide) k
theorem pv_bound (s : ByteArray) (h : okD s = true) : pv s s.size < 256 ^ s.size := by
 unfold okD at h
 simp only [Bool.and_eq_true] at h
 have hd := (digS_iff s).2 h.1
 exact Nat.lt_of_lt_of_le (pv_lt s s.size fun i hi => (dgt_le s i hi (by have := hd i hi; unfold isD; simp; omega)).1) (pow10_le _)
theorem parseQ_sz (s : ByteArray) (k : Nat) (hk : s.size ≤ k) (h1 : 1 ≤ k) : HasSz (parseQ s).1 k := by
 have z0 : HasSz (0 : Rat) k := hs_mono hz0 h1
 unfold parseQ
 split
 ·exact z0
 ·split
  ·exact z0
  ·rename_i hok
   obtain ⟨D, hD⟩ : ∃ D, D = (if cutH (qrest s) = true then pv (cutB (qrest s)) (cutB (qrest s)).size else 1) := ⟨_, rfl⟩
   rw [← hD]
   by_cases hd : D = 0
   ·rw [if_pos hd]; exact z0
   ·rw [if_neg hd]
    have hT := qrest_size s
    have hA := cutA_size (qrest s)
    have hB := cutB_size (qrest s)
    have hok : okD (cutA (qrest s)) = true ∧ (cutH (qrest s) = true → okD (cutB (qrest s)) = true) := by
     cases e1 : okD (cutA (qrest s)) <;> cases e2 : cutH (qrest s) <;> cases e3 : okD (cutB (qrest s)) <;> simp [e1, e2, e3] at hok ⊢
    have m1 : pv (cutA (qrest s)) (cutA (qrest s)).size < 256 ^ k := Nat.lt_of_lt_of_le (pv_bound _ hok.1) (Nat.pow_le_pow_right (by decide) (by omega))
    have m2 : D < 256 ^ k := by
     rw [hD]
     cases e2 : cutH (qrest s)
     ·have : 256 ^ 1 ≤ 256 ^ k := Nat.pow_le_pow_right (by decide) h1
      rw [if_neg (by simp)]; omega
     ·rw [if_pos rfl]
      exact Nat.lt_of_lt_of_le (pv_bound _ (hok.2 e2)) (Nat.pow_le_pow_right (by decide) (by omega))
    refine ⟨Sz.of _ _ k (by omega) ?_ (by rw [Int.natAbs_natCast]; exact m2)⟩
    split <;> omega
theorem printL_rat {x : Rl} (h : x.r = 0) : printL x = printQ x.p := by
 unfold printL prLL
 rw [if_pos h, List.append_nil, printQ_list]
theorem printL_root {x : Rl} (h : x.r ≠ 0) : printL x = printQ x.p ++ ⟨#[sgnB x.neg, 115, 113, 114, 116, 40]⟩ ++ printQ x.r ++ ⟨#[41]⟩ := by
 unfold printL prLL
 rw [if_neg h, printQ_list, printQ_list, show (⟨#[sgnB x.neg, 115, 113, 114, 116, 40]⟩ : ByteArray) = ⟨(sgnB x.neg :: sqL).toArray⟩ from rfl, show (⟨#[41]⟩ : ByteArray) = ⟨([41] : List UInt8).toArray⟩ from rfl, app_mk, app_mk, app_mk]
 simp
theorem printL_sizes {x : Rl} (k : Nat) (h : (printL x).size ≤ k) (hk : k ≤ 4096) (h1 : 1 ≤ k) (hx : x.Ok) : HasSz x.p k ∧ HasSz x.r k ∧ (printQ x.p).size ≤ k ∧ (x.r ≠ 0 → (printQ x.r).size ≤ k) := by
 by_cases h0 : x.r = 0
 ·rw [printL_rat h0] at h
  have := parseQ_sz (printQ x.p) k h h1
  rw [parse_print x.p (by omega)] at this
  exact ⟨this, by rw [h0]; exact hs_mono hz0 h1, h, fun h2 => absurd h0 h2⟩
 ·rw [printL_root h0, ByteArray.size_append, ByteArray.size_append, ByteArray.size_append] at h
  have a := parseQ_sz (printQ x.p) k (by omega) h1
  rw [parse_print x.p (by omega)] at a
  have b := parseQ_sz (printQ x.r) k (by omega) h1
  rw [parse_print x.r (by omega)] at b
  exact ⟨a, b, by omega, fun _ => by omega⟩
end Go.Proofs.YthdaimoankaciaaGreatDoor

end
