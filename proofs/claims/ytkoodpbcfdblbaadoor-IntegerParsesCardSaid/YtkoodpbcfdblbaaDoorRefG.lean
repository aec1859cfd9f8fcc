import Derived.Test.YtkoodpbcfdblbaaDoorRefE
set_option linter.unusedSimpArgs false
set_option linter.unusedVariables false
namespace Go.Proofs.YtkoodpbcfdblbaaDoor
open Go Go.RowKit
open Vi
set_option maxRecDepth 100000 in
set_option maxHeartbeats 1600000 in
theorem rsumF_c (v1 v2 : Value) (n m x y : Nat) (w : World) (h1 : Dl w v1 n x) (h2 : Dl w v2 m y) (hn : n ≤ 8589934592) (hm : m ≤ 8589934592) : Calls Tryd.prog 57 #[v1, v2] w fun e w' => ∃ v N, e = .returned v ∧ N ≤ max n m + 1 ∧ Dl w' v N (x + y) ∧ (∀ k, v.ownBlock = some k → w.heap.size ≤ k) ∧ Below w.heap.size w w' := by
  obtain ⟨i0, hi, hz0, hz1, hz2⟩ := info_parts info3
  obtain ⟨a1, c1, e1⟩ := h1.lenForm
  obtain ⟨a2, c2, e2⟩ := h2.lenForm
  subst e1
  subst e2
  have hmax : max (n : Int) (m : Int) = ((max n m : Nat) : Int) := by omega
  obtain ⟨M, hM⟩ : ∃ M, M = max n m := ⟨_, rfl⟩
  rw [← hM] at hmax ⊢
  have hx : x < 256 ^ M := Nat.lt_of_lt_of_le h1.1 (Nat.pow_le_pow_right (by omega) (by omega))
  have hy : y < 256 ^ M := Nat.lt_of_lt_of_le h2.1 (Nat.pow_le_pow_right (by omega) (by omega))
  have hMb : M ≤ 8589934592 := by omega
  have A1 : Hid (∀ (i : Nat) (wr : World), Below w.heap.size w wr → Calls Tryd.prog 76 #[.slice a1 n c1, .int .i64 (i : Int)] wr fun e w' => e = .returned (.int .i64 (d8 x i : Nat)) ∧ wr = w') := Lib.hid fun i wr hb => at_c _ n x i wr (h1.below hb)
  have A2 : Hid (∀ (i : Nat) (wr : World), Below w.heap.size w wr → Calls Tryd.prog 76 #[.slice a2 m c2, .int .i64 (i : Int)] wr fun e w' => e = .returned (.int .i64 (d8 y i : Nat)) ∧ wr = w') := Lib.hid fun i wr hb => at_c _ m y i wr (h2.below hb)
  have HX := Lib.hid hx
  have HY := Lib.hid hy
  have HC0 := Lib.hid (cr8_zero x y)
  clear h1 h2 hM hx hy
  go_enter Tryd.func57, Tryd.ntmps57
  go_wp2_with fail
  go_loopw [5, 6, 7] (fun v c i wr => ∃ k : Nat, k ≤ M + 1 ∧ i = .int .i64 k ∧ c = .int .i64 (cr8 x y k : Nat) ∧ wr.ownsRow w.heap.size 3 1 v k (dvals (x + y) k) ∧ Below w.heap.size w wr) (fun _ _ i _ => M + 2 - (intOf i).toNat)
  case atStart => exact ⟨0, Nat.zero_le _, rfl, by rw [HC0.out]; rfl, World.ownsRow_nil _ _ _ _, Below.refl _ _⟩
  case round =>
    obtain ⟨k, hk, rfl, rfl, hown, hbel⟩ := hrel
    have hcle := cr8_le x y k
    by_cases hgo : k < M ∨ 0 < cr8 x y k
    · have hkM : k ≤ M := by
        rcases hgo with h | h
        · omega
        · apply Decidable.byContradiction
          intro hn
          have e : k = M + 1 := by omega
          rw [e, cr8_big x y M HX.out HY.out] at h
          omega
      obtain ⟨a, ha⟩ : ∃ a, a = d8 x k := ⟨_, rfl⟩
      obtain ⟨b, hb⟩ : ∃ b, b = d8 y k := ⟨_, rfl⟩
      obtain ⟨cr, hcr⟩ : ∃ c, c = cr8 x y k := ⟨_, rfl⟩
      obtain ⟨dg1, hdg⟩ : ∃ d, d = d8 (x + y) k := ⟨_, rfl⟩
      obtain ⟨cr1, hcr1⟩ : ∃ c, c = cr8 x y (k + 1) := ⟨_, rfl⟩
      have ha2 : a < 256 := ha ▸ d8_lt x k
      have hb2 : b < 256 := hb ▸ d8_lt y k
      have hs1 : dg1 = (a + b + cr) % 256 := by rw [hdg, d8_add, ← ha, ← hb, ← hcr]
      have hs2 : cr1 = (a + b + cr) / 256 := by rw [hcr1, cr8_succ, ← ha, ← hb, ← hcr]
      have B1 := A1.out k
      have B2 := A2.out k
      rw [← ha] at B1
      rw [← hb] at B2
      have HB1 := Lib.hid (B1 wr hbel)
      have HB2 := Lib.hid (B2 wr hbel)
      rw [← hcr] at hcle hgo ⊢
      have em : ((a : Int) + (b : Int) + (cr : Int)).tmod 256 = (dg1 : Int) := by rw [Int.tmod_eq_emod_of_nonneg (by omega)]; omega
      have ed : ((a : Int) + (b : Int) + (cr : Int)).tdiv 256 = (cr1 : Int) := by rw [Int.tdiv_eq_ediv_of_nonneg (by omega)]; omega
      have Hs : Hid (dvals (x + y) k ++ [Value.int .i64 (dg1 : Nat)] = dvals (x + y) (k + 1)) := Lib.hid (by rw [hdg, dvals_succ])
      have Hc1 := Lib.hid hcr1
      have hd2 : dg1 < 256 := hdg ▸ d8_lt _ _
      have hcw : wrap64 (cr1 : Int) = (cr1 : Int) := by unfold wrap64; omega
      clear B1 B2 ha hb hcr hdg hcr1 hs1 hs2
      have hsz := hbel.size
      by_cases hlt : k < M
      · have hlt2 : (k : Int) < (M : Int) := by omega
        clear hgo
        go_wp2_with (first | (go_at_call 76; (first | (with_reducible refine (HB1.out).mono ?_) | (with_reducible refine (HB2.out).mono ?_)); rintro e w' ⟨rfl, rfl⟩) | (at_builtin; refine wpList_append_own _ rfl _ _ 54 rfl w.heap.size 3 i0 (.int .i64 0) 1 8 Tryd.underlying54 hi hz0 hz1 hz2 rfl (by decide) _ _ _ rfl (hown.alloc _) ⟨wr.heap.size, 0, none⟩ 1 1 [.int .i64 (dg1 : Nat)] rfl rfl ?c1 ?c2 ?c3 ?c4 ?c5 ?_) | go_in)
        case c1 =>
          intro j u hj
          match j, hj with
          | 0, hj => simp at hj; subst hj; simp [Addr.add]
        case c2 => intro u hu; simp at hu; subst hu; rfl
        case c3 => unfold maxLen; omega
        case c4 => omega
        case c5 => first | (simp; done) | (simp; omega)
        intro v' w1 hown' hgrow _
        rw [Hs.out] at hown'
        have hb2 : Below w.heap.size w w1 := (hbel.alloc hsz _).grown hgrow (by first | (simp; done) | (simp; omega)) fun k' hk' => (hown.lt k' hk').1
        clear hown hgrow hbel
        go_wp2
        go_roundw
        case rel => exact ⟨k + 1, by omega, by go_num, by rw [← Hc1.out, hcw], hown', hb2⟩
        case measure => first | (simp [intOf]; done) | (simp [intOf]; omega)
      · have hlt2 : ¬ (k : Int) < (M : Int) := by omega
        have hcp : (0 : Int) < (cr : Int) := by omega
        clear hgo
        go_wp2_with (first | (go_at_call 76; (first | (with_reducible refine (HB1.out).mono ?_) | (with_reducible refine (HB2.out).mono ?_)); rintro e w' ⟨rfl, rfl⟩) | (at_builtin; refine wpList_append_own _ rfl _ _ 54 rfl w.heap.size 3 i0 (.int .i64 0) 1 8 Tryd.underlying54 hi hz0 hz1 hz2 rfl (by decide) _ _ _ rfl (hown.alloc _) ⟨wr.heap.size, 0, none⟩ 1 1 [.int .i64 (dg1 : Nat)] rfl rfl ?c1 ?c2 ?c3 ?c4 ?c5 ?_) | go_in)
        case c1 =>
          intro j u hj
          match j, hj with
          | 0, hj => simp at hj; subst hj; simp [Addr.add]
        case c2 => intro u hu; simp at hu; subst hu; rfl
        case c3 => unfold maxLen; omega
        case c4 => omega
        case c5 => first | (simp; done) | (simp; omega)
        intro v' w1 hown' hgrow _
        rw [Hs.out] at hown'
        have hb2 : Below w.heap.size w w1 := (hbel.alloc hsz _).grown hgrow (by first | (simp; done) | (simp; omega)) fun k' hk' => (hown.lt k' hk').1
        clear hown hgrow hbel
        go_wp2
        go_roundw
        case rel => exact ⟨k + 1, by omega, by go_num, by rw [← Hc1.out, hcw], hown', hb2⟩
        case measure => first | (simp [intOf]; done) | (simp [intOf]; omega)
    · have hk2 : ¬ (k : Int) < (M : Int) := by omega
      have hc0 : cr8 x y k = 0 := by omega
      have hxk : x < 256 ^ k := Nat.lt_of_lt_of_le HX.out (Nat.pow_le_pow_right (by omega) (by omega))
      have hyk : y < 256 ^ k := Nat.lt_of_lt_of_le HY.out (Nat.pow_le_pow_right (by omega) (by omega))
      have He := Lib.hid (cr8_end x y k hxk hyk hc0)
      rw [hc0]
      clear hxk hyk hgo hcle hc0
      go_wp2_with fail
      go_ret
      first | exact ⟨_, rfl, k, by omega, Dl.of_owned hown He.out, fun k' hk' => (hown.lt k' hk').1, hbel⟩ | exact ⟨_, k, rfl, by omega, Dl.of_owned hown He.out, fun k' hk' => (hown.lt k' hk').1, hbel⟩
set_option maxRecDepth 100000 in
set_option maxHeartbeats 1600000 in
theorem rdifferenceF_c (v1 v2 : Value) (n m x y : Nat) (w : World) (h1 : Dl w v1 n x) (h2 : Dl w v2 m y) (hn : n ≤ 8589934592) (hm : m ≤ 8589934592) (hle : y ≤ x) : Calls Tryd.prog 59 #[v1, v2] w fun e w' => ∃ v, e = .returned v ∧ Dl w' v n (x - y) ∧ (∀ k, v.ownBlock = some k → w.heap.size ≤ k) ∧ Below w.heap.size w w' := by
  obtain ⟨i0, hi, hz0, hz1, hz2⟩ := info_parts info3
  obtain ⟨a1, c1, e1⟩ := h1.lenForm
  obtain ⟨a2, c2, e2⟩ := h2.lenForm
  subst e1
  subst e2
  have hx : x - y < 256 ^ n := Nat.lt_of_le_of_lt (Nat.sub_le _ _) h1.1
  have A1 : Hid (∀ (i : Nat) (wr : World), Below w.heap.size w wr → i < n → ∃ g, a1 = some ⟨g, 0, none⟩ ∧ n ≤ c1 ∧ g < wr.heap.size ∧ wr.cell? ⟨g, i, none⟩ = some (.int .i64 (d8 x i : Nat))) := Lib.hid fun i wr hb hlt => by
    rcases h1.2 with ⟨e, rfl⟩ | ⟨g, c, e, hc, _, hg, hcell⟩
    · exact absurd hlt (by omega)
    · cases e
      exact ⟨g, rfl, hc, Nat.lt_of_lt_of_le hg hb.size, (hb.cell (p := ⟨g, i, none⟩) hg).trans (hcell i hlt)⟩
  have A2 : Hid (∀ (i : Nat) (wr : World), Below w.heap.size w wr → Calls Tryd.prog 76 #[.slice a2 m c2, .int .i64 (i : Int)] wr fun e w' => e = .returned (.int .i64 (d8 y i : Nat)) ∧ wr = w') := Lib.hid fun i wr hb => at_c _ m y i wr (h2.below hb)
  have HX := Lib.hid hx
  have HL := Lib.hid hle
  have HC0 := Lib.hid (cr8_zero (x - y) y)
  clear h1 h2 hx hle
  go_enter Tryd.func59, Tryd.ntmps59
  go_wp2_with fail
  go_loopw [5, 6, 7] (fun v c i wr => ∃ k : Nat, k ≤ n ∧ i = .int .i64 k ∧ c = .int .i64 (cr8 (x - y) y k : Nat) ∧ wr.ownsRow w.heap.size 3 1 v k (dvals (x - y) k) ∧ Below w.heap.size w wr) (fun _ _ i _ => n - (intOf i).toNat)
  case atStart => exact ⟨0, Nat.zero_le _, rfl, by rw [HC0.out]; rfl, World.ownsRow_nil _ _ _ _, Below.refl _ _⟩
  case round =>
    obtain ⟨k, hk, rfl, rfl, hown, hbel⟩ := hrel
    by_cases hgo : k < n
    · have hsz := hbel.size
      obtain ⟨g, rfl, hcap, hgl, hcell⟩ := A1.out k wr hbel hgo
      obtain ⟨a, ha⟩ : ∃ a, a = d8 x k := ⟨_, rfl⟩
      obtain ⟨b, hb⟩ : ∃ b, b = d8 y k := ⟨_, rfl⟩
      obtain ⟨cr, hcr⟩ : ∃ c, c = cr8 (x - y) y k := ⟨_, rfl⟩
      obtain ⟨dg1, hdg⟩ : ∃ d, d = d8 (x - y) k := ⟨_, rfl⟩
      obtain ⟨cr1, hcr1⟩ : ∃ c, c = cr8 (x - y) y (k + 1) := ⟨_, rfl⟩
      have hst := cr8_sub x y k HL.out
      have hcle := cr8_le (x - y) y k
      have hcle1 := cr8_le (x - y) y (k + 1)
      have ha2 : a < 256 := ha ▸ d8_lt x k
      have hb2 : b < 256 := hb ▸ d8_lt y k
      have hd2 : dg1 < 256 := hdg ▸ d8_lt _ _
      have Hs : Hid (dvals (x - y) k ++ [Value.int .i64 (dg1 : Nat)] = dvals (x - y) (k + 1)) := Lib.hid (by rw [hdg, dvals_succ])
      have B2 := fun u => A2.out k (wr.plus u) (hbel.trans ((World.below_plus wr u).mono hsz))
      simp only [← hb] at B2
      rw [← ha] at hcell
      rw [← hdg, ← hb, ← hcr, ← ha, ← hcr1] at hst
      rw [← hcr] at hcle ⊢
      rw [← hcr1] at hcle1
      have Hc1 := Lib.hid hcr1
      have HB2 := Lib.hid B2
      have hkn : (k : Int) < (n : Int) := by omega
      clear ha hb hcr hdg hcr1 B2
      rcases (by omega : cr1 = 0 ∨ cr1 = 1) with hz | hz
      · subst hz
        have e1 : (a : Int) - (b : Int) - (cr : Int) = (dg1 : Int) := by omega
        have e2 : ¬ ((dg1 : Int) < 0) := by omega
        clear hst
        go_wp2_with fail
        ((first | (with_reducible refine wp_region_steady_plus (by kernel_rfl) (by kernel_rfl) ?_) | refine wp_region_steady (by kernel_rfl) (by kernel_rfl) ?_); repeat go_big_quiet_step (first | (go_at_call 76; refine Calls.same_steady (HB2.out _)))); (refine wpQuiet_nil ?_; rintro _ ⟨u, rfl⟩)
        go_wp2_with (first | (at_builtin; refine wpList_append_own _ rfl _ _ 54 rfl w.heap.size 3 i0 (.int .i64 0) 1 8 Tryd.underlying54 hi hz0 hz1 hz2 rfl (by decide) _ _ _ rfl ((World.ownsRow.plus hown u).alloc _) ⟨(wr.plus u).heap.size, 0, none⟩ 1 1 [.int .i64 (dg1 : Nat)] rfl rfl ?c1 ?c2 ?c3 ?c4 ?c5 ?_) | go_in)
        case c1 =>
          intro j u hj
          match j, hj with
          | 0, hj => simp at hj; subst hj; simp [Addr.add]
        case c2 => intro u hu; simp at hu; subst hu; rfl
        case c3 => unfold maxLen; omega
        case c4 => omega
        case c5 => have := World.size_plus wr u; first | (simp; done) | (simp; omega)
        intro v' w1 hown' hgrow _
        rw [Hs.out] at hown'
        have hbp : Below w.heap.size w (wr.plus u) := hbel.trans ((World.below_plus wr u).mono hsz)
        have hb2 : Below w.heap.size w w1 := (hbp.alloc hbp.size _).grown hgrow (by have := hbp.size; first | omega | (simp only [World.size_alloc]; omega)) fun k' hk' => ((World.ownsRow.plus hown u).lt k' hk').1
        clear hown hgrow hbel hbp
        go_wp2
        go_roundw
        case rel => exact ⟨k + 1, by omega, by go_num, by rw [← Hc1.out]; rfl, hown', hb2⟩
        case measure => first | (simp [intOf]; done) | (simp [intOf]; omega)
      · subst hz
        have e1 : (a : Int) - (b : Int) - (cr : Int) = (dg1 : Int) - 256 := by omega
        have e2 : (dg1 : Int) - 256 < 0 := by omega
        clear hst
        go_wp2_with fail
        ((first | (with_reducible refine wp_region_steady_plus (by kernel_rfl) (by kernel_rfl) ?_) | refine wp_region_steady (by kernel_rfl) (by kernel_rfl) ?_); repeat go_big_quiet_step (first | (go_at_call 76; refine Calls.same_steady (HB2.out _)))); (refine wpQuiet_nil ?_; rintro _ ⟨u, rfl⟩)
        go_wp2_with (first | (at_builtin; refine wpList_append_own _ rfl _ _ 54 rfl w.heap.size 3 i0 (.int .i64 0) 1 8 Tryd.underlying54 hi hz0 hz1 hz2 rfl (by decide) _ _ _ rfl ((World.ownsRow.plus hown u).alloc _) ⟨(wr.plus u).heap.size, 0, none⟩ 1 1 [.int .i64 (dg1 : Nat)] rfl rfl ?c1 ?c2 ?c3 ?c4 ?c5 ?_) | go_in)
        case c1 =>
          intro j u hj
          match j, hj with
          | 0, hj => simp at hj; subst hj; simp [Addr.add]
        case c2 => intro u hu; simp at hu; subst hu; rfl
        case c3 => unfold maxLen; omega
        case c4 => omega
        case c5 => have := World.size_plus wr u; first | (simp; done) | (simp; omega)
        intro v' w1 hown' hgrow _
        rw [Hs.out] at hown'
        have hbp : Below w.heap.size w (wr.plus u) := hbel.trans ((World.below_plus wr u).mono hsz)
        have hb2 : Below w.heap.size w w1 := (hbp.alloc hbp.size _).grown hgrow (by have := hbp.size; first | omega | (simp only [World.size_alloc]; omega)) fun k' hk' => ((World.ownsRow.plus hown u).lt k' hk').1
        clear hown hgrow hbel hbp
        go_wp2
        go_roundw
        case rel => exact ⟨k + 1, by omega, by go_num, by rw [← Hc1.out]; rfl, hown', hb2⟩
        case measure => first | (simp [intOf]; done) | (simp [intOf]; omega)
    · have e : k = n := by omega
      subst e
      go_wp2_with fail
      go_ret
      first | exact ⟨_, rfl, Dl.of_owned hown HX.out, fun k' hk' => (hown.lt k' hk').1, hbel⟩ | exact ⟨_, rfl, Dl.of_owned hown HX.out, fun k' hk' => (hown.lt k' hk').1, by (repeat' (first | (with_reducible exact Below.refl _ _) | (with_reducible assumption) | (with_reducible refine Below.plus0 ?_ _) | (with_reducible refine Below.alloc0 ?_ _) | (with_reducible refine Below.plus ?_ ?_ _) | (with_reducible refine Below.alloc ?_ ?_ _) | (with_reducible refine Below.drew ?_) | (with_reducible refine Below.drewN ?_ _) | (simp [go_sem]; done) | (simp [go_sem]; omega)))⟩
/-- Quotient and remainder behind the binary digits from p up. -/
def bq (X Y p : Nat) : Nat := X / Y / 2 ^ p * 2 ^ p
def br (X Y p : Nat) : Nat := X / 2 ^ p % Y
def bstep (X Y i : Nat) : Nat := br X Y (i + 1) + br X Y (i + 1) + X / 2 ^ i % 2
theorem half_step (X i : Nat) : X / 2 ^ i = 2 * (X / 2 ^ (i + 1)) + X / 2 ^ i % 2 := by
  rw [Nat.pow_succ, ← Nat.div_div_eq_div_mul]; omega
theorem bstep_lt (X Y i : Nat) (hY : 0 < Y) : bstep X Y i < 2 * Y := by
  have := Nat.mod_lt (X / 2 ^ (i + 1)) hY
  unfold bstep br; omega
theorem step_eq (X Y i : Nat) : X / 2 ^ i = Y * (2 * (X / 2 ^ (i + 1) / Y)) + bstep X Y i := by
  have h1 := half_step X i
  have h2 := Nat.div_add_mod (X / 2 ^ (i + 1)) Y
  unfold bstep br
  rw [Nat.mul_left_comm]
  generalize X / 2 ^ (i + 1) = A at *
  have h3 : 2 * A = 2 * (Y * (A / Y)) + 2 * (A % Y) := by rw [← Nat.mul_add, h2]
  omega
theorem br_step (X Y i : Nat) (hY : 0 < Y) : br X Y i = if Y ≤ bstep X Y i then bstep X Y i - Y else bstep X Y i := by
  have h1 := step_eq X Y i
  have h2 := bstep_lt X Y i hY
  have e : br X Y i = bstep X Y i % Y := by
    show X / 2 ^ i % Y = _
    rw [h1, Nat.mul_add_mod]
  rw [e]
  by_cases h : Y ≤ bstep X Y i
  · rw [if_pos h, Nat.mod_eq_sub_mod h, Nat.mod_eq_of_lt (by omega)]
  · rw [if_neg h, Nat.mod_eq_of_lt (by omega)]
theorem bq_step (X Y i : Nat) (hY : 0 < Y) : bq X Y i = bq X Y (i + 1) + (if Y ≤ bstep X Y i then 2 ^ i else 0) := by
  have h1 := step_eq X Y i
  have h2 := bstep_lt X Y i hY
  have sw : ∀ p, X / Y / 2 ^ p = X / 2 ^ p / Y := fun p => by rw [Nat.div_div_eq_div_mul, Nat.div_div_eq_div_mul, Nat.mul_comm]
  unfold bq
  rw [sw, sw, h1, Nat.mul_add_div hY]
  have hp : 2 ^ (i + 1) = 2 ^ i * 2 := Nat.pow_succ ..
  have h3 : bstep X Y i / Y = if Y ≤ bstep X Y i then 1 else 0 := by
    by_cases h : Y ≤ bstep X Y i
    · rw [if_pos h]
      exact Nat.div_eq_of_lt_le (by omega) (by omega)
    · rw [if_neg h]; exact Nat.div_eq_of_lt (by omega)
  rw [h3]
  generalize X / 2 ^ (i + 1) / Y = a
  rw [hp]
  have e : (2 * a) * 2 ^ i = a * (2 ^ i * 2) := by rw [Nat.mul_comm 2 a, Nat.mul_assoc, Nat.mul_comm 2]
  split
  · rw [Nat.add_mul, e, Nat.one_mul]
  · rw [Nat.add_zero, e, Nat.add_zero]
theorem pow8 (n : Nat) : (256 : Nat) ^ n = 2 ^ (8 * n) := by rw [show (256 : Nat) = 2 ^ 8 from rfl, ← Nat.pow_mul]
theorem br_top (X Y n : Nat) (h : X < 256 ^ n) : br X Y (8 * n) = 0 := by
  unfold br; rw [Nat.div_eq_of_lt (by rw [← pow8]; exact h), Nat.zero_mod]
theorem bq_top (X Y n : Nat) (h : X < 256 ^ n) : bq X Y (8 * n) = 0 := by
  unfold bq
  rw [Nat.div_eq_of_lt (Nat.lt_of_le_of_lt (Nat.div_le_self X Y) (by rw [← pow8]; exact h)), Nat.zero_mul]
theorem bq_zero (X Y : Nat) : bq X Y 0 = X / Y := by unfold bq; rw [Nat.pow_zero, Nat.div_one, Nat.mul_one]
theorem br_zero (X Y : Nat) : br X Y 0 = X % Y := by unfold br; rw [Nat.pow_zero, Nat.div_one]
theorem bit_d8 (X c e : Nat) (he : e < 8) : d8 X c / 2 ^ e % 2 = X / 2 ^ (8 * c + e) % 2 := by
  unfold d8
  rw [Nat.pow_add, ← Nat.div_div_eq_div_mul, ← pow8]
  generalize X / 256 ^ c = v
  match e, he with
  | 0, _ => simp only [Nat.pow_zero]; omega
  | 1, _ => simp only [Nat.reducePow]; omega
  | 2, _ => simp only [Nat.reducePow]; omega
  | 3, _ => simp only [Nat.reducePow]; omega
  | 4, _ => simp only [Nat.reducePow]; omega
  | 5, _ => simp only [Nat.reducePow]; omega
  | 6, _ => simp only [Nat.reducePow]; omega
  | 7, _ => simp only [Nat.reducePow]; omega
theorem set_bit (t e : Nat) (he : e < 8) : (2 ^ (e + 1) * t + 2 ^ e) / 256 = 2 ^ (e + 1) * t / 256 ∧ (2 ^ (e + 1) * t + 2 ^ e) % 256 = 2 ^ (e + 1) * t % 256 + 2 ^ e := by
  match e, he with
  | 0, _ => simp only [Nat.reduceAdd, Nat.reducePow, Nat.pow_zero]; omega
  | 1, _ => simp only [Nat.reduceAdd, Nat.reducePow]; omega
  | 2, _ => simp only [Nat.reduceAdd, Nat.reducePow]; omega
  | 3, _ => simp only [Nat.reduceAdd, Nat.reducePow]; omega
  | 4, _ => simp only [Nat.reduceAdd, Nat.reducePow]; omega
  | 5, _ => simp only [Nat.reduceAdd, Nat.reducePow]; omega
  | 6, _ => simp only [Nat.reduceAdd, Nat.reducePow]; omega
  | 7, _ => simp only [Nat.reduceAdd, Nat.reducePow]; omega
theorem d8_div2 (R j k : Nat) : d8 R (j + k) = d8 (R / 256 ^ j) k := by
  unfold d8; rw [Nat.div_div_eq_div_mul, ← Nat.pow_add]
theorem bq_upd (Z t c e : Nat) (he : e < 8) (hZ : Z = t * 2 ^ (8 * c + e + 1)) : upd (d8 Z) c (d8 Z c + 2 ^ e) = d8 (Z + 2 ^ (8 * c + e)) := by
  have e1 : 2 ^ (8 * c + e) = 256 ^ c * 2 ^ e := by rw [Nat.pow_add, pow8]
  have hp : 0 < 256 ^ c := Nat.pow_pos (by omega)
  have e2 : Z / 256 ^ c = 2 ^ (e + 1) * t := by
    rw [hZ, show 8 * c + e + 1 = 8 * c + (e + 1) by omega, Nat.pow_add, ← pow8, Nat.mul_comm t, Nat.mul_assoc, Nat.mul_div_cancel_left _ hp]
  have e3 : (Z + 256 ^ c * 2 ^ e) / 256 ^ c = 2 ^ (e + 1) * t + 2 ^ e := by rw [Nat.add_mul_div_left _ _ hp, e2]
  have hs := set_bit t e he
  rw [e1]
  funext p
  unfold upd
  by_cases h1 : p = c
  · subst h1
    rw [if_pos rfl]
    show d8 Z p + 2 ^ e = (Z + 256 ^ p * 2 ^ e) / 256 ^ p % 256
    rw [e3, hs.2, ← e2]; rfl
  · rw [if_neg h1]
    by_cases h2 : p < c
    · rw [d8_add_low _ _ _ _ h2]
    · obtain ⟨k, rfl⟩ : ∃ k, p = c + (k + 1) := ⟨p - c - 1, by omega⟩
      rw [d8_div2 Z c (k + 1), d8_div2 (Z + 256 ^ c * 2 ^ e) c (k + 1), e2, e3]
      unfold d8
      have e5 : (256 : Nat) ^ (k + 1) = 256 * 256 ^ k := by rw [Nat.pow_succ, Nat.mul_comm]
      rw [e5, ← Nat.div_div_eq_div_mul, ← Nat.div_div_eq_div_mul, hs.1]
theorem bq_form (X Y i : Nat) : ∃ t, bq X Y (i + 1) = t * 2 ^ (i + 1) := ⟨_, rfl⟩
theorem plus_block (w : World) (o1 o2 : Obj) (u : World) (k : Nat) (h : w.heap.size + 1 ≤ k) : ((w.alloc o2).plus u).heap[k]? = ((w.alloc o1).plus u).heap[k]? := by
  have h1 : (w.alloc o1).heap.size = w.heap.size + 1 := by simp
  have h2 : (w.alloc o2).heap.size = w.heap.size + 1 := by simp
  show ((w.alloc o2).heap ++ u.heap.extract (w.alloc o2).heap.size u.heap.size)[k]? = ((w.alloc o1).heap ++ u.heap.extract (w.alloc o1).heap.size u.heap.size)[k]?
  rw [Array.getElem?_append_right (by omega), Array.getElem?_append_right (by omega), h1, h2]
theorem plus_size (w : World) (o1 o2 : Obj) (u : World) : ((w.alloc o2).plus u).heap.size = ((w.alloc o1).plus u).heap.size := by
  have h1 : (w.alloc o1).heap.size = w.heap.size + 1 := by simp
  have h2 : (w.alloc o2).heap.size = w.heap.size + 1 := by simp
  show ((w.alloc o2).heap ++ u.heap.extract (w.alloc o2).heap.size u.heap.size).size = ((w.alloc o1).heap ++ u.heap.extract (w.alloc o1).heap.size u.heap.size).size
  rw [Array.size_append, Array.size_append, h1, h2]
/-- A list that lies behind a block does not change with it. -/
theorem DL.swap {w : World} {o1 o2 : Obj} {u : World} {v : Value} {M x : Nat} (h : DL ((w.alloc o1).plus u) v M x) (hf : ∀ k, v.ownBlock = some k → w.heap.size + 1 ≤ k) : DL ((w.alloc o2).plus u) v M x := by
  obtain ⟨N, hN, hx, hd⟩ := h
  refine ⟨N, hN, hx, ?_⟩
  rcases hd with hd | ⟨g, c, rfl, hc, hm, hg, hcell⟩
  · exact .inl hd
  · refine .inr ⟨g, c, rfl, hc, hm, by rw [plus_size w o1 o2 u]; exact hg, fun i hi => ?_⟩
    rw [← hcell i hi]
    exact World.cell?_of_block (plus_block w o1 o2 u g (hf g rfl))
theorem sum_F (v1 v2 : Value) (M x y z : Nat) (B : Nat) (w : World) (h1 : DL w v1 M x) (h2 : DL w v2 M y) (hM : M ≤ 8589934592) (hz : z = x + y) (hB : B ≤ w.heap.size) : Calls Tryd.prog 57 #[v1, v2] w fun e w' => ∃ v, e = .returned v ∧ DL w' v (M + 1) z ∧ (∀ k, v.ownBlock = some k → B ≤ k) ∧ Below w.heap.size w w' := by
  obtain ⟨n, hn, h1⟩ := h1
  obtain ⟨m, hm, h2⟩ := h2
  subst hz
  exact (rsumF_c v1 v2 n m x y w h1 h2 (by omega) (by omega)).mono fun _ _ ⟨v, N, h1, h2, h3, h4, h5⟩ => ⟨v, h1, ⟨N, by omega, h3⟩, fun k hk => Nat.le_trans hB (h4 k hk), h5⟩
theorem difference_F (v1 v2 : Value) (M M2 x y z : Nat) (B : Nat) (w : World) (h1 : DL w v1 M x) (h2 : DL w v2 M2 y) (hM : M ≤ 8589934592) (hM2 : M2 ≤ 8589934592) (hle : y ≤ x) (hz : z = x - y) (hB : B ≤ w.heap.size) : Calls Tryd.prog 59 #[v1, v2] w fun e w' => ∃ v, e = .returned v ∧ DL w' v M z ∧ (∀ k, v.ownBlock = some k → B ≤ k) ∧ Below w.heap.size w w' := by
  obtain ⟨n, hn, h1⟩ := h1
  obtain ⟨m, hm, h2⟩ := h2
  subst hz
  exact (rdifferenceF_c v1 v2 n m x y w h1 h2 (by omega) (by omega) hle).mono fun _ _ ⟨v, h1, h2, h3, h4⟩ => ⟨v, h1, ⟨n, hn, h2⟩, fun k hk => Nat.le_trans hB (h3 k hk), h4⟩
theorem one_D (w : World) : DL (w.alloc (.cells #[.int .i64 1] 3)) (.slice (some ⟨w.heap.size, 0, none⟩) 1 1) 1 1 :=
  ⟨1, Nat.le_refl _, by decide, .inr ⟨_, _, rfl, Nat.le_refl _, by decide, by simp, fun i hi => by
    have e : i = 0 := by omega
    subst e
    simp [go_sem]; rfl⟩⟩
set_option maxRecDepth 100000 in
set_option maxHeartbeats 1600000 in
theorem rdivide_c (v1 v2 : Value) (n m X Y : Nat) (w : World) (h1 : Dl w v1 n X) (h2 : Dl w v2 m Y) (hn : n ≤ 1048576) (hm : m ≤ 1048576) (hY : 0 < Y) : Calls Tryd.prog 83 #[v1, v2] w fun e w' => ∃ q r, e = .returned (.tuple #[q, r]) ∧ DL w' q n (X / Y) ∧ DL w' r (16 * n) (X % Y) ∧ Below w.heap.size w w' := by
  obtain ⟨a1, c1, e1⟩ := h1.lenForm
  obtain ⟨a2, c2, e2⟩ := h2.lenForm
  subst e1
  subst e2
  have A1 : Hid (∀ (i : Nat), i < n → ∃ g, a1 = some ⟨g, 0, none⟩ ∧ n ≤ c1 ∧ g < w.heap.size ∧ w.cell? ⟨g, i, none⟩ = some (.int .i64 (d8 X i : Nat))) := Lib.hid fun i hlt => by
    rcases h1.2 with ⟨e, rfl⟩ | ⟨g, c, e, hc, _, hg, hcell⟩
    · exact absurd hlt (by omega)
    · cases e
      exact ⟨g, rfl, hc, hg, hcell i hlt⟩
  have A2 : Hid (∀ (o : Obj) (u : World), DL ((w.alloc o).plus u) (.slice a2 m c2) m Y) := Lib.hid fun o u => ⟨m, Nat.le_refl _, h2.below (((Below.refl _ _).alloc (Nat.le_refl _) o).trans ((World.below_plus _ _).mono (by simp)))⟩
  have HXL := Lib.hid h1.1
  have HMK := Lib.hid (makeInt n · (by omega))
  have HT1 := Lib.hid (br_top X Y n h1.1)
  have HT2 := Lib.hid (bq_top X Y n h1.1)
  clear h1 h2
  go_enter Tryd.func83, Tryd.ntmps83
  go_wp2_with fail
  have hmk := HMK.out
  simp only [hmk]
  clear hmk
  go_wp2_with fail
  go_loopw [5, 6] (fun r iv wr => ∃ (p : Nat) (u : World), p ≤ 8 * n ∧ iv = .int .i64 ((p : Int) - 1) ∧ wr = (w.alloc (.cells (arr .i64 (d8 (bq X Y p)) n) 3)).plus u ∧ DL wr r (2 * (8 * n - p)) (br X Y p) ∧ (∀ k, r.ownBlock = some k → w.heap.size + 1 ≤ k)) (fun _ iv _ => (intOf iv + 1).toNat)
  case atStart =>
    obtain ⟨u, hu⟩ := World.plus_of_below (Below.refl _ (w.alloc (.cells (arr .i64 (fun _ => 0) n) 3)))
    have e0 : arr .i64 (fun _ => 0) n = arr .i64 (d8 (bq X Y (8 * n))) n := by
      rw [HT2.out]; apply arr_congr; intro i _; rw [d8_zero]
    refine ⟨8 * n, u, Nat.le_refl _, ?_, ?_, ⟨0, Nat.zero_le _, by rw [HT1.out]; decide, .inl ⟨rfl, rfl⟩⟩, fun k hk => by cases hk⟩
    · first | (congr 1; omega) | rfl
    · rw [← e0]; exact hu
  case round =>
    obtain ⟨p, u, hp, rfl, rfl, hr, hf⟩ := hrel
    cases p with
    | zero =>
      have e0 : ((0 : Nat) : Int) - 1 = -1 := rfl
      rw [e0]
      go_wp2_with fail
      go_ret2
      rw [br_zero] at hr
      refine ⟨_, _, rfl, ⟨n, Nat.le_refl _, ?_⟩, hr.more (by omega), by (repeat' (first | (with_reducible exact Below.refl _ _) | (with_reducible assumption) | (with_reducible refine Below.plus0 ?_ _) | (with_reducible refine Below.alloc0 ?_ _) | (with_reducible refine Below.plus ?_ ?_ _) | (with_reducible refine Below.alloc ?_ ?_ _) | (with_reducible refine Below.drew ?_) | (with_reducible refine Below.drewN ?_ _) | (simp [go_sem]; done) | (simp [go_sem]; omega)))⟩
      rw [bq_zero]
      refine Dl.of_arr _ _ _ _ _ (fun j hj => ?_) ?_ (Nat.lt_of_le_of_lt (Nat.div_le_self X Y) HXL.out) (Nat.le_refl _) (by unfold maxLen; omega)
      · simp [go_sem, arr_get _ _ _ _ hj]
      · simp [go_sem]
    | succ i =>
      obtain ⟨c, hc⟩ : ∃ z, z = i / 8 := ⟨_, rfl⟩
      obtain ⟨e, he⟩ : ∃ z, z = i % 8 := ⟨_, rfl⟩
      have hi : i = 8 * c + e := by omega
      have he8 : e < 8 := by omega
      have hcn : c < n := by omega
      obtain ⟨g, rfl, hcap, hg, hgx⟩ := A1.out c hcn
      obtain ⟨dx, hdx⟩ : ∃ z, z = d8 X c := ⟨_, rfl⟩
      rw [← hdx] at hgx
      obtain ⟨hx, hhx⟩ : ∃ z, z = dx / 2 ^ e := ⟨_, rfl⟩
      obtain ⟨bt, hbt⟩ : ∃ z, z = hx % 2 := ⟨_, rfl⟩
      have hbtX : bt = X / 2 ^ i % 2 := by rw [hbt, hhx, hdx, bit_d8 X c e he8, hi]
      have hb2 : bt < 2 := by omega
      have hdx2 : dx < 256 := by rw [hdx]; exact d8_lt _ _
      have hhx2 : hx ≤ dx := by rw [hhx]; exact Nat.div_le_self _ _
      obtain ⟨R0, hR0⟩ : ∃ z, z = br X Y (i + 1) := ⟨_, rfl⟩
      obtain ⟨S, hS⟩ : ∃ z, z = bstep X Y i := ⟨_, rfl⟩
      have hS2 : S = R0 + R0 + bt := by rw [hS, hR0, hbtX]; rfl
      have hrs := br_step X Y i hY
      have hqs := bq_step X Y i hY
      rw [← hS] at hrs hqs
      obtain ⟨Z, hZ⟩ : ∃ z, z = bq X Y (i + 1) := ⟨_, rfl⟩
      rw [← hZ] at hqs hr ⊢
      rw [← hR0] at hr
      have HU : Hid (upd (d8 Z) c (d8 Z c + 2 ^ e) = d8 (Z + 2 ^ i)) := Lib.hid (by
        obtain ⟨t, ht⟩ := bq_form X Y i
        rw [hi]
        exact bq_upd Z t c e he8 (by rw [hZ, ht, hi]))
      have i1 : ((i + 1 : Nat) : Int) - 1 = (i : Int) := by omega
      rw [i1]
      have i2 : (i : Int).tdiv 8 = (c : Int) := by rw [hc]; exact Int.ofNat_tdiv i 8
      have i3 : (i : Int).tmod 8 = (e : Int) := by rw [he]; exact Int.ofNat_tmod i 8
      have i4 : (dx : Int) / 2 ^ e = (hx : Int) := by rw [hhx, show (2 : Int) ^ e = ((2 ^ e : Nat) : Int) by rw [Int.natCast_pow]; rfl]; rfl
      have i5 : (hx : Int).tmod 2 = (bt : Int) := by rw [hbt]; exact Int.ofNat_tmod hx 2
      have l1 : (c : Int) < (n : Int) := by omega
      have hi0 : (0 : Int) ≤ (i : Int) := by omega
      have Hrs := Lib.hid hrs
      have Hqs := Lib.hid hqs
      have HS2 := Lib.hid hS2
      have HI := Lib.hid hi
      have hM0 : 2 * (8 * n - (i + 1)) + 2 = 2 * (8 * n - i) := by omega
      have HM0 := Lib.hid hM0
      have hMb : 2 * (8 * n - (i + 1)) ≤ 16777216 := by omega
      obtain ⟨M0, hM⟩ : ∃ z, z = 2 * (8 * n - (i + 1)) := ⟨_, rfl⟩
      rw [← hM] at hr hMb HM0
      clear hc he hi hdx hhx hbt hbtX hR0 hS hS2 hrs hqs hZ i1 hM0 hM
      go_wp2_with fail
      have hB : ∀ u, w.heap.size + 1 ≤ ((w.alloc (.cells (arr .i64 (d8 Z) n) 3)).plus u).heap.size := fun u => by have h := World.size_plus (w.alloc (.cells (arr .i64 (d8 Z) n) 3)) u; rw [World.size_alloc] at h; exact h
      refine (sum_F _ _ M0 R0 R0 (R0 + R0) (w.heap.size + 1) _ hr hr (by omega) rfl (hB u)).mono ?_
      rintro e' w' ⟨v1, rfl, hd1, hf1, hb⟩
      obtain ⟨u1, rfl⟩ := World.plus_of_below ((World.below_plus _ _).trans (hb.mono (World.size_plus _ _)))
      clear hb hr hf
      by_cases hbt : bt = 0
      · subst hbt
        rw [show ((0 : Nat) : Int) = 0 from rfl] at i5
        go_wp2_with fail
        have hdS' : DL ((w.alloc (.cells (arr .i64 (d8 Z) n) 3)).plus u1) v1 (M0 + 2) S := by rw [HS2.out, Nat.add_zero]; exact hd1.more (by omega)
        have ho := order_D v1 (.slice a2 m c2) _ _ _ _ _ hdS' (A2.out (.cells (arr .i64 (d8 Z) n) 3) u1) (by omega) (by omega)
        by_cases hge : Y ≤ S
        · have hcg : (0 : Int) ≤ cmpN S Y := by unfold cmpN; rw [if_neg (by omega)]; split <;> omega
          have hqz := Hqs.out
          have hrz := Hrs.out
          rw [if_pos hge] at hqz hrz
          have HQZ := Lib.hid hqz
          have HRZ := Lib.hid hrz
          obtain ⟨zc, hzc⟩ : ∃ z, z = d8 Z c := ⟨_, rfl⟩
          obtain ⟨pe, hpe⟩ : ∃ z, z = 2 ^ e := ⟨_, rfl⟩
          have hzc2 : zc < 256 := by rw [hzc]; exact d8_lt _ _
          have hpe2 : pe ≤ 128 := by rw [hpe]; exact Nat.le_trans (Nat.pow_le_pow_right (by omega) (show e ≤ 7 by omega)) (by decide)
          have hgz := arr_get .i64 (d8 Z) n c hcn
          rw [← hzc] at hgz
          have HZC := Lib.hid hzc
          have HPE := Lib.hid hpe
          have j1 : (2 : Int) ^ e = (pe : Int) := by rw [hpe, Int.natCast_pow]; rfl
          clear hqz hrz hzc hpe
          refine ho.mono ?_
          rintro e' w' ⟨rfl, rfl⟩
          go_wp2_with fail
          refine (difference_F v1 _ (M0 + 2) m S Y (S - Y) (w.heap.size + 1) _ hdS' (A2.out _ _) (by omega) (by omega) hge rfl (hB _)).mono ?_
          rintro e' w' ⟨v3, rfl, hd3, hf3, hb⟩
          obtain ⟨u3, rfl⟩ := World.plus_of_below ((World.below_plus _ _).trans (hb.mono (World.size_plus _ _)))
          clear hb hdS' ho
          go_wp2_with fail
          (refine wp_region_exact_t 13 (by kernel_rfl) (by kernel_rfl) ?_; simp only [List.take_succ_cons, List.take_zero, List.drop_succ_cons, List.drop_zero]; repeat go_big_quiet_step (fail)); (refine wpQuiet_nil ?_; rintro _ rfl)
          go_wp2_with fail
          have ew : (arr .i64 (d8 Z) n).setIfInBounds c (.int .i64 ((zc : Int) + (pe : Int))) = arr .i64 (d8 (bq X Y i)) n := by
            rw [← Int.natCast_add, arr_set, HQZ.out, ← HU.out, HZC.out, HPE.out]
          obtain ⟨u4, hu4⟩ := later_plus_drew (w.alloc (.cells (arr .i64 (d8 (bq X Y i)) n) 3)) u3
          rw [ew]
          refine ⟨⟨i, u4, by omega, rfl, hu4, ?_, hf3⟩, by simp [intOf]⟩
          rw [HRZ.out, ← HM0.out]
          exact (DL.swap hd3 hf3).below ((Below.refl _ _).drew)
        · have hcl : cmpN S Y < 0 := by unfold cmpN; rw [if_pos (by omega)]; omega
          have hqz := Hqs.out
          have hrz := Hrs.out
          rw [if_neg hge] at hqz hrz
          rw [Nat.add_zero] at hqz
          have hcl2 : ¬ ((0 : Int) ≤ cmpN S Y) := by omega
          have HQZ := Lib.hid hqz
          have HRZ := Lib.hid hrz
          clear hqz hrz
          refine ho.mono ?_
          rintro e' w' ⟨rfl, rfl⟩
          go_wp2_with fail
          refine ⟨⟨i, u1, by omega, rfl, by rw [HQZ.out], ?_, hf1⟩, by simp [intOf]⟩
          rw [HRZ.out, ← HM0.out]
          exact hdS'
      · have hb1 : bt = 1 := by omega
        subst hb1
        rw [show ((1 : Nat) : Int) = 1 from rfl] at i5
        have hB2 : ∀ o, w.heap.size + 1 ≤ (((w.alloc (.cells (arr .i64 (d8 Z) n) 3)).plus u1).alloc o).heap.size := fun o => by have := hB u1; rw [World.size_alloc]; omega
        go_wp2_with fail
        refine (sum_F v1 _ (M0 + 1) (R0 + R0) 1 S (w.heap.size + 1) _ (hd1.below ((Below.refl _ _).alloc (Nat.le_refl _) _)) ((one_D _).more (by omega)) (by omega) HS2.out (hB2 _)).mono ?_
        rintro e' w' ⟨v2, rfl, hd2, hf2, hb⟩
        obtain ⟨u2, rfl⟩ := World.plus_of_below ((World.below_plus (w.alloc (.cells (arr .i64 (d8 Z) n) 3)) u1).trans ((((Below.refl _ _).alloc (Nat.le_refl _) _).trans (hb.mono (by simp))).mono (World.size_plus _ _)))
        clear hb hd1
        go_wp2_with fail
        have hdS' : DL ((w.alloc (.cells (arr .i64 (d8 Z) n) 3)).plus u2) v2 (M0 + 2) S := hd2.more (by omega)
        have ho := order_D v2 (.slice a2 m c2) _ _ _ _ _ hdS' (A2.out (.cells (arr .i64 (d8 Z) n) 3) u2) (by omega) (by omega)
        by_cases hge : Y ≤ S
        · have hcg : (0 : Int) ≤ cmpN S Y := by unfold cmpN; rw [if_neg (by omega)]; split <;> omega
          have hqz := Hqs.out
          have hrz := Hrs.out
          rw [if_pos hge] at hqz hrz
          have HQZ := Lib.hid hqz
          have HRZ := Lib.hid hrz
          obtain ⟨zc, hzc⟩ : ∃ z, z = d8 Z c := ⟨_, rfl⟩
          obtain ⟨pe, hpe⟩ : ∃ z, z = 2 ^ e := ⟨_, rfl⟩
          have hzc2 : zc < 256 := by rw [hzc]; exact d8_lt _ _
          have hpe2 : pe ≤ 128 := by rw [hpe]; exact Nat.le_trans (Nat.pow_le_pow_right (by omega) (show e ≤ 7 by omega)) (by decide)
          have hgz := arr_get .i64 (d8 Z) n c hcn
          rw [← hzc] at hgz
          have HZC := Lib.hid hzc
          have HPE := Lib.hid hpe
          have j1 : (2 : Int) ^ e = (pe : Int) := by rw [hpe, Int.natCast_pow]; rfl
          clear hqz hrz hzc hpe
          refine ho.mono ?_
          rintro e' w' ⟨rfl, rfl⟩
          go_wp2_with fail
          refine (difference_F v2 _ (M0 + 2) m S Y (S - Y) (w.heap.size + 1) _ hdS' (A2.out _ _) (by omega) (by omega) hge rfl (hB _)).mono ?_
          rintro e' w' ⟨v3, rfl, hd3, hf3, hb⟩
          obtain ⟨u3, rfl⟩ := World.plus_of_below ((World.below_plus _ _).trans (hb.mono (World.size_plus _ _)))
          clear hb hdS' ho
          go_wp2_with fail
          (refine wp_region_exact_t 13 (by kernel_rfl) (by kernel_rfl) ?_; simp only [List.take_succ_cons, List.take_zero, List.drop_succ_cons, List.drop_zero]; repeat go_big_quiet_step (fail)); (refine wpQuiet_nil ?_; rintro _ rfl)
          go_wp2_with fail
          have ew : (arr .i64 (d8 Z) n).setIfInBounds c (.int .i64 ((zc : Int) + (pe : Int))) = arr .i64 (d8 (bq X Y i)) n := by
            rw [← Int.natCast_add, arr_set, HQZ.out, ← HU.out, HZC.out, HPE.out]
          obtain ⟨u4, hu4⟩ := later_plus_drew (w.alloc (.cells (arr .i64 (d8 (bq X Y i)) n) 3)) u3
          rw [ew]
          refine ⟨⟨i, u4, by omega, rfl, hu4, ?_, hf3⟩, by simp [intOf]⟩
          rw [HRZ.out, ← HM0.out]
          exact (DL.swap hd3 hf3).below ((Below.refl _ _).drew)
        · have hcl : cmpN S Y < 0 := by unfold cmpN; rw [if_pos (by omega)]; omega
          have hqz := Hqs.out
          have hrz := Hrs.out
          rw [if_neg hge] at hqz hrz
          rw [Nat.add_zero] at hqz
          have hcl2 : ¬ ((0 : Int) ≤ cmpN S Y) := by omega
          have HQZ := Lib.hid hqz
          have HRZ := Lib.hid hrz
          clear hqz hrz
          refine ho.mono ?_
          rintro e' w' ⟨rfl, rfl⟩
          go_wp2_with fail
          refine ⟨⟨i, u2, by omega, rfl, by rw [HQZ.out], ?_, hf2⟩, by simp [intOf]⟩
          rw [HRZ.out, ← HM0.out]
          exact hdS'
/-- A pair of lists. -/
def DP (w : World) (v : Value) (M1 x1 M2 x2 : Nat) : Prop := ∃ q r, v = .tuple #[q, r] ∧ DL w q M1 x1 ∧ DL w r M2 x2
theorem DP.below {w w' : World} {v : Value} {M1 x1 M2 x2 : Nat} (h : DP w v M1 x1 M2 x2) (hb : Below w.heap.size w w') : DP w' v M1 x1 M2 x2 := by
  obtain ⟨q, r, h1, h2, h3⟩ := h
  exact ⟨q, r, h1, h2.below hb, h3.below hb⟩
theorem divide_P (v1 v2 : Value) (M x y : Nat) (w : World) (h1 : DL w v1 M x) (h2 : DL w v2 M y) (hM : M ≤ 1048576) (hy : 0 < y) : Calls Tryd.prog 83 #[v1, v2] w fun e w' => ∃ v, e = .returned v ∧ DP w' v M (x / y) (16 * M) (x % y) ∧ Below w.heap.size w w' := by
  obtain ⟨n, hn, h1⟩ := h1
  obtain ⟨m, hm, h2⟩ := h2
  exact (rdivide_c v1 v2 n m x y w h1 h2 (by omega) (by omega) hy).mono fun _ _ ⟨q, r, h3, h4, h5, h6⟩ => ⟨_, h3, ⟨q, r, rfl, h4.more hn, h5.more (by omega)⟩, h6⟩
end Go.Proofs.YtkoodpbcfdblbaaDoor
