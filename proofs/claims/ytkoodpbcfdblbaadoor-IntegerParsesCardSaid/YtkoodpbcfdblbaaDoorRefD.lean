import Derived.Test.YtkoodpbcfdblbaaDoorRefC
set_option linter.unusedSimpArgs false
set_option linter.unusedVariables false
namespace Go.Proofs.YtkoodpbcfdblbaaDoor
open Go Go.RowKit
open Vi
/-- The carry behind k digits of a sum. -/
def cr8 (x y k : Nat) : Nat := (x % 256 ^ k + y % 256 ^ k) / 256 ^ k
theorem mod_succ8 (x k : Nat) : x % 256 ^ (k + 1) = x % 256 ^ k + 256 ^ k * d8 x k := by
  unfold d8
  rw [Nat.pow_succ, Nat.mod_mul]
theorem cr8_zero (x y : Nat) : cr8 x y 0 = 0 := by unfold cr8; simp [Nat.mod_one]
theorem cr8_mid (x y k : Nat) : (x % 256 ^ (k + 1) + y % 256 ^ (k + 1)) / 256 ^ k = d8 x k + d8 y k + cr8 x y k := by
  have hp : 0 < 256 ^ k := Nat.pow_pos (by omega)
  unfold cr8
  rw [mod_succ8, mod_succ8]
  have e : x % 256 ^ k + 256 ^ k * d8 x k + (y % 256 ^ k + 256 ^ k * d8 y k) = (x % 256 ^ k + y % 256 ^ k) + (d8 x k + d8 y k) * 256 ^ k := by
    rw [Nat.add_mul, Nat.mul_comm (d8 x k), Nat.mul_comm (d8 y k)]; omega
  rw [e, Nat.add_mul_div_right _ _ hp]; omega
theorem cr8_succ (x y k : Nat) : cr8 x y (k + 1) = (d8 x k + d8 y k + cr8 x y k) / 256 := by
  rw [← cr8_mid, Nat.div_div_eq_div_mul, ← Nat.pow_succ]; rfl
theorem d8_add (x y k : Nat) : d8 (x + y) k = (d8 x k + d8 y k + cr8 x y k) % 256 := by
  rw [← cr8_mid]
  unfold d8
  have e : (x + y) % 256 ^ (k + 1) = (x % 256 ^ (k + 1) + y % 256 ^ (k + 1)) % 256 ^ (k + 1) := Nat.add_mod _ _ _
  have h1 : ∀ z : Nat, z / 256 ^ k % 256 = z % 256 ^ (k + 1) / 256 ^ k := fun z => by
    rw [Nat.pow_succ, Nat.mod_mul_right_div_self]
  rw [h1, h1, e]
theorem cr8_le (x y k : Nat) : cr8 x y k ≤ 1 := by
  unfold cr8
  have hp : 0 < 256 ^ k := Nat.pow_pos (by omega)
  have h1 := Nat.mod_lt x hp
  have h2 := Nat.mod_lt y hp
  have : (x % 256 ^ k + y % 256 ^ k) / 256 ^ k < 2 := by
    rw [Nat.div_lt_iff_lt_mul hp]; omega
  omega
theorem cr8_end (x y k : Nat) (hx : x < 256 ^ k) (hy : y < 256 ^ k) (h : cr8 x y k = 0) : x + y < 256 ^ k := by
  unfold cr8 at h
  rw [Nat.mod_eq_of_lt hx, Nat.mod_eq_of_lt hy] at h
  exact (Nat.div_eq_zero_iff_lt (Nat.pow_pos (by omega))).1 h
theorem cr8_big (x y k : Nat) (hx : x < 256 ^ k) (hy : y < 256 ^ k) : cr8 x y (k + 1) = 0 := by
  unfold cr8
  have h1 : (256 : Nat) ^ (k + 1) = 256 ^ k * 256 := Nat.pow_succ ..
  rw [Nat.mod_eq_of_lt (by omega), Nat.mod_eq_of_lt (by omega)]
  exact Nat.div_eq_of_lt (by omega)
set_option maxRecDepth 100000 in
set_option maxHeartbeats 1600000 in
theorem rsum_c (v1 v2 : Value) (n m x y : Nat) (w : World) (h1 : Dl w v1 n x) (h2 : Dl w v2 m y) (hn : n ≤ 8589934592) (hm : m ≤ 8589934592) : Calls Tryd.prog 57 #[v1, v2] w fun e w' => ∃ v N, e = .returned v ∧ N ≤ max n m + 1 ∧ Dl w' v N (x + y) ∧ Below w.heap.size w w' := by
  obtain ⟨i0, hi, hz0, hz1, hz2⟩ := info_parts info3
  obtain ⟨a1, c1, e1⟩ := h1.lenForm
  obtain ⟨a2, c2, e2⟩ := h2.lenForm
  subst e1
  subst e2
  have hmax : max (n : Int) (m : Int) = ((max n m : Nat) : Int) := by omega
  obtain ⟨M, hM⟩ : ∃ M, M = max n m := ⟨_, rfl⟩
  rw [← hM] at hmax ⊢
  have hx : x < 256 ^ M := Nat.lt_of_lt_of_le h1.1 (Nat.pow_le_pow_right (by omega) (by omega))
  have hy : y < 256 ^ M := Nat.lt_of_lt_of_le h2.1 (Nat.pow_le_pow_right (by omega) (by omega))
  have hMb : M ≤ 8589934592 := by omega
  have A1 : Hid (∀ (i : Nat) (wr : World), Below w.heap.size w wr → Calls Tryd.prog 76 #[.slice a1 n c1, .int .i64 (i : Int)] wr fun e w' => e = .returned (.int .i64 (d8 x i : Nat)) ∧ wr = w') := Lib.hid fun i wr hb => at_c _ n x i wr (h1.below hb)
  have A2 : Hid (∀ (i : Nat) (wr : World), Below w.heap.size w wr → Calls Tryd.prog 76 #[.slice a2 m c2, .int .i64 (i : Int)] wr fun e w' => e = .returned (.int .i64 (d8 y i : Nat)) ∧ wr = w') := Lib.hid fun i wr hb => at_c _ m y i wr (h2.below hb)
  have HX := Lib.hid hx
  have HY := Lib.hid hy
  have HC0 := Lib.hid (cr8_zero x y)
  clear h1 h2 hM hx hy
  go_enter Tryd.func57, Tryd.ntmps57
  go_wp2_with fail
  go_loopw [5, 6, 7] (fun v c i wr => ∃ k : Nat, k ≤ M + 1 ∧ i = .int .i64 k ∧ c = .int .i64 (cr8 x y k : Nat) ∧ wr.ownsRow w.heap.size 3 1 v k (dvals (x + y) k) ∧ Below w.heap.size w wr) (fun _ _ i _ => M + 2 - (intOf i).toNat)
  case atStart => exact ⟨0, Nat.zero_le _, rfl, by rw [HC0.out]; rfl, World.ownsRow_nil _ _ _ _, Below.refl _ _⟩
  case round =>
    obtain ⟨k, hk, rfl, rfl, hown, hbel⟩ := hrel
    have hcle := cr8_le x y k
    by_cases hgo : k < M ∨ 0 < cr8 x y k
    · have hkM : k ≤ M := by
        rcases hgo with h | h
        · omega
        · apply Decidable.byContradiction
          intro hn
          have e : k = M + 1 := by omega
          rw [e, cr8_big x y M HX.out HY.out] at h
          omega
      obtain ⟨a, ha⟩ : ∃ a, a = d8 x k := ⟨_, rfl⟩
      obtain ⟨b, hb⟩ : ∃ b, b = d8 y k := ⟨_, rfl⟩
      obtain ⟨cr, hcr⟩ : ∃ c, c = cr8 x y k := ⟨_, rfl⟩
      obtain ⟨dg1, hdg⟩ : ∃ d, d = d8 (x + y) k := ⟨_, rfl⟩
      obtain ⟨cr1, hcr1⟩ : ∃ c, c = cr8 x y (k + 1) := ⟨_, rfl⟩
      have ha2 : a < 256 := ha ▸ d8_lt x k
      have hb2 : b < 256 := hb ▸ d8_lt y k
      have hs1 : dg1 = (a + b + cr) % 256 := by rw [hdg, d8_add, ← ha, ← hb, ← hcr]
      have hs2 : cr1 = (a + b + cr) / 256 := by rw [hcr1, cr8_succ, ← ha, ← hb, ← hcr]
      have B1 := A1.out k
      have B2 := A2.out k
      rw [← ha] at B1
      rw [← hb] at B2
      have HB1 := Lib.hid (B1 wr hbel)
      have HB2 := Lib.hid (B2 wr hbel)
      rw [← hcr] at hcle hgo ⊢
      have em : ((a : Int) + (b : Int) + (cr : Int)).tmod 256 = (dg1 : Int) := by rw [Int.tmod_eq_emod_of_nonneg (by omega)]; omega
      have ed : ((a : Int) + (b : Int) + (cr : Int)).tdiv 256 = (cr1 : Int) := by rw [Int.tdiv_eq_ediv_of_nonneg (by omega)]; omega
      have Hs : Hid (dvals (x + y) k ++ [Value.int .i64 (dg1 : Nat)] = dvals (x + y) (k + 1)) := Lib.hid (by rw [hdg, dvals_succ])
      have Hc1 := Lib.hid hcr1
      have hd2 : dg1 < 256 := hdg ▸ d8_lt _ _
      have hcw : wrap64 (cr1 : Int) = (cr1 : Int) := by unfold wrap64; omega
      clear B1 B2 ha hb hcr hdg hcr1 hs1 hs2
      have hsz := hbel.size
      by_cases hlt : k < M
      · have hlt2 : (k : Int) < (M : Int) := by omega
        clear hgo
        go_wp2_with (first | (go_at_call 76; (first | (with_reducible refine (HB1.out).mono ?_) | (with_reducible refine (HB2.out).mono ?_)); rintro e w' ⟨rfl, rfl⟩) | (at_builtin; refine wpList_append_own _ rfl _ _ 54 rfl w.heap.size 3 i0 (.int .i64 0) 1 8 Tryd.underlying54 hi hz0 hz1 hz2 rfl (by decide) _ _ _ rfl (hown.alloc _) ⟨wr.heap.size, 0, none⟩ 1 1 [.int .i64 (dg1 : Nat)] rfl rfl ?c1 ?c2 ?c3 ?c4 ?c5 ?_) | go_in)
        case c1 =>
          intro j u hj
          match j, hj with
          | 0, hj => simp at hj; subst hj; simp [Addr.add]
        case c2 => intro u hu; simp at hu; subst hu; rfl
        case c3 => unfold maxLen; omega
        case c4 => omega
        case c5 => first | (simp; done) | (simp; omega)
        intro v' w1 hown' hgrow _
        rw [Hs.out] at hown'
        have hb2 : Below w.heap.size w w1 := (hbel.alloc hsz _).grown hgrow (by first | (simp; done) | (simp; omega)) fun k' hk' => (hown.lt k' hk').1
        clear hown hgrow hbel
        go_wp2
        go_roundw
        case rel => exact ⟨k + 1, by omega, by go_num, by rw [← Hc1.out, hcw], hown', hb2⟩
        case measure => first | (simp [intOf]; done) | (simp [intOf]; omega)
      · have hlt2 : ¬ (k : Int) < (M : Int) := by omega
        have hcp : (0 : Int) < (cr : Int) := by omega
        clear hgo
        go_wp2_with (first | (go_at_call 76; (first | (with_reducible refine (HB1.out).mono ?_) | (with_reducible refine (HB2.out).mono ?_)); rintro e w' ⟨rfl, rfl⟩) | (at_builtin; refine wpList_append_own _ rfl _ _ 54 rfl w.heap.size 3 i0 (.int .i64 0) 1 8 Tryd.underlying54 hi hz0 hz1 hz2 rfl (by decide) _ _ _ rfl (hown.alloc _) ⟨wr.heap.size, 0, none⟩ 1 1 [.int .i64 (dg1 : Nat)] rfl rfl ?c1 ?c2 ?c3 ?c4 ?c5 ?_) | go_in)
        case c1 =>
          intro j u hj
          match j, hj with
          | 0, hj => simp at hj; subst hj; simp [Addr.add]
        case c2 => intro u hu; simp at hu; subst hu; rfl
        case c3 => unfold maxLen; omega
        case c4 => omega
        case c5 => first | (simp; done) | (simp; omega)
        intro v' w1 hown' hgrow _
        rw [Hs.out] at hown'
        have hb2 : Below w.heap.size w w1 := (hbel.alloc hsz _).grown hgrow (by first | (simp; done) | (simp; omega)) fun k' hk' => (hown.lt k' hk').1
        clear hown hgrow hbel
        go_wp2
        go_roundw
        case rel => exact ⟨k + 1, by omega, by go_num, by rw [← Hc1.out, hcw], hown', hb2⟩
        case measure => first | (simp [intOf]; done) | (simp [intOf]; omega)
    · have hk2 : ¬ (k : Int) < (M : Int) := by omega
      have hc0 : cr8 x y k = 0 := by omega
      have hxk : x < 256 ^ k := Nat.lt_of_lt_of_le HX.out (Nat.pow_le_pow_right (by omega) (by omega))
      have hyk : y < 256 ^ k := Nat.lt_of_lt_of_le HY.out (Nat.pow_le_pow_right (by omega) (by omega))
      have He := Lib.hid (cr8_end x y k hxk hyk hc0)
      rw [hc0]
      clear hxk hyk hgo hcle hc0
      go_wp2_with fail
      go_ret
      first | exact ⟨_, rfl, k, by omega, Dl.of_owned hown He.out, hbel⟩ | exact ⟨_, k, rfl, by omega, Dl.of_owned hown He.out, hbel⟩
theorem World.ownsRow.plus {w : World} {B : Nat} {e : TypeId} {size : Nat} {v : Value} {n : Nat} {xs : List Value} (h : w.ownsRow B e size v n xs) (u : World) : (w.plus u).ownsRow B e size v n xs :=
  h.kept (row := none) ⟨rfl, rfl, rfl, World.size_plus w u, fun k hk _ => World.heap_plus w u k hk⟩ (by cases hv : v.ownBlock <;> simp)
theorem cr8_sub (x y k : Nat) (h : y ≤ x) : d8 (x - y) k + d8 y k + cr8 (x - y) y k = d8 x k + 256 * cr8 (x - y) y (k + 1) := by
  have h1 := d8_add (x - y) y k
  rw [Nat.sub_add_cancel h] at h1
  have h2 := cr8_succ (x - y) y k
  omega
set_option maxRecDepth 100000 in
set_option maxHeartbeats 1600000 in
theorem rdifference_c (v1 v2 : Value) (n m x y : Nat) (w : World) (h1 : Dl w v1 n x) (h2 : Dl w v2 m y) (hn : n ≤ 8589934592) (hm : m ≤ 8589934592) (hle : y ≤ x) : Calls Tryd.prog 59 #[v1, v2] w fun e w' => ∃ v, e = .returned v ∧ Dl w' v n (x - y) ∧ Below w.heap.size w w' := by
  obtain ⟨i0, hi, hz0, hz1, hz2⟩ := info_parts info3
  obtain ⟨a1, c1, e1⟩ := h1.lenForm
  obtain ⟨a2, c2, e2⟩ := h2.lenForm
  subst e1
  subst e2
  have hx : x - y < 256 ^ n := Nat.lt_of_le_of_lt (Nat.sub_le _ _) h1.1
  have A1 : Hid (∀ (i : Nat) (wr : World), Below w.heap.size w wr → i < n → ∃ g, a1 = some ⟨g, 0, none⟩ ∧ n ≤ c1 ∧ g < wr.heap.size ∧ wr.cell? ⟨g, i, none⟩ = some (.int .i64 (d8 x i : Nat))) := Lib.hid fun i wr hb hlt => by
    rcases h1.2 with ⟨e, rfl⟩ | ⟨g, c, e, hc, _, hg, hcell⟩
    · exact absurd hlt (by omega)
    · cases e
      exact ⟨g, rfl, hc, Nat.lt_of_lt_of_le hg hb.size, (hb.cell (p := ⟨g, i, none⟩) hg).trans (hcell i hlt)⟩
  have A2 : Hid (∀ (i : Nat) (wr : World), Below w.heap.size w wr → Calls Tryd.prog 76 #[.slice a2 m c2, .int .i64 (i : Int)] wr fun e w' => e = .returned (.int .i64 (d8 y i : Nat)) ∧ wr = w') := Lib.hid fun i wr hb => at_c _ m y i wr (h2.below hb)
  have HX := Lib.hid hx
  have HL := Lib.hid hle
  have HC0 := Lib.hid (cr8_zero (x - y) y)
  clear h1 h2 hx hle
  go_enter Tryd.func59, Tryd.ntmps59
  go_wp2_with fail
  go_loopw [5, 6, 7] (fun v c i wr => ∃ k : Nat, k ≤ n ∧ i = .int .i64 k ∧ c = .int .i64 (cr8 (x - y) y k : Nat) ∧ wr.ownsRow w.heap.size 3 1 v k (dvals (x - y) k) ∧ Below w.heap.size w wr) (fun _ _ i _ => n - (intOf i).toNat)
  case atStart => exact ⟨0, Nat.zero_le _, rfl, by rw [HC0.out]; rfl, World.ownsRow_nil _ _ _ _, Below.refl _ _⟩
  case round =>
    obtain ⟨k, hk, rfl, rfl, hown, hbel⟩ := hrel
    by_cases hgo : k < n
    · have hsz := hbel.size
      obtain ⟨g, rfl, hcap, hgl, hcell⟩ := A1.out k wr hbel hgo
      obtain ⟨a, ha⟩ : ∃ a, a = d8 x k := ⟨_, rfl⟩
      obtain ⟨b, hb⟩ : ∃ b, b = d8 y k := ⟨_, rfl⟩
      obtain ⟨cr, hcr⟩ : ∃ c, c = cr8 (x - y) y k := ⟨_, rfl⟩
      obtain ⟨dg1, hdg⟩ : ∃ d, d = d8 (x - y) k := ⟨_, rfl⟩
      obtain ⟨cr1, hcr1⟩ : ∃ c, c = cr8 (x - y) y (k + 1) := ⟨_, rfl⟩
      have hst := cr8_sub x y k HL.out
      have hcle := cr8_le (x - y) y k
      have hcle1 := cr8_le (x - y) y (k + 1)
      have ha2 : a < 256 := ha ▸ d8_lt x k
      have hb2 : b < 256 := hb ▸ d8_lt y k
      have hd2 : dg1 < 256 := hdg ▸ d8_lt _ _
      have Hs : Hid (dvals (x - y) k ++ [Value.int .i64 (dg1 : Nat)] = dvals (x - y) (k + 1)) := Lib.hid (by rw [hdg, dvals_succ])
      have B2 := fun u => A2.out k (wr.plus u) (hbel.trans ((World.below_plus wr u).mono hsz))
      simp only [← hb] at B2
      rw [← ha] at hcell
      rw [← hdg, ← hb, ← hcr, ← ha, ← hcr1] at hst
      rw [← hcr] at hcle ⊢
      rw [← hcr1] at hcle1
      have Hc1 := Lib.hid hcr1
      have HB2 := Lib.hid B2
      have hkn : (k : Int) < (n : Int) := by omega
      clear ha hb hcr hdg hcr1 B2
      rcases (by omega : cr1 = 0 ∨ cr1 = 1) with hz | hz
      · subst hz
        have e1 : (a : Int) - (b : Int) - (cr : Int) = (dg1 : Int) := by omega
        have e2 : ¬ ((dg1 : Int) < 0) := by omega
        clear hst
        go_wp2_with fail
        ((first | (with_reducible refine wp_region_steady_plus (by kernel_rfl) (by kernel_rfl) ?_) | refine wp_region_steady (by kernel_rfl) (by kernel_rfl) ?_); repeat go_big_quiet_step (first | (go_at_call 76; refine Calls.same_steady (HB2.out _)))); (refine wpQuiet_nil ?_; rintro _ ⟨u, rfl⟩)
        go_wp2_with (first | (at_builtin; refine wpList_append_own _ rfl _ _ 54 rfl w.heap.size 3 i0 (.int .i64 0) 1 8 Tryd.underlying54 hi hz0 hz1 hz2 rfl (by decide) _ _ _ rfl ((World.ownsRow.plus hown u).alloc _) ⟨(wr.plus u).heap.size, 0, none⟩ 1 1 [.int .i64 (dg1 : Nat)] rfl rfl ?c1 ?c2 ?c3 ?c4 ?c5 ?_) | go_in)
        case c1 =>
          intro j u hj
          match j, hj with
          | 0, hj => simp at hj; subst hj; simp [Addr.add]
        case c2 => intro u hu; simp at hu; subst hu; rfl
        case c3 => unfold maxLen; omega
        case c4 => omega
        case c5 => have := World.size_plus wr u; first | (simp; done) | (simp; omega)
        intro v' w1 hown' hgrow _
        rw [Hs.out] at hown'
        have hbp : Below w.heap.size w (wr.plus u) := hbel.trans ((World.below_plus wr u).mono hsz)
        have hb2 : Below w.heap.size w w1 := (hbp.alloc hbp.size _).grown hgrow (by have := hbp.size; first | omega | (simp only [World.size_alloc]; omega)) fun k' hk' => ((World.ownsRow.plus hown u).lt k' hk').1
        clear hown hgrow hbel hbp
        go_wp2
        go_roundw
        case rel => exact ⟨k + 1, by omega, by go_num, by rw [← Hc1.out]; rfl, hown', hb2⟩
        case measure => first | (simp [intOf]; done) | (simp [intOf]; omega)
      · subst hz
        have e1 : (a : Int) - (b : Int) - (cr : Int) = (dg1 : Int) - 256 := by omega
        have e2 : (dg1 : Int) - 256 < 0 := by omega
        clear hst
        go_wp2_with fail
        ((first | (with_reducible refine wp_region_steady_plus (by kernel_rfl) (by kernel_rfl) ?_) | refine wp_region_steady (by kernel_rfl) (by kernel_rfl) ?_); repeat go_big_quiet_step (first | (go_at_call 76; refine Calls.same_steady (HB2.out _)))); (refine wpQuiet_nil ?_; rintro _ ⟨u, rfl⟩)
        go_wp2_with (first | (at_builtin; refine wpList_append_own _ rfl _ _ 54 rfl w.heap.size 3 i0 (.int .i64 0) 1 8 Tryd.underlying54 hi hz0 hz1 hz2 rfl (by decide) _ _ _ rfl ((World.ownsRow.plus hown u).alloc _) ⟨(wr.plus u).heap.size, 0, none⟩ 1 1 [.int .i64 (dg1 : Nat)] rfl rfl ?c1 ?c2 ?c3 ?c4 ?c5 ?_) | go_in)
        case c1 =>
          intro j u hj
          match j, hj with
          | 0, hj => simp at hj; subst hj; simp [Addr.add]
        case c2 => intro u hu; simp at hu; subst hu; rfl
        case c3 => unfold maxLen; omega
        case c4 => omega
        case c5 => have := World.size_plus wr u; first | (simp; done) | (simp; omega)
        intro v' w1 hown' hgrow _
        rw [Hs.out] at hown'
        have hbp : Below w.heap.size w (wr.plus u) := hbel.trans ((World.below_plus wr u).mono hsz)
        have hb2 : Below w.heap.size w w1 := (hbp.alloc hbp.size _).grown hgrow (by have := hbp.size; first | omega | (simp only [World.size_alloc]; omega)) fun k' hk' => ((World.ownsRow.plus hown u).lt k' hk').1
        clear hown hgrow hbel hbp
        go_wp2
        go_roundw
        case rel => exact ⟨k + 1, by omega, by go_num, by rw [← Hc1.out]; rfl, hown', hb2⟩
        case measure => first | (simp [intOf]; done) | (simp [intOf]; omega)
    · have e : k = n := by omega
      subst e
      go_wp2_with fail
      go_ret
      first | exact ⟨_, rfl, Dl.of_owned hown HX.out, hbel⟩ | exact ⟨_, rfl, Dl.of_owned hown HX.out, by (repeat' (first | (with_reducible exact Below.refl _ _) | (with_reducible assumption) | (with_reducible refine Below.plus0 ?_ _) | (with_reducible refine Below.alloc0 ?_ _) | (with_reducible refine Below.plus ?_ ?_ _) | (with_reducible refine Below.alloc ?_ ?_ _) | (with_reducible refine Below.drew ?_) | (with_reducible refine Below.drewN ?_ _) | (simp [go_sem]; done) | (simp [go_sem]; omega)))⟩
/-- A list of at most M digits of x. -/
def DL (w : World) (v : Value) (M x : Nat) : Prop := ∃ N, N ≤ M ∧ Dl w v N x
theorem DL.below {w w' : World} {v : Value} {M x : Nat} (h : DL w v M x) (hb : Below w.heap.size w w') : DL w' v M x := by
  obtain ⟨N, h1, h2⟩ := h
  exact ⟨N, h1, h2.below hb⟩
theorem DL.more {w : World} {v : Value} {M M' x : Nat} (h : DL w v M x) (hm : M ≤ M') : DL w v M' x := by
  obtain ⟨N, h1, h2⟩ := h
  exact ⟨N, by omega, h2⟩
theorem dig_D (x : Int) (w : World) (M : Nat) (hx : (mg x).size ≤ M) (hM : M ≤ 4294967296) : Calls Tryd.prog 53 #[.agg #[.bool (sg x), .string (mg x)]] w fun e w' => ∃ v, e = .returned v ∧ DL w' v M x.natAbs ∧ Below w.heap.size w w' :=
  (rdig_c x w (by omega)).mono fun _ _ ⟨v, h1, h2, h3⟩ => ⟨v, h1, ⟨_, hx, h2⟩, h3⟩
theorem sum_D (v1 v2 : Value) (M x y : Nat) (w : World) (h1 : DL w v1 M x) (h2 : DL w v2 M y) (hM : M ≤ 8589934592) : Calls Tryd.prog 57 #[v1, v2] w fun e w' => ∃ v, e = .returned v ∧ DL w' v (M + 1) (x + y) ∧ Below w.heap.size w w' := by
  obtain ⟨n, hn, h1⟩ := h1
  obtain ⟨m, hm, h2⟩ := h2
  exact (rsum_c v1 v2 n m x y w h1 h2 (by omega) (by omega)).mono fun _ _ ⟨v, N, h1, h2, h3, h4⟩ => ⟨v, h1, ⟨N, by omega, h3⟩, h4⟩
theorem difference_D (v1 v2 : Value) (M M2 x y z : Nat) (w : World) (h1 : DL w v1 M x) (h2 : DL w v2 M2 y) (hM : M ≤ 8589934592) (hM2 : M2 ≤ 8589934592) (hle : y ≤ x) (hz : z = x - y) : Calls Tryd.prog 59 #[v1, v2] w fun e w' => ∃ v, e = .returned v ∧ DL w' v M z ∧ Below w.heap.size w w' := by
  obtain ⟨n, hn, h1⟩ := h1
  obtain ⟨m, hm, h2⟩ := h2
  subst hz
  exact (rdifference_c v1 v2 n m x y w h1 h2 (by omega) (by omega) hle).mono fun _ _ ⟨v, h1, h2, h3⟩ => ⟨v, h1, ⟨n, hn, h2⟩, h3⟩
theorem order_D (v1 v2 : Value) (M M2 x y : Nat) (w : World) (h1 : DL w v1 M x) (h2 : DL w v2 M2 y) (hM : M ≤ 8589934592) (hM2 : M2 ≤ 8589934592) : Calls Tryd.prog 58 #[v1, v2] w fun e w' => e = .returned (.int .i64 (cmpN x y)) ∧ w = w' := by
  obtain ⟨n, hn, h1⟩ := h1
  obtain ⟨m, hm, h2⟩ := h2
  exact order_c v1 v2 n m x y w h1 h2 (by omega) (by omega)
theorem number_D (neg : Bool) (v : Value) (M x : Nat) (z : Int) (w : World) (h : DL w v M x) (hM : M ≤ 8589934592) (hz : z = if neg then -(x : Int) else x) : Calls Tryd.prog 51 #[.bool neg, v] w fun e w' => e = .returned (.agg #[.bool (sg z), .string (mg z)]) ∧ Below w.heap.size w w' := by
  obtain ⟨n, hn, h⟩ := h
  subst hz
  exact rnumber_c neg v x n w h (by omega)
theorem rNegate_c (x z : Int) (hz : z = -x) (w : World) : Calls Tryd.prog 35 #[.agg #[.bool (sg x), .string (mg x)]] w fun e w' => e = .returned (.agg #[.bool (sg z), .string (mg z)]) ∧ Below w.heap.size w w' := by
  have hmg : mg z = mg x := by unfold mg; rw [hz, Int.natAbs_neg]
  by_cases h0 : x = 0
  · have e1 : sg z = false := by subst h0; rw [hz]; rfl
    have e2 : sg x = false := by subst h0; rfl
    have e3 : mg x = ⟨#[]⟩ := by subst h0; rfl
    rw [hmg, e1, e2, e3]
    clear hmg e1 e2 e3 hz
    go_enter Tryd.func35, Tryd.ntmps35
    go_wp2
    refine bodyPost_ret (by simp [results, Tryd.results35, go_sem]; rfl) rfl ?_
    exact ⟨rfl, by (repeat' (first | (with_reducible exact Below.refl _ _) | (with_reducible assumption) | (with_reducible refine Below.plus0 ?_ _) | (with_reducible refine Below.alloc0 ?_ _) | (with_reducible refine Below.plus ?_ ?_ _) | (with_reducible refine Below.alloc ?_ ?_ _) | (with_reducible refine Below.drew ?_) | (with_reducible refine Below.drewN ?_ _) | (simp [go_sem]; done) | (simp [go_sem]; omega)))⟩
  · have hp : 0 < (mg x).size := by unfold mg; rw [size_mag]; exact nd_pos 256 (by omega) _ (by omega)
    have hp2 : (0 : Int) < ((mg x).size : Int) := by omega
    have e1 : sg z = !sg x := by
      unfold sg; rw [hz]
      by_cases h : x < 0
      · simp [h]; omega
      · simp [h]; omega
    rw [hmg, e1]
    clear hmg e1 hz
    cases sg x
    all_goals
      go_enter Tryd.func35, Tryd.ntmps35
      go_wp2
      refine bodyPost_ret (by simp [results, Tryd.results35, go_sem]; rfl) rfl ?_
      exact ⟨rfl, by (repeat' (first | (with_reducible exact Below.refl _ _) | (with_reducible assumption) | (with_reducible refine Below.plus0 ?_ _) | (with_reducible refine Below.alloc0 ?_ _) | (with_reducible refine Below.plus ?_ ?_ _) | (with_reducible refine Below.alloc ?_ ?_ _) | (with_reducible refine Below.drew ?_) | (with_reducible refine Below.drewN ?_ _) | (simp [go_sem]; done) | (simp [go_sem]; omega)))⟩
theorem rAbs_c (x z : Int) (hz : z = x.natAbs) (w : World) : Calls Tryd.prog 24 #[.agg #[.bool (sg x), .string (mg x)]] w fun e w' => e = .returned (.agg #[.bool (sg z), .string (mg z)]) ∧ Below w.heap.size w w' := by
  have hmg : mg z = mg x := by unfold mg; rw [hz, Int.natAbs_natCast]
  have e1 : sg z = false := by rw [hz]; exact sg_nat _
  rw [hmg, e1]
  clear hmg e1
  go_enter Tryd.func24, Tryd.ntmps24
  go_wp2
  refine bodyPost_ret (by simp [results, Tryd.results24, go_sem]; rfl) rfl ?_
  exact ⟨rfl, by (repeat' (first | (with_reducible exact Below.refl _ _) | (with_reducible assumption) | (with_reducible refine Below.plus0 ?_ _) | (with_reducible refine Below.alloc0 ?_ _) | (with_reducible refine Below.plus ?_ ?_ _) | (with_reducible refine Below.alloc ?_ ?_ _) | (with_reducible refine Below.drew ?_) | (with_reducible refine Below.drewN ?_ _) | (simp [go_sem]; done) | (simp [go_sem]; omega)))⟩
theorem add_like (x y : Int) (h : sg x = sg y) : x + y = if sg x then -((x.natAbs + y.natAbs : Nat) : Int) else ((x.natAbs + y.natAbs : Nat) : Int) := by
  by_cases hx : x < 0
  · have h1 := sg_true x hx
    rw [h1] at h ⊢
    by_cases hy : y < 0
    · rw [if_pos rfl]; omega
    · rw [sg_false y (by omega)] at h; cases h
  · have h1 := sg_false x (by omega)
    rw [h1] at h ⊢
    by_cases hy : y < 0
    · rw [sg_true y hy] at h; cases h
    · rw [if_neg (by simp)]; omega
theorem add_unlike (x y : Int) (h : sg x ≠ sg y) (hle : y.natAbs ≤ x.natAbs) : x + y = if sg x then -((x.natAbs - y.natAbs : Nat) : Int) else ((x.natAbs - y.natAbs : Nat) : Int) := by
  by_cases hx : x < 0
  · have h1 := sg_true x hx
    rw [h1] at h ⊢
    by_cases hy : y < 0
    · rw [sg_true y hy] at h; exact absurd rfl h
    · rw [if_pos rfl]; omega
  · have h1 := sg_false x (by omega)
    rw [h1] at h ⊢
    by_cases hy : y < 0
    · rw [if_neg (by simp)]; omega
    · rw [sg_false y (by omega)] at h; exact absurd rfl h
theorem cmpN_neg_iff (x y : Nat) : (cmpN x y < 0) = (x < y) := by
  unfold cmpN; rw [eq_iff_iff]; repeat' split
  all_goals omega
set_option maxRecDepth 100000 in
set_option maxHeartbeats 800000 in
theorem rAdd_c (x y z : Int) (hz : z = x + y) (w : World) (hx : (mg x).size ≤ 4294967296) (hy : (mg y).size ≤ 4294967296) : Calls Tryd.prog 22 #[.agg #[.bool (sg x), .string (mg x)], .agg #[.bool (sg y), .string (mg y)]] w fun e w' => e = .returned (.agg #[.bool (sg z), .string (mg z)]) ∧ Below w.heap.size w w' := by
  have h3 := Lib.hid (fun w => dig_D x w 4294967296 hx (by omega))
  have h4 := Lib.hid (fun w => dig_D y w 4294967296 hy (by omega))
  go_enter Tryd.func22, Tryd.ntmps22
  go_wp2_with fail
  refine wp_region_facts (fun i v w9 => match i with
    | 0 => v = .agg #[.bool (sg x), .string (mg x)]
    | 1 => DL w9 v 4294967296 x.natAbs
    | 2 => v = .agg #[.bool (sg y), .string (mg y)]
    | 3 => DL w9 v 4294967296 y.natAbs
    | 4 => DL w9 v 4294967296 x.natAbs
    | 5 => DL w9 v 4294967296 y.natAbs
    | _ => True) (by kernel_rfl) (by kernel_rfl) ?_ ?_ ?_
  · intro i v w1 w2 hb h
    match i, h with
    | 0, h => exact h
    | 1, h => exact DL.below h hb
    | 2, h => exact h
    | 3, h => exact DL.below h hb
    | 4, h => exact DL.below h hb
    | 5, h => exact DL.below h hb
    | k + 6, h => exact trivial
  · refine KindSteps.cons ?_ ?_
    · intro xs w9 hw hd
      (first | (with_reducible have hw2 := World.plus_of_below ((World.below_plus _ _).trans (hw.mono (World.size_plus _ _))); obtain ⟨u, rfl⟩ := hw2) | (obtain ⟨u, rfl⟩ := World.plus_of_below hw))
      simp only [fill, Act.put, List.take_succ_cons, List.take_zero, List.drop_succ_cons, List.drop_zero, Nat.reduceAdd, Nat.zero_add, List.setIfInBounds_toArray, List.set_cons_succ, List.set_cons_zero, if_true, if_false, Nat.reduceEqDiff, reduceIte]
      go_wp2_with fail
      all_goals (first | exact Below.refl _ _ | exact ⟨by (repeat' (first | (with_reducible exact Below.refl _ _) | (with_reducible assumption) | (with_reducible refine Below.plus0 ?_ _) | (with_reducible refine Below.alloc0 ?_ _) | (with_reducible refine Below.plus ?_ ?_ _) | (with_reducible refine Below.alloc ?_ ?_ _) | (with_reducible refine Below.drew ?_) | (with_reducible refine Below.drewN ?_ _) | (simp [go_sem]; done) | (simp [go_sem]; omega))), _, rfl, rfl⟩ | exact ⟨rfl, by (repeat' (first | (with_reducible exact Below.refl _ _) | (with_reducible assumption) | (with_reducible refine Below.plus0 ?_ _) | (with_reducible refine Below.alloc0 ?_ _) | (with_reducible refine Below.plus ?_ ?_ _) | (with_reducible refine Below.alloc ?_ ?_ _) | (with_reducible refine Below.drew ?_) | (with_reducible refine Below.drewN ?_ _) | (simp [go_sem]; done) | (simp [go_sem]; omega))), _, rfl, rfl⟩ | exact ⟨by (repeat' (first | (with_reducible exact Below.refl _ _) | (with_reducible assumption) | (with_reducible refine Below.plus0 ?_ _) | (with_reducible refine Below.alloc0 ?_ _) | (with_reducible refine Below.plus ?_ ?_ _) | (with_reducible refine Below.alloc ?_ ?_ _) | (with_reducible refine Below.drew ?_) | (with_reducible refine Below.drewN ?_ _) | (simp [go_sem]; done) | (simp [go_sem]; omega))), rfl⟩ | (trace_state; fail))
    refine KindSteps.cons ?_ ?_
    · intro xs w9 hw hd
      (first | (with_reducible have hw2 := World.plus_of_below ((World.below_plus _ _).trans (hw.mono (World.size_plus _ _))); obtain ⟨u, rfl⟩ := hw2) | (obtain ⟨u, rfl⟩ := World.plus_of_below hw))
      simp only [fill, Act.put, List.take_succ_cons, List.take_zero, List.drop_succ_cons, List.drop_zero, Nat.reduceAdd, Nat.zero_add, List.setIfInBounds_toArray, List.set_cons_succ, List.set_cons_zero, if_true, if_false, Nat.reduceEqDiff, reduceIte]
      have f0 : (xs 0) = .agg #[.bool (sg x), .string (mg x)] := hd 0 (by kernel_rfl); simp only [f0]
      go_wp2_with (go_at_call 53; refine (h3.out _).mono ?_; rintro e w8 ⟨v, rfl, hdl, hb⟩)
      all_goals (first | exact Below.refl _ _ | exact hb | exact ⟨hb, _, rfl, hdl⟩ | exact ⟨rfl, hb, _, rfl, hdl⟩)
    refine KindSteps.cons ?_ ?_
    · intro xs w9 hw hd
      (first | (with_reducible have hw2 := World.plus_of_below ((World.below_plus _ _).trans (hw.mono (World.size_plus _ _))); obtain ⟨u, rfl⟩ := hw2) | (obtain ⟨u, rfl⟩ := World.plus_of_below hw))
      simp only [fill, Act.put, List.take_succ_cons, List.take_zero, List.drop_succ_cons, List.drop_zero, Nat.reduceAdd, Nat.zero_add, List.setIfInBounds_toArray, List.set_cons_succ, List.set_cons_zero, if_true, if_false, Nat.reduceEqDiff, reduceIte]
      go_wp2_with fail
      all_goals (first | exact Below.refl _ _ | exact ⟨by (repeat' (first | (with_reducible exact Below.refl _ _) | (with_reducible assumption) | (with_reducible refine Below.plus0 ?_ _) | (with_reducible refine Below.alloc0 ?_ _) | (with_reducible refine Below.plus ?_ ?_ _) | (with_reducible refine Below.alloc ?_ ?_ _) | (with_reducible refine Below.drew ?_) | (with_reducible refine Below.drewN ?_ _) | (simp [go_sem]; done) | (simp [go_sem]; omega))), _, rfl, rfl⟩ | exact ⟨rfl, by (repeat' (first | (with_reducible exact Below.refl _ _) | (with_reducible assumption) | (with_reducible refine Below.plus0 ?_ _) | (with_reducible refine Below.alloc0 ?_ _) | (with_reducible refine Below.plus ?_ ?_ _) | (with_reducible refine Below.alloc ?_ ?_ _) | (with_reducible refine Below.drew ?_) | (with_reducible refine Below.drewN ?_ _) | (simp [go_sem]; done) | (simp [go_sem]; omega))), _, rfl, rfl⟩ | exact ⟨by (repeat' (first | (with_reducible exact Below.refl _ _) | (with_reducible assumption) | (with_reducible refine Below.plus0 ?_ _) | (with_reducible refine Below.alloc0 ?_ _) | (with_reducible refine Below.plus ?_ ?_ _) | (with_reducible refine Below.alloc ?_ ?_ _) | (with_reducible refine Below.drew ?_) | (with_reducible refine Below.drewN ?_ _) | (simp [go_sem]; done) | (simp [go_sem]; omega))), rfl⟩ | (trace_state; fail))
    refine KindSteps.cons ?_ ?_
    · intro xs w9 hw hd
      (first | (with_reducible have hw2 := World.plus_of_below ((World.below_plus _ _).trans (hw.mono (World.size_plus _ _))); obtain ⟨u, rfl⟩ := hw2) | (obtain ⟨u, rfl⟩ := World.plus_of_below hw))
      simp only [fill, Act.put, List.take_succ_cons, List.take_zero, List.drop_succ_cons, List.drop_zero, Nat.reduceAdd, Nat.zero_add, List.setIfInBounds_toArray, List.set_cons_succ, List.set_cons_zero, if_true, if_false, Nat.reduceEqDiff, reduceIte]
      have f2 : (xs 2) = .agg #[.bool (sg y), .string (mg y)] := hd 2 (by kernel_rfl); simp only [f2]
      go_wp2_with (go_at_call 53; refine (h4.out _).mono ?_; rintro e w8 ⟨v, rfl, hdl, hb⟩)
      all_goals (first | exact Below.refl _ _ | exact hb | exact ⟨hb, _, rfl, hdl⟩ | exact ⟨rfl, hb, _, rfl, hdl⟩)
    refine KindSteps.cons ?_ ?_
    · intro xs w9 hw hd
      (first | (with_reducible have hw2 := World.plus_of_below ((World.below_plus _ _).trans (hw.mono (World.size_plus _ _))); obtain ⟨u, rfl⟩ := hw2) | (obtain ⟨u, rfl⟩ := World.plus_of_below hw))
      simp only [fill, Act.put, List.take_succ_cons, List.take_zero, List.drop_succ_cons, List.drop_zero, Nat.reduceAdd, Nat.zero_add, List.setIfInBounds_toArray, List.set_cons_succ, List.set_cons_zero, if_true, if_false, Nat.reduceEqDiff, reduceIte]
      have f1 : DL _ (xs 1) 4294967296 x.natAbs := hd 1 (by kernel_rfl)
      go_wp2_with fail
      all_goals (first | exact Below.refl _ _ | exact ⟨by (repeat' (first | (with_reducible exact Below.refl _ _) | (with_reducible assumption) | (with_reducible refine Below.plus0 ?_ _) | (with_reducible refine Below.alloc0 ?_ _) | (with_reducible refine Below.plus ?_ ?_ _) | (with_reducible refine Below.alloc ?_ ?_ _) | (with_reducible refine Below.drew ?_) | (with_reducible refine Below.drewN ?_ _) | (simp [go_sem]; done) | (simp [go_sem]; omega))), _, rfl, f1⟩ | exact ⟨rfl, by (repeat' (first | (with_reducible exact Below.refl _ _) | (with_reducible assumption) | (with_reducible refine Below.plus0 ?_ _) | (with_reducible refine Below.alloc0 ?_ _) | (with_reducible refine Below.plus ?_ ?_ _) | (with_reducible refine Below.alloc ?_ ?_ _) | (with_reducible refine Below.drew ?_) | (with_reducible refine Below.drewN ?_ _) | (simp [go_sem]; done) | (simp [go_sem]; omega))), _, rfl, f1⟩ | exact ⟨by (repeat' (first | (with_reducible exact Below.refl _ _) | (with_reducible assumption) | (with_reducible refine Below.plus0 ?_ _) | (with_reducible refine Below.alloc0 ?_ _) | (with_reducible refine Below.plus ?_ ?_ _) | (with_reducible refine Below.alloc ?_ ?_ _) | (with_reducible refine Below.drew ?_) | (with_reducible refine Below.drewN ?_ _) | (simp [go_sem]; done) | (simp [go_sem]; omega))), f1⟩ | (trace_state; fail))
    refine KindSteps.cons ?_ ?_
    · intro xs w9 hw hd
      (first | (with_reducible have hw2 := World.plus_of_below ((World.below_plus _ _).trans (hw.mono (World.size_plus _ _))); obtain ⟨u, rfl⟩ := hw2) | (obtain ⟨u, rfl⟩ := World.plus_of_below hw))
      simp only [fill, Act.put, List.take_succ_cons, List.take_zero, List.drop_succ_cons, List.drop_zero, Nat.reduceAdd, Nat.zero_add, List.setIfInBounds_toArray, List.set_cons_succ, List.set_cons_zero, if_true, if_false, Nat.reduceEqDiff, reduceIte]
      have f3 : DL _ (xs 3) 4294967296 y.natAbs := hd 3 (by kernel_rfl)
      go_wp2_with fail
      all_goals (first | exact Below.refl _ _ | exact ⟨by (repeat' (first | (with_reducible exact Below.refl _ _) | (with_reducible assumption) | (with_reducible refine Below.plus0 ?_ _) | (with_reducible refine Below.alloc0 ?_ _) | (with_reducible refine Below.plus ?_ ?_ _) | (with_reducible refine Below.alloc ?_ ?_ _) | (with_reducible refine Below.drew ?_) | (with_reducible refine Below.drewN ?_ _) | (simp [go_sem]; done) | (simp [go_sem]; omega))), _, rfl, f3⟩ | exact ⟨rfl, by (repeat' (first | (with_reducible exact Below.refl _ _) | (with_reducible assumption) | (with_reducible refine Below.plus0 ?_ _) | (with_reducible refine Below.alloc0 ?_ _) | (with_reducible refine Below.plus ?_ ?_ _) | (with_reducible refine Below.alloc ?_ ?_ _) | (with_reducible refine Below.drew ?_) | (with_reducible refine Below.drewN ?_ _) | (simp [go_sem]; done) | (simp [go_sem]; omega))), _, rfl, f3⟩ | exact ⟨by (repeat' (first | (with_reducible exact Below.refl _ _) | (with_reducible assumption) | (with_reducible refine Below.plus0 ?_ _) | (with_reducible refine Below.alloc0 ?_ _) | (with_reducible refine Below.plus ?_ ?_ _) | (with_reducible refine Below.alloc ?_ ?_ _) | (with_reducible refine Below.drew ?_) | (with_reducible refine Below.drewN ?_ _) | (simp [go_sem]; done) | (simp [go_sem]; omega))), f3⟩ | (trace_state; fail))
    exact KindSteps.nil
  intro xs w9 hw hd
  (first | (with_reducible have hw2 := World.plus_of_below ((World.below_plus _ _).trans (hw.mono (World.size_plus _ _))); obtain ⟨u, rfl⟩ := hw2) | (obtain ⟨u, rfl⟩ := World.plus_of_below hw))
  simp only [fill, Act.put, List.take_succ_cons, List.take_zero, List.drop_succ_cons, List.drop_zero, Nat.reduceAdd, Nat.zero_add, List.setIfInBounds_toArray, List.set_cons_succ, List.set_cons_zero, if_true, if_false, Nat.reduceEqDiff, reduceIte]
  have f0 : (xs 0) = .agg #[.bool (sg x), .string (mg x)] := hd 0 (by decide)
  simp only [f0]
  have f1 : DL _ (xs 1) 4294967296 x.natAbs := hd 1 (by decide)
  have f2 : (xs 2) = .agg #[.bool (sg y), .string (mg y)] := hd 2 (by decide)
  simp only [f2]
  have f3 : DL _ (xs 3) 4294967296 y.natAbs := hd 3 (by decide)
  have f4 : DL _ (xs 4) 4294967296 x.natAbs := hd 4 (by decide)
  have f5 : DL _ (xs 5) 4294967296 y.natAbs := hd 5 (by decide)
  clear hd
  obtain ⟨v1, hv1⟩ : ∃ v, v = xs 4 := ⟨_, rfl⟩
  obtain ⟨v2, hv2⟩ : ∃ v, v = xs 5 := ⟨_, rfl⟩
  rw [← hv1] at f4 ⊢
  rw [← hv2] at f5 ⊢
  have g1 := f4
  have g2 := f5
  clear f1 f3 f4 f5 hv1 hv2 hw
  by_cases h : sg x = sg y
  · have hb : (sg x == sg y) = true := by simpa using h
    have hzz := add_like x y h
    rw [← hz] at hzz
    have HZ := Lib.hid hzz
    clear hz hzz h
    go_wp2_with fail
    refine wp_region_facts_t 6 (fun i v w9 => match i with
      | 0 => v = .pointer (some ⟨w.heap.size, 0, none⟩)
      | 1 => v = .bool (sg x)
      | 2 => v = v1
      | 3 => v = v2
      | 4 => DL w9 v 4294967297 (x.natAbs + y.natAbs)
      | 5 => v = .agg #[.bool (sg z), .string (mg z)]
      | _ => True) (by kernel_rfl) (by kernel_rfl) ?_ ?_ ?_
    · intro i v w1 w2 hb h
      match i, h with
      | 0, h => exact h
      | 1, h => exact h
      | 2, h => exact h
      | 3, h => exact h
      | 4, h => exact DL.below h hb
      | 5, h => exact h
      | k + 6, h => exact trivial
    · simp only [List.take_succ_cons, List.take_zero]; 
      refine KindSteps.cons ?_ ?_
      · intro xs w9 hw hd
        have g1 := g1.below hw; have g2 := g2.below hw; (first | (with_reducible have hw2 := World.plus_of_below ((World.below_plus _ _).trans (hw.mono (World.size_plus _ _))); obtain ⟨u, rfl⟩ := hw2) | (obtain ⟨u, rfl⟩ := World.plus_of_below hw))
        simp only [fill, Act.put, List.take_succ_cons, List.take_zero, List.drop_succ_cons, List.drop_zero, Nat.reduceAdd, Nat.zero_add, List.setIfInBounds_toArray, List.set_cons_succ, List.set_cons_zero, if_true, if_false, Nat.reduceEqDiff, reduceIte]
        go_wp2_with fail
        all_goals (first | exact Below.refl _ _ | exact ⟨by (repeat' (first | (with_reducible exact Below.refl _ _) | (with_reducible assumption) | (with_reducible refine Below.plus0 ?_ _) | (with_reducible refine Below.alloc0 ?_ _) | (with_reducible refine Below.plus ?_ ?_ _) | (with_reducible refine Below.alloc ?_ ?_ _) | (with_reducible refine Below.drew ?_) | (with_reducible refine Below.drewN ?_ _) | (simp [go_sem]; done) | (simp [go_sem]; omega))), _, rfl, rfl⟩ | exact ⟨rfl, by (repeat' (first | (with_reducible exact Below.refl _ _) | (with_reducible assumption) | (with_reducible refine Below.plus0 ?_ _) | (with_reducible refine Below.alloc0 ?_ _) | (with_reducible refine Below.plus ?_ ?_ _) | (with_reducible refine Below.alloc ?_ ?_ _) | (with_reducible refine Below.drew ?_) | (with_reducible refine Below.drewN ?_ _) | (simp [go_sem]; done) | (simp [go_sem]; omega))), _, rfl, rfl⟩ | exact ⟨by (repeat' (first | (with_reducible exact Below.refl _ _) | (with_reducible assumption) | (with_reducible refine Below.plus0 ?_ _) | (with_reducible refine Below.alloc0 ?_ _) | (with_reducible refine Below.plus ?_ ?_ _) | (with_reducible refine Below.alloc ?_ ?_ _) | (with_reducible refine Below.drew ?_) | (with_reducible refine Below.drewN ?_ _) | (simp [go_sem]; done) | (simp [go_sem]; omega))), rfl⟩ | (trace_state; fail))
      refine KindSteps.cons ?_ ?_
      · intro xs w9 hw hd
        have g1 := g1.below hw; have g2 := g2.below hw; (first | (with_reducible have hw2 := World.plus_of_below ((World.below_plus _ _).trans (hw.mono (World.size_plus _ _))); obtain ⟨u, rfl⟩ := hw2) | (obtain ⟨u, rfl⟩ := World.plus_of_below hw))
        simp only [fill, Act.put, List.take_succ_cons, List.take_zero, List.drop_succ_cons, List.drop_zero, Nat.reduceAdd, Nat.zero_add, List.setIfInBounds_toArray, List.set_cons_succ, List.set_cons_zero, if_true, if_false, Nat.reduceEqDiff, reduceIte]
        have f0 : (xs 0) = .pointer (some ⟨w.heap.size, 0, none⟩) := hd 0 (by kernel_rfl); simp only [f0]
        go_wp2_with fail
        all_goals (first | exact Below.refl _ _ | exact ⟨by (repeat' (first | (with_reducible exact Below.refl _ _) | (with_reducible assumption) | (with_reducible refine Below.plus0 ?_ _) | (with_reducible refine Below.alloc0 ?_ _) | (with_reducible refine Below.plus ?_ ?_ _) | (with_reducible refine Below.alloc ?_ ?_ _) | (with_reducible refine Below.drew ?_) | (with_reducible refine Below.drewN ?_ _) | (simp [go_sem]; done) | (simp [go_sem]; omega))), _, rfl, rfl⟩ | exact ⟨rfl, by (repeat' (first | (with_reducible exact Below.refl _ _) | (with_reducible assumption) | (with_reducible refine Below.plus0 ?_ _) | (with_reducible refine Below.alloc0 ?_ _) | (with_reducible refine Below.plus ?_ ?_ _) | (with_reducible refine Below.alloc ?_ ?_ _) | (with_reducible refine Below.drew ?_) | (with_reducible refine Below.drewN ?_ _) | (simp [go_sem]; done) | (simp [go_sem]; omega))), _, rfl, rfl⟩ | exact ⟨by (repeat' (first | (with_reducible exact Below.refl _ _) | (with_reducible assumption) | (with_reducible refine Below.plus0 ?_ _) | (with_reducible refine Below.alloc0 ?_ _) | (with_reducible refine Below.plus ?_ ?_ _) | (with_reducible refine Below.alloc ?_ ?_ _) | (with_reducible refine Below.drew ?_) | (with_reducible refine Below.drewN ?_ _) | (simp [go_sem]; done) | (simp [go_sem]; omega))), rfl⟩ | (trace_state; fail))
      refine KindSteps.cons ?_ ?_
      · intro xs w9 hw hd
        have g1 := g1.below hw; have g2 := g2.below hw; (first | (with_reducible have hw2 := World.plus_of_below ((World.below_plus _ _).trans (hw.mono (World.size_plus _ _))); obtain ⟨u, rfl⟩ := hw2) | (obtain ⟨u, rfl⟩ := World.plus_of_below hw))
        simp only [fill, Act.put, List.take_succ_cons, List.take_zero, List.drop_succ_cons, List.drop_zero, Nat.reduceAdd, Nat.zero_add, List.setIfInBounds_toArray, List.set_cons_succ, List.set_cons_zero, if_true, if_false, Nat.reduceEqDiff, reduceIte]
        go_wp2_with fail
        all_goals (first | exact Below.refl _ _ | exact ⟨by (repeat' (first | (with_reducible exact Below.refl _ _) | (with_reducible assumption) | (with_reducible refine Below.plus0 ?_ _) | (with_reducible refine Below.alloc0 ?_ _) | (with_reducible refine Below.plus ?_ ?_ _) | (with_reducible refine Below.alloc ?_ ?_ _) | (with_reducible refine Below.drew ?_) | (with_reducible refine Below.drewN ?_ _) | (simp [go_sem]; done) | (simp [go_sem]; omega))), _, rfl, rfl⟩ | exact ⟨rfl, by (repeat' (first | (with_reducible exact Below.refl _ _) | (with_reducible assumption) | (with_reducible refine Below.plus0 ?_ _) | (with_reducible refine Below.alloc0 ?_ _) | (with_reducible refine Below.plus ?_ ?_ _) | (with_reducible refine Below.alloc ?_ ?_ _) | (with_reducible refine Below.drew ?_) | (with_reducible refine Below.drewN ?_ _) | (simp [go_sem]; done) | (simp [go_sem]; omega))), _, rfl, rfl⟩ | exact ⟨by (repeat' (first | (with_reducible exact Below.refl _ _) | (with_reducible assumption) | (with_reducible refine Below.plus0 ?_ _) | (with_reducible refine Below.alloc0 ?_ _) | (with_reducible refine Below.plus ?_ ?_ _) | (with_reducible refine Below.alloc ?_ ?_ _) | (with_reducible refine Below.drew ?_) | (with_reducible refine Below.drewN ?_ _) | (simp [go_sem]; done) | (simp [go_sem]; omega))), rfl⟩ | (trace_state; fail))
      refine KindSteps.cons ?_ ?_
      · intro xs w9 hw hd
        have g1 := g1.below hw; have g2 := g2.below hw; (first | (with_reducible have hw2 := World.plus_of_below ((World.below_plus _ _).trans (hw.mono (World.size_plus _ _))); obtain ⟨u, rfl⟩ := hw2) | (obtain ⟨u, rfl⟩ := World.plus_of_below hw))
        simp only [fill, Act.put, List.take_succ_cons, List.take_zero, List.drop_succ_cons, List.drop_zero, Nat.reduceAdd, Nat.zero_add, List.setIfInBounds_toArray, List.set_cons_succ, List.set_cons_zero, if_true, if_false, Nat.reduceEqDiff, reduceIte]
        go_wp2_with fail
        all_goals (first | exact Below.refl _ _ | exact ⟨by (repeat' (first | (with_reducible exact Below.refl _ _) | (with_reducible assumption) | (with_reducible refine Below.plus0 ?_ _) | (with_reducible refine Below.alloc0 ?_ _) | (with_reducible refine Below.plus ?_ ?_ _) | (with_reducible refine Below.alloc ?_ ?_ _) | (with_reducible refine Below.drew ?_) | (with_reducible refine Below.drewN ?_ _) | (simp [go_sem]; done) | (simp [go_sem]; omega))), _, rfl, rfl⟩ | exact ⟨rfl, by (repeat' (first | (with_reducible exact Below.refl _ _) | (with_reducible assumption) | (with_reducible refine Below.plus0 ?_ _) | (with_reducible refine Below.alloc0 ?_ _) | (with_reducible refine Below.plus ?_ ?_ _) | (with_reducible refine Below.alloc ?_ ?_ _) | (with_reducible refine Below.drew ?_) | (with_reducible refine Below.drewN ?_ _) | (simp [go_sem]; done) | (simp [go_sem]; omega))), _, rfl, rfl⟩ | exact ⟨by (repeat' (first | (with_reducible exact Below.refl _ _) | (with_reducible assumption) | (with_reducible refine Below.plus0 ?_ _) | (with_reducible refine Below.alloc0 ?_ _) | (with_reducible refine Below.plus ?_ ?_ _) | (with_reducible refine Below.alloc ?_ ?_ _) | (with_reducible refine Below.drew ?_) | (with_reducible refine Below.drewN ?_ _) | (simp [go_sem]; done) | (simp [go_sem]; omega))), rfl⟩ | (trace_state; fail))
      refine KindSteps.cons ?_ ?_
      · intro xs w9 hw hd
        have g1 := g1.below hw; have g2 := g2.below hw; (first | (with_reducible have hw2 := World.plus_of_below ((World.below_plus _ _).trans (hw.mono (World.size_plus _ _))); obtain ⟨u, rfl⟩ := hw2) | (obtain ⟨u, rfl⟩ := World.plus_of_below hw))
        simp only [fill, Act.put, List.take_succ_cons, List.take_zero, List.drop_succ_cons, List.drop_zero, Nat.reduceAdd, Nat.zero_add, List.setIfInBounds_toArray, List.set_cons_succ, List.set_cons_zero, if_true, if_false, Nat.reduceEqDiff, reduceIte]
        have f2 : (xs 2) = v1 := hd 2 (by kernel_rfl); simp only [f2]
        have f3 : (xs 3) = v2 := hd 3 (by kernel_rfl); simp only [f3]
        go_wp2_with (go_at_call 57; refine (sum_D _ _ _ _ _ _ g1 g2 (by omega)).mono ?_; rintro e w8 ⟨v, rfl, hdl, hb⟩)
        all_goals (first | exact Below.refl _ _ | exact hb | exact ⟨hb, _, rfl, hdl⟩ | exact ⟨rfl, hb, _, rfl, hdl⟩)
      refine KindSteps.cons ?_ ?_
      · intro xs w9 hw hd
        have g1 := g1.below hw; have g2 := g2.below hw; (first | (with_reducible have hw2 := World.plus_of_below ((World.below_plus _ _).trans (hw.mono (World.size_plus _ _))); obtain ⟨u, rfl⟩ := hw2) | (obtain ⟨u, rfl⟩ := World.plus_of_below hw))
        simp only [fill, Act.put, List.take_succ_cons, List.take_zero, List.drop_succ_cons, List.drop_zero, Nat.reduceAdd, Nat.zero_add, List.setIfInBounds_toArray, List.set_cons_succ, List.set_cons_zero, if_true, if_false, Nat.reduceEqDiff, reduceIte]
        have f1 : (xs 1) = .bool (sg x) := hd 1 (by kernel_rfl); simp only [f1]
        have f4 : DL _ (xs 4) 4294967297 (x.natAbs + y.natAbs) := hd 4 (by kernel_rfl)
        go_wp2_with (go_at_call 51; refine (number_D _ _ _ _ _ _ f4 (by omega) HZ.out).mono ?_; rintro e w8 ⟨rfl, hb⟩)
        all_goals (first | exact Below.refl _ _ | exact hb | exact ⟨hb, _, rfl, rfl⟩ | exact ⟨rfl, hb, _, rfl, rfl⟩)
      exact KindSteps.nil
    intro xs w9 hw hd
    have g1 := g1.below hw; have g2 := g2.below hw; (first | (with_reducible have hw2 := World.plus_of_below ((World.below_plus _ _).trans (hw.mono (World.size_plus _ _))); obtain ⟨u, rfl⟩ := hw2) | (obtain ⟨u, rfl⟩ := World.plus_of_below hw))
    simp only [fill, Act.put, List.take_succ_cons, List.take_zero, List.drop_succ_cons, List.drop_zero, Nat.reduceAdd, Nat.zero_add, List.setIfInBounds_toArray, List.set_cons_succ, List.set_cons_zero, if_true, if_false, Nat.reduceEqDiff, reduceIte]
    have f0 : (xs 0) = .pointer (some ⟨w.heap.size, 0, none⟩) := hd 0 (by decide)
    simp only [f0]
    have f1 : (xs 1) = .bool (sg x) := hd 1 (by decide)
    simp only [f1]
    have f2 : (xs 2) = v1 := hd 2 (by decide)
    simp only [f2]
    have f3 : (xs 3) = v2 := hd 3 (by decide)
    simp only [f3]
    have f4 : DL _ (xs 4) 4294967297 (x.natAbs + y.natAbs) := hd 4 (by decide)
    have f5 : (xs 5) = .agg #[.bool (sg z), .string (mg z)] := hd 5 (by decide)
    simp only [f5]
    clear hd
    go_wp2_with fail
    refine bodyPost_ret (by simp [results, Tryd.results22, go_sem]; rfl) rfl ?_
    exact ⟨rfl, by (repeat' (first | (with_reducible exact Below.refl _ _) | (with_reducible assumption) | (with_reducible refine Below.plus0 ?_ _) | (with_reducible refine Below.alloc0 ?_ _) | (with_reducible refine Below.plus ?_ ?_ _) | (with_reducible refine Below.alloc ?_ ?_ _) | (with_reducible refine Below.drew ?_) | (with_reducible refine Below.drewN ?_ _) | (simp [go_sem]; done) | (simp [go_sem]; omega)))⟩
  · have hb : (sg x == sg y) = false := by simpa using h
    have HO := Lib.hid (order_D v1 v2 _ _ _ _ _ g1 g2 (by omega) (by omega))
    by_cases hlt : x.natAbs < y.natAbs
    · have hc : (cmpN x.natAbs y.natAbs < 0) := by rw [cmpN_neg_iff]; exact hlt
      have hzz := add_unlike y x (Ne.symm h) (by omega)
      rw [Int.add_comm, ← hz] at hzz
      have HZ := Lib.hid hzz
      have HL := Lib.hid (Nat.le_of_lt hlt)
      clear hz hzz h hlt
      go_wp2_with fail
      refine (HO.out).mono ?_
      rintro e w' ⟨rfl, rfl⟩
      go_wp2_with fail
      refine wp_region_facts_t 6 (fun i v w9 => match i with
        | 0 => v = .pointer (some ⟨w.heap.size + 1, 0, none⟩)
        | 1 => v = .bool (sg y)
        | 2 => v = v2
        | 3 => v = v1
        | 4 => DL w9 v 4294967296 (y.natAbs - x.natAbs)
        | 5 => v = .agg #[.bool (sg z), .string (mg z)]
        | _ => True) (by kernel_rfl) (by kernel_rfl) ?_ ?_ ?_
      · intro i v w1 w2 hb h
        match i, h with
        | 0, h => exact h
        | 1, h => exact h
        | 2, h => exact h
        | 3, h => exact h
        | 4, h => exact DL.below h hb
        | 5, h => exact h
        | k + 6, h => exact trivial
      · simp only [List.take_succ_cons, List.take_zero]; 
        refine KindSteps.cons ?_ ?_
        · intro xs w9 hw hd
          have g1 := g1.below hw; have g2 := g2.below hw; (first | (with_reducible have hw2 := World.plus_of_below ((World.below_plus _ _).trans (hw.mono (World.size_plus _ _))); obtain ⟨u, rfl⟩ := hw2) | (obtain ⟨u, rfl⟩ := World.plus_of_below hw))
          simp only [fill, Act.put, List.take_succ_cons, List.take_zero, List.drop_succ_cons, List.drop_zero, Nat.reduceAdd, Nat.zero_add, List.setIfInBounds_toArray, List.set_cons_succ, List.set_cons_zero, if_true, if_false, Nat.reduceEqDiff, reduceIte]
          go_wp2_with fail
          all_goals (first | exact Below.refl _ _ | exact ⟨by (repeat' (first | (with_reducible exact Below.refl _ _) | (with_reducible assumption) | (with_reducible refine Below.plus0 ?_ _) | (with_reducible refine Below.alloc0 ?_ _) | (with_reducible refine Below.plus ?_ ?_ _) | (with_reducible refine Below.alloc ?_ ?_ _) | (with_reducible refine Below.drew ?_) | (with_reducible refine Below.drewN ?_ _) | (simp [go_sem]; done) | (simp [go_sem]; omega))), _, rfl, rfl⟩ | exact ⟨rfl, by (repeat' (first | (with_reducible exact Below.refl _ _) | (with_reducible assumption) | (with_reducible refine Below.plus0 ?_ _) | (with_reducible refine Below.alloc0 ?_ _) | (with_reducible refine Below.plus ?_ ?_ _) | (with_reducible refine Below.alloc ?_ ?_ _) | (with_reducible refine Below.drew ?_) | (with_reducible refine Below.drewN ?_ _) | (simp [go_sem]; done) | (simp [go_sem]; omega))), _, rfl, rfl⟩ | exact ⟨by (repeat' (first | (with_reducible exact Below.refl _ _) | (with_reducible assumption) | (with_reducible refine Below.plus0 ?_ _) | (with_reducible refine Below.alloc0 ?_ _) | (with_reducible refine Below.plus ?_ ?_ _) | (with_reducible refine Below.alloc ?_ ?_ _) | (with_reducible refine Below.drew ?_) | (with_reducible refine Below.drewN ?_ _) | (simp [go_sem]; done) | (simp [go_sem]; omega))), rfl⟩ | (trace_state; fail))
        refine KindSteps.cons ?_ ?_
        · intro xs w9 hw hd
          have g1 := g1.below hw; have g2 := g2.below hw; (first | (with_reducible have hw2 := World.plus_of_below ((World.below_plus _ _).trans (hw.mono (World.size_plus _ _))); obtain ⟨u, rfl⟩ := hw2) | (obtain ⟨u, rfl⟩ := World.plus_of_below hw))
          simp only [fill, Act.put, List.take_succ_cons, List.take_zero, List.drop_succ_cons, List.drop_zero, Nat.reduceAdd, Nat.zero_add, List.setIfInBounds_toArray, List.set_cons_succ, List.set_cons_zero, if_true, if_false, Nat.reduceEqDiff, reduceIte]
          have f0 : (xs 0) = .pointer (some ⟨w.heap.size + 1, 0, none⟩) := hd 0 (by kernel_rfl); simp only [f0]
          go_wp2_with fail
          all_goals (first | exact Below.refl _ _ | exact ⟨by (repeat' (first | (with_reducible exact Below.refl _ _) | (with_reducible assumption) | (with_reducible refine Below.plus0 ?_ _) | (with_reducible refine Below.alloc0 ?_ _) | (with_reducible refine Below.plus ?_ ?_ _) | (with_reducible refine Below.alloc ?_ ?_ _) | (with_reducible refine Below.drew ?_) | (with_reducible refine Below.drewN ?_ _) | (simp [go_sem]; done) | (simp [go_sem]; omega))), _, rfl, rfl⟩ | exact ⟨rfl, by (repeat' (first | (with_reducible exact Below.refl _ _) | (with_reducible assumption) | (with_reducible refine Below.plus0 ?_ _) | (with_reducible refine Below.alloc0 ?_ _) | (with_reducible refine Below.plus ?_ ?_ _) | (with_reducible refine Below.alloc ?_ ?_ _) | (with_reducible refine Below.drew ?_) | (with_reducible refine Below.drewN ?_ _) | (simp [go_sem]; done) | (simp [go_sem]; omega))), _, rfl, rfl⟩ | exact ⟨by (repeat' (first | (with_reducible exact Below.refl _ _) | (with_reducible assumption) | (with_reducible refine Below.plus0 ?_ _) | (with_reducible refine Below.alloc0 ?_ _) | (with_reducible refine Below.plus ?_ ?_ _) | (with_reducible refine Below.alloc ?_ ?_ _) | (with_reducible refine Below.drew ?_) | (with_reducible refine Below.drewN ?_ _) | (simp [go_sem]; done) | (simp [go_sem]; omega))), rfl⟩ | (trace_state; fail))
        refine KindSteps.cons ?_ ?_
        · intro xs w9 hw hd
          have g1 := g1.below hw; have g2 := g2.below hw; (first | (with_reducible have hw2 := World.plus_of_below ((World.below_plus _ _).trans (hw.mono (World.size_plus _ _))); obtain ⟨u, rfl⟩ := hw2) | (obtain ⟨u, rfl⟩ := World.plus_of_below hw))
          simp only [fill, Act.put, List.take_succ_cons, List.take_zero, List.drop_succ_cons, List.drop_zero, Nat.reduceAdd, Nat.zero_add, List.setIfInBounds_toArray, List.set_cons_succ, List.set_cons_zero, if_true, if_false, Nat.reduceEqDiff, reduceIte]
          go_wp2_with fail
          all_goals (first | exact Below.refl _ _ | exact ⟨by (repeat' (first | (with_reducible exact Below.refl _ _) | (with_reducible assumption) | (with_reducible refine Below.plus0 ?_ _) | (with_reducible refine Below.alloc0 ?_ _) | (with_reducible refine Below.plus ?_ ?_ _) | (with_reducible refine Below.alloc ?_ ?_ _) | (with_reducible refine Below.drew ?_) | (with_reducible refine Below.drewN ?_ _) | (simp [go_sem]; done) | (simp [go_sem]; omega))), _, rfl, rfl⟩ | exact ⟨rfl, by (repeat' (first | (with_reducible exact Below.refl _ _) | (with_reducible assumption) | (with_reducible refine Below.plus0 ?_ _) | (with_reducible refine Below.alloc0 ?_ _) | (with_reducible refine Below.plus ?_ ?_ _) | (with_reducible refine Below.alloc ?_ ?_ _) | (with_reducible refine Below.drew ?_) | (with_reducible refine Below.drewN ?_ _) | (simp [go_sem]; done) | (simp [go_sem]; omega))), _, rfl, rfl⟩ | exact ⟨by (repeat' (first | (with_reducible exact Below.refl _ _) | (with_reducible assumption) | (with_reducible refine Below.plus0 ?_ _) | (with_reducible refine Below.alloc0 ?_ _) | (with_reducible refine Below.plus ?_ ?_ _) | (with_reducible refine Below.alloc ?_ ?_ _) | (with_reducible refine Below.drew ?_) | (with_reducible refine Below.drewN ?_ _) | (simp [go_sem]; done) | (simp [go_sem]; omega))), rfl⟩ | (trace_state; fail))
        refine KindSteps.cons ?_ ?_
        · intro xs w9 hw hd
          have g1 := g1.below hw; have g2 := g2.below hw; (first | (with_reducible have hw2 := World.plus_of_below ((World.below_plus _ _).trans (hw.mono (World.size_plus _ _))); obtain ⟨u, rfl⟩ := hw2) | (obtain ⟨u, rfl⟩ := World.plus_of_below hw))
          simp only [fill, Act.put, List.take_succ_cons, List.take_zero, List.drop_succ_cons, List.drop_zero, Nat.reduceAdd, Nat.zero_add, List.setIfInBounds_toArray, List.set_cons_succ, List.set_cons_zero, if_true, if_false, Nat.reduceEqDiff, reduceIte]
          go_wp2_with fail
          all_goals (first | exact Below.refl _ _ | exact ⟨by (repeat' (first | (with_reducible exact Below.refl _ _) | (with_reducible assumption) | (with_reducible refine Below.plus0 ?_ _) | (with_reducible refine Below.alloc0 ?_ _) | (with_reducible refine Below.plus ?_ ?_ _) | (with_reducible refine Below.alloc ?_ ?_ _) | (with_reducible refine Below.drew ?_) | (with_reducible refine Below.drewN ?_ _) | (simp [go_sem]; done) | (simp [go_sem]; omega))), _, rfl, rfl⟩ | exact ⟨rfl, by (repeat' (first | (with_reducible exact Below.refl _ _) | (with_reducible assumption) | (with_reducible refine Below.plus0 ?_ _) | (with_reducible refine Below.alloc0 ?_ _) | (with_reducible refine Below.plus ?_ ?_ _) | (with_reducible refine Below.alloc ?_ ?_ _) | (with_reducible refine Below.drew ?_) | (with_reducible refine Below.drewN ?_ _) | (simp [go_sem]; done) | (simp [go_sem]; omega))), _, rfl, rfl⟩ | exact ⟨by (repeat' (first | (with_reducible exact Below.refl _ _) | (with_reducible assumption) | (with_reducible refine Below.plus0 ?_ _) | (with_reducible refine Below.alloc0 ?_ _) | (with_reducible refine Below.plus ?_ ?_ _) | (with_reducible refine Below.alloc ?_ ?_ _) | (with_reducible refine Below.drew ?_) | (with_reducible refine Below.drewN ?_ _) | (simp [go_sem]; done) | (simp [go_sem]; omega))), rfl⟩ | (trace_state; fail))
        refine KindSteps.cons ?_ ?_
        · intro xs w9 hw hd
          have g1 := g1.below hw; have g2 := g2.below hw; (first | (with_reducible have hw2 := World.plus_of_below ((World.below_plus _ _).trans (hw.mono (World.size_plus _ _))); obtain ⟨u, rfl⟩ := hw2) | (obtain ⟨u, rfl⟩ := World.plus_of_below hw))
          simp only [fill, Act.put, List.take_succ_cons, List.take_zero, List.drop_succ_cons, List.drop_zero, Nat.reduceAdd, Nat.zero_add, List.setIfInBounds_toArray, List.set_cons_succ, List.set_cons_zero, if_true, if_false, Nat.reduceEqDiff, reduceIte]
          have f2 : (xs 2) = v2 := hd 2 (by kernel_rfl); simp only [f2]
          have f3 : (xs 3) = v1 := hd 3 (by kernel_rfl); simp only [f3]
          go_wp2_with (go_at_call 59; refine (difference_D _ _ _ _ _ _ _ _ g2 g1 (by omega) (by omega) HL.out rfl).mono ?_; rintro e w8 ⟨v, rfl, hdl, hb⟩)
          all_goals (first | exact Below.refl _ _ | exact hb | exact ⟨hb, _, rfl, hdl⟩ | exact ⟨rfl, hb, _, rfl, hdl⟩)
        refine KindSteps.cons ?_ ?_
        · intro xs w9 hw hd
          have g1 := g1.below hw; have g2 := g2.below hw; (first | (with_reducible have hw2 := World.plus_of_below ((World.below_plus _ _).trans (hw.mono (World.size_plus _ _))); obtain ⟨u, rfl⟩ := hw2) | (obtain ⟨u, rfl⟩ := World.plus_of_below hw))
          simp only [fill, Act.put, List.take_succ_cons, List.take_zero, List.drop_succ_cons, List.drop_zero, Nat.reduceAdd, Nat.zero_add, List.setIfInBounds_toArray, List.set_cons_succ, List.set_cons_zero, if_true, if_false, Nat.reduceEqDiff, reduceIte]
          have f1 : (xs 1) = .bool (sg y) := hd 1 (by kernel_rfl); simp only [f1]
          have f4 : DL _ (xs 4) 4294967296 (y.natAbs - x.natAbs) := hd 4 (by kernel_rfl)
          go_wp2_with (go_at_call 51; refine (number_D _ _ _ _ _ _ f4 (by omega) HZ.out).mono ?_; rintro e w8 ⟨rfl, hb⟩)
          all_goals (first | exact Below.refl _ _ | exact hb | exact ⟨hb, _, rfl, rfl⟩ | exact ⟨rfl, hb, _, rfl, rfl⟩)
        exact KindSteps.nil
      intro xs w9 hw hd
      have g1 := g1.below hw; have g2 := g2.below hw; (first | (with_reducible have hw2 := World.plus_of_below ((World.below_plus _ _).trans (hw.mono (World.size_plus _ _))); obtain ⟨u, rfl⟩ := hw2) | (obtain ⟨u, rfl⟩ := World.plus_of_below hw))
      simp only [fill, Act.put, List.take_succ_cons, List.take_zero, List.drop_succ_cons, List.drop_zero, Nat.reduceAdd, Nat.zero_add, List.setIfInBounds_toArray, List.set_cons_succ, List.set_cons_zero, if_true, if_false, Nat.reduceEqDiff, reduceIte]
      have f0 : (xs 0) = .pointer (some ⟨w.heap.size + 1, 0, none⟩) := hd 0 (by decide)
      simp only [f0]
      have f1 : (xs 1) = .bool (sg y) := hd 1 (by decide)
      simp only [f1]
      have f2 : (xs 2) = v2 := hd 2 (by decide)
      simp only [f2]
      have f3 : (xs 3) = v1 := hd 3 (by decide)
      simp only [f3]
      have f4 : DL _ (xs 4) 4294967296 (y.natAbs - x.natAbs) := hd 4 (by decide)
      have f5 : (xs 5) = .agg #[.bool (sg z), .string (mg z)] := hd 5 (by decide)
      simp only [f5]
      clear hd
      go_wp2_with fail
      refine bodyPost_ret (by simp [results, Tryd.results22, go_sem]; rfl) rfl ?_
      exact ⟨rfl, by (repeat' (first | (with_reducible exact Below.refl _ _) | (with_reducible assumption) | (with_reducible refine Below.plus0 ?_ _) | (with_reducible refine Below.alloc0 ?_ _) | (with_reducible refine Below.plus ?_ ?_ _) | (with_reducible refine Below.alloc ?_ ?_ _) | (with_reducible refine Below.drew ?_) | (with_reducible refine Below.drewN ?_ _) | (simp [go_sem]; done) | (simp [go_sem]; omega)))⟩
    · have hc : ¬ (cmpN x.natAbs y.natAbs < 0) := by rw [cmpN_neg_iff]; exact hlt
      have hzz := add_unlike x y h (by omega)
      rw [← hz] at hzz
      have HZ := Lib.hid hzz
      have HL := Lib.hid (Nat.le_of_not_lt hlt)
      clear hz hzz h hlt
      go_wp2_with fail
      refine (HO.out).mono ?_
      rintro e w' ⟨rfl, rfl⟩
      go_wp2_with fail
      refine wp_region_facts_t 6 (fun i v w9 => match i with
        | 0 => v = .pointer (some ⟨w.heap.size, 0, none⟩)
        | 1 => v = .bool (sg x)
        | 2 => v = v1
        | 3 => v = v2
        | 4 => DL w9 v 4294967296 (x.natAbs - y.natAbs)
        | 5 => v = .agg #[.bool (sg z), .string (mg z)]
        | _ => True) (by kernel_rfl) (by kernel_rfl) ?_ ?_ ?_
      · intro i v w1 w2 hb h
        match i, h with
        | 0, h => exact h
        | 1, h => exact h
        | 2, h => exact h
        | 3, h => exact h
        | 4, h => exact DL.below h hb
        | 5, h => exact h
        | k + 6, h => exact trivial
      · simp only [List.take_succ_cons, List.take_zero]; 
        refine KindSteps.cons ?_ ?_
        · intro xs w9 hw hd
          have g1 := g1.below hw; have g2 := g2.below hw; (first | (with_reducible have hw2 := World.plus_of_below ((World.below_plus _ _).trans (hw.mono (World.size_plus _ _))); obtain ⟨u, rfl⟩ := hw2) | (obtain ⟨u, rfl⟩ := World.plus_of_below hw))
          simp only [fill, Act.put, List.take_succ_cons, List.take_zero, List.drop_succ_cons, List.drop_zero, Nat.reduceAdd, Nat.zero_add, List.setIfInBounds_toArray, List.set_cons_succ, List.set_cons_zero, if_true, if_false, Nat.reduceEqDiff, reduceIte]
          go_wp2_with fail
          all_goals (first | exact Below.refl _ _ | exact ⟨by (repeat' (first | (with_reducible exact Below.refl _ _) | (with_reducible assumption) | (with_reducible refine Below.plus0 ?_ _) | (with_reducible refine Below.alloc0 ?_ _) | (with_reducible refine Below.plus ?_ ?_ _) | (with_reducible refine Below.alloc ?_ ?_ _) | (with_reducible refine Below.drew ?_) | (with_reducible refine Below.drewN ?_ _) | (simp [go_sem]; done) | (simp [go_sem]; omega))), _, rfl, rfl⟩ | exact ⟨rfl, by (repeat' (first | (with_reducible exact Below.refl _ _) | (with_reducible assumption) | (with_reducible refine Below.plus0 ?_ _) | (with_reducible refine Below.alloc0 ?_ _) | (with_reducible refine Below.plus ?_ ?_ _) | (with_reducible refine Below.alloc ?_ ?_ _) | (with_reducible refine Below.drew ?_) | (with_reducible refine Below.drewN ?_ _) | (simp [go_sem]; done) | (simp [go_sem]; omega))), _, rfl, rfl⟩ | exact ⟨by (repeat' (first | (with_reducible exact Below.refl _ _) | (with_reducible assumption) | (with_reducible refine Below.plus0 ?_ _) | (with_reducible refine Below.alloc0 ?_ _) | (with_reducible refine Below.plus ?_ ?_ _) | (with_reducible refine Below.alloc ?_ ?_ _) | (with_reducible refine Below.drew ?_) | (with_reducible refine Below.drewN ?_ _) | (simp [go_sem]; done) | (simp [go_sem]; omega))), rfl⟩ | (trace_state; fail))
        refine KindSteps.cons ?_ ?_
        · intro xs w9 hw hd
          have g1 := g1.below hw; have g2 := g2.below hw; (first | (with_reducible have hw2 := World.plus_of_below ((World.below_plus _ _).trans (hw.mono (World.size_plus _ _))); obtain ⟨u, rfl⟩ := hw2) | (obtain ⟨u, rfl⟩ := World.plus_of_below hw))
          simp only [fill, Act.put, List.take_succ_cons, List.take_zero, List.drop_succ_cons, List.drop_zero, Nat.reduceAdd, Nat.zero_add, List.setIfInBounds_toArray, List.set_cons_succ, List.set_cons_zero, if_true, if_false, Nat.reduceEqDiff, reduceIte]
          have f0 : (xs 0) = .pointer (some ⟨w.heap.size, 0, none⟩) := hd 0 (by kernel_rfl); simp only [f0]
          go_wp2_with fail
          all_goals (first | exact Below.refl _ _ | exact ⟨by (repeat' (first | (with_reducible exact Below.refl _ _) | (with_reducible assumption) | (with_reducible refine Below.plus0 ?_ _) | (with_reducible refine Below.alloc0 ?_ _) | (with_reducible refine Below.plus ?_ ?_ _) | (with_reducible refine Below.alloc ?_ ?_ _) | (with_reducible refine Below.drew ?_) | (with_reducible refine Below.drewN ?_ _) | (simp [go_sem]; done) | (simp [go_sem]; omega))), _, rfl, rfl⟩ | exact ⟨rfl, by (repeat' (first | (with_reducible exact Below.refl _ _) | (with_reducible assumption) | (with_reducible refine Below.plus0 ?_ _) | (with_reducible refine Below.alloc0 ?_ _) | (with_reducible refine Below.plus ?_ ?_ _) | (with_reducible refine Below.alloc ?_ ?_ _) | (with_reducible refine Below.drew ?_) | (with_reducible refine Below.drewN ?_ _) | (simp [go_sem]; done) | (simp [go_sem]; omega))), _, rfl, rfl⟩ | exact ⟨by (repeat' (first | (with_reducible exact Below.refl _ _) | (with_reducible assumption) | (with_reducible refine Below.plus0 ?_ _) | (with_reducible refine Below.alloc0 ?_ _) | (with_reducible refine Below.plus ?_ ?_ _) | (with_reducible refine Below.alloc ?_ ?_ _) | (with_reducible refine Below.drew ?_) | (with_reducible refine Below.drewN ?_ _) | (simp [go_sem]; done) | (simp [go_sem]; omega))), rfl⟩ | (trace_state; fail))
        refine KindSteps.cons ?_ ?_
        · intro xs w9 hw hd
          have g1 := g1.below hw; have g2 := g2.below hw; (first | (with_reducible have hw2 := World.plus_of_below ((World.below_plus _ _).trans (hw.mono (World.size_plus _ _))); obtain ⟨u, rfl⟩ := hw2) | (obtain ⟨u, rfl⟩ := World.plus_of_below hw))
          simp only [fill, Act.put, List.take_succ_cons, List.take_zero, List.drop_succ_cons, List.drop_zero, Nat.reduceAdd, Nat.zero_add, List.setIfInBounds_toArray, List.set_cons_succ, List.set_cons_zero, if_true, if_false, Nat.reduceEqDiff, reduceIte]
          go_wp2_with fail
          all_goals (first | exact Below.refl _ _ | exact ⟨by (repeat' (first | (with_reducible exact Below.refl _ _) | (with_reducible assumption) | (with_reducible refine Below.plus0 ?_ _) | (with_reducible refine Below.alloc0 ?_ _) | (with_reducible refine Below.plus ?_ ?_ _) | (with_reducible refine Below.alloc ?_ ?_ _) | (with_reducible refine Below.drew ?_) | (with_reducible refine Below.drewN ?_ _) | (simp [go_sem]; done) | (simp [go_sem]; omega))), _, rfl, rfl⟩ | exact ⟨rfl, by (repeat' (first | (with_reducible exact Below.refl _ _) | (with_reducible assumption) | (with_reducible refine Below.plus0 ?_ _) | (with_reducible refine Below.alloc0 ?_ _) | (with_reducible refine Below.plus ?_ ?_ _) | (with_reducible refine Below.alloc ?_ ?_ _) | (with_reducible refine Below.drew ?_) | (with_reducible refine Below.drewN ?_ _) | (simp [go_sem]; done) | (simp [go_sem]; omega))), _, rfl, rfl⟩ | exact ⟨by (repeat' (first | (with_reducible exact Below.refl _ _) | (with_reducible assumption) | (with_reducible refine Below.plus0 ?_ _) | (with_reducible refine Below.alloc0 ?_ _) | (with_reducible refine Below.plus ?_ ?_ _) | (with_reducible refine Below.alloc ?_ ?_ _) | (with_reducible refine Below.drew ?_) | (with_reducible refine Below.drewN ?_ _) | (simp [go_sem]; done) | (simp [go_sem]; omega))), rfl⟩ | (trace_state; fail))
        refine KindSteps.cons ?_ ?_
        · intro xs w9 hw hd
          have g1 := g1.below hw; have g2 := g2.below hw; (first | (with_reducible have hw2 := World.plus_of_below ((World.below_plus _ _).trans (hw.mono (World.size_plus _ _))); obtain ⟨u, rfl⟩ := hw2) | (obtain ⟨u, rfl⟩ := World.plus_of_below hw))
          simp only [fill, Act.put, List.take_succ_cons, List.take_zero, List.drop_succ_cons, List.drop_zero, Nat.reduceAdd, Nat.zero_add, List.setIfInBounds_toArray, List.set_cons_succ, List.set_cons_zero, if_true, if_false, Nat.reduceEqDiff, reduceIte]
          go_wp2_with fail
          all_goals (first | exact Below.refl _ _ | exact ⟨by (repeat' (first | (with_reducible exact Below.refl _ _) | (with_reducible assumption) | (with_reducible refine Below.plus0 ?_ _) | (with_reducible refine Below.alloc0 ?_ _) | (with_reducible refine Below.plus ?_ ?_ _) | (with_reducible refine Below.alloc ?_ ?_ _) | (with_reducible refine Below.drew ?_) | (with_reducible refine Below.drewN ?_ _) | (simp [go_sem]; done) | (simp [go_sem]; omega))), _, rfl, rfl⟩ | exact ⟨rfl, by (repeat' (first | (with_reducible exact Below.refl _ _) | (with_reducible assumption) | (with_reducible refine Below.plus0 ?_ _) | (with_reducible refine Below.alloc0 ?_ _) | (with_reducible refine Below.plus ?_ ?_ _) | (with_reducible refine Below.alloc ?_ ?_ _) | (with_reducible refine Below.drew ?_) | (with_reducible refine Below.drewN ?_ _) | (simp [go_sem]; done) | (simp [go_sem]; omega))), _, rfl, rfl⟩ | exact ⟨by (repeat' (first | (with_reducible exact Below.refl _ _) | (with_reducible assumption) | (with_reducible refine Below.plus0 ?_ _) | (with_reducible refine Below.alloc0 ?_ _) | (with_reducible refine Below.plus ?_ ?_ _) | (with_reducible refine Below.alloc ?_ ?_ _) | (with_reducible refine Below.drew ?_) | (with_reducible refine Below.drewN ?_ _) | (simp [go_sem]; done) | (simp [go_sem]; omega))), rfl⟩ | (trace_state; fail))
        refine KindSteps.cons ?_ ?_
        · intro xs w9 hw hd
          have g1 := g1.below hw; have g2 := g2.below hw; (first | (with_reducible have hw2 := World.plus_of_below ((World.below_plus _ _).trans (hw.mono (World.size_plus _ _))); obtain ⟨u, rfl⟩ := hw2) | (obtain ⟨u, rfl⟩ := World.plus_of_below hw))
          simp only [fill, Act.put, List.take_succ_cons, List.take_zero, List.drop_succ_cons, List.drop_zero, Nat.reduceAdd, Nat.zero_add, List.setIfInBounds_toArray, List.set_cons_succ, List.set_cons_zero, if_true, if_false, Nat.reduceEqDiff, reduceIte]
          have f2 : (xs 2) = v1 := hd 2 (by kernel_rfl); simp only [f2]
          have f3 : (xs 3) = v2 := hd 3 (by kernel_rfl); simp only [f3]
          go_wp2_with (go_at_call 59; refine (difference_D _ _ _ _ _ _ _ _ g1 g2 (by omega) (by omega) HL.out rfl).mono ?_; rintro e w8 ⟨v, rfl, hdl, hb⟩)
          all_goals (first | exact Below.refl _ _ | exact hb | exact ⟨hb, _, rfl, hdl⟩ | exact ⟨rfl, hb, _, rfl, hdl⟩)
        refine KindSteps.cons ?_ ?_
        · intro xs w9 hw hd
          have g1 := g1.below hw; have g2 := g2.below hw; (first | (with_reducible have hw2 := World.plus_of_below ((World.below_plus _ _).trans (hw.mono (World.size_plus _ _))); obtain ⟨u, rfl⟩ := hw2) | (obtain ⟨u, rfl⟩ := World.plus_of_below hw))
          simp only [fill, Act.put, List.take_succ_cons, List.take_zero, List.drop_succ_cons, List.drop_zero, Nat.reduceAdd, Nat.zero_add, List.setIfInBounds_toArray, List.set_cons_succ, List.set_cons_zero, if_true, if_false, Nat.reduceEqDiff, reduceIte]
          have f1 : (xs 1) = .bool (sg x) := hd 1 (by kernel_rfl); simp only [f1]
          have f4 : DL _ (xs 4) 4294967296 (x.natAbs - y.natAbs) := hd 4 (by kernel_rfl)
          go_wp2_with (go_at_call 51; refine (number_D _ _ _ _ _ _ f4 (by omega) HZ.out).mono ?_; rintro e w8 ⟨rfl, hb⟩)
          all_goals (first | exact Below.refl _ _ | exact hb | exact ⟨hb, _, rfl, rfl⟩ | exact ⟨rfl, hb, _, rfl, rfl⟩)
        exact KindSteps.nil
      intro xs w9 hw hd
      have g1 := g1.below hw; have g2 := g2.below hw; (first | (with_reducible have hw2 := World.plus_of_below ((World.below_plus _ _).trans (hw.mono (World.size_plus _ _))); obtain ⟨u, rfl⟩ := hw2) | (obtain ⟨u, rfl⟩ := World.plus_of_below hw))
      simp only [fill, Act.put, List.take_succ_cons, List.take_zero, List.drop_succ_cons, List.drop_zero, Nat.reduceAdd, Nat.zero_add, List.setIfInBounds_toArray, List.set_cons_succ, List.set_cons_zero, if_true, if_false, Nat.reduceEqDiff, reduceIte]
      have f0 : (xs 0) = .pointer (some ⟨w.heap.size, 0, none⟩) := hd 0 (by decide)
      simp only [f0]
      have f1 : (xs 1) = .bool (sg x) := hd 1 (by decide)
      simp only [f1]
      have f2 : (xs 2) = v1 := hd 2 (by decide)
      simp only [f2]
      have f3 : (xs 3) = v2 := hd 3 (by decide)
      simp only [f3]
      have f4 : DL _ (xs 4) 4294967296 (x.natAbs - y.natAbs) := hd 4 (by decide)
      have f5 : (xs 5) = .agg #[.bool (sg z), .string (mg z)] := hd 5 (by decide)
      simp only [f5]
      clear hd
      go_wp2_with fail
      refine bodyPost_ret (by simp [results, Tryd.results22, go_sem]; rfl) rfl ?_
      exact ⟨rfl, by (repeat' (first | (with_reducible exact Below.refl _ _) | (with_reducible assumption) | (with_reducible refine Below.plus0 ?_ _) | (with_reducible refine Below.alloc0 ?_ _) | (with_reducible refine Below.plus ?_ ?_ _) | (with_reducible refine Below.alloc ?_ ?_ _) | (with_reducible refine Below.drew ?_) | (with_reducible refine Below.drewN ?_ _) | (simp [go_sem]; done) | (simp [go_sem]; omega)))⟩
set_option maxRecDepth 100000 in
set_option maxHeartbeats 800000 in
theorem rSub_c (x y z : Int) (hz : z = x - y) (w : World) (hx : (mg x).size ≤ 4294967296) (hy : (mg y).size ≤ 4294967296) : Calls Tryd.prog 34 #[.agg #[.bool (sg x), .string (mg x)], .agg #[.bool (sg y), .string (mg y)]] w fun e w' => e = .returned (.agg #[.bool (sg z), .string (mg z)]) ∧ Below w.heap.size w w' := by
  obtain ⟨ny, hny⟩ : ∃ n, n = -y := ⟨_, rfl⟩
  have h1 := Lib.hid (fun w => rNegate_c y ny hny w)
  have hm : (mg ny).size ≤ 4294967296 := by unfold mg at *; rw [hny, Int.natAbs_neg]; exact hy
  have h2 := Lib.hid (fun w => rAdd_c x ny z (by rw [hz, hny]; omega) w hx hm)
  clear hm hny hz
  go_enter Tryd.func34, Tryd.ntmps34
  go_wp2_with fail
  ((first | (with_reducible refine wp_region_steady_plus_t 4 (by kernel_rfl) (by kernel_rfl) ?_) | refine wp_region_steady_t 4 (by kernel_rfl) (by kernel_rfl) ?_); simp only [List.take_succ_cons, List.take_zero, List.drop_succ_cons, List.drop_zero]; repeat go_big_quiet_step (first | (go_at_call 35; with_reducible refine Calls.steady (h1.out _)) | (go_at_call 22; with_reducible refine Calls.steady (h2.out _)))); (refine wpQuiet_nil ?_; rintro _ ⟨u, rfl⟩)
  go_wp2_with fail
  refine bodyPost_ret (by simp [results, Tryd.results34, go_sem]; rfl) rfl ?_
  exact ⟨rfl, by (repeat' (first | (with_reducible exact Below.refl _ _) | (with_reducible assumption) | (with_reducible refine Below.plus0 ?_ _) | (with_reducible refine Below.alloc0 ?_ _) | (with_reducible refine Below.plus ?_ ?_ _) | (with_reducible refine Below.alloc ?_ ?_ _) | (with_reducible refine Below.drew ?_) | (with_reducible refine Below.drewN ?_ _) | (simp [go_sem]; done) | (simp [go_sem]; omega)))⟩
end Go.Proofs.YtkoodpbcfdblbaaDoor
