import Derived.Test.YtkoodpbcfdblbaaDoorRefD
set_option linter.unusedSimpArgs false
set_option linter.unusedVariables false
namespace Go.Proofs.YtkoodpbcfdblbaaDoor
open Go Go.RowKit
open Vi
theorem d8_zero (i : Nat) : d8 0 i = 0 := by unfold d8; simp
/-- The carry of one row of a product behind k digits: o is what is there, t what is added (d times y, i digits up). -/
def my8 (o d y i k : Nat) : Nat := (o % 256 ^ (i + k) + 256 ^ i * (d * (y % 256 ^ k))) / 256 ^ (i + k)
theorem my8_zero (o d y i : Nat) : my8 o d y i 0 = 0 := by
  unfold my8
  rw [Nat.pow_zero, Nat.mod_one, Nat.mul_zero, Nat.mul_zero, Nat.add_zero, Nat.add_zero]
  exact Nat.div_eq_of_lt (Nat.mod_lt _ (Nat.pow_pos (by omega)))
theorem my8_lt (o d y i k : Nat) (hd : d < 256) : my8 o d y i k < 256 := by
  unfold my8
  have hM : 0 < 256 ^ (i + k) := Nat.pow_pos (by omega)
  rw [Nat.div_lt_iff_lt_mul hM]
  have h1 := Nat.mod_lt o hM
  have h2 := Nat.mod_lt y (Nat.pow_pos (n := k) (show 0 < 256 by omega))
  have h3 : 256 ^ i * (d * (y % 256 ^ k)) ≤ 256 ^ i * (255 * 256 ^ k) :=
    Nat.mul_le_mul_left _ (Nat.mul_le_mul (by omega) (by omega))
  have h4 : 256 ^ i * (255 * 256 ^ k) = 255 * 256 ^ (i + k) := by
    rw [Nat.mul_left_comm, Nat.pow_add]
  omega
theorem my8_step (o d y i k : Nat) : my8 o d y i k + d8 o (i + k) + d * d8 y k = d8 (o + 256 ^ i * (d * y)) (i + k) + 256 * my8 o d y i (k + 1) := by
  have hM : 0 < 256 ^ (i + k) := Nat.pow_pos (by omega)
  have e1 : o % 256 ^ (i + (k + 1)) + 256 ^ i * (d * (y % 256 ^ (k + 1))) = (o % 256 ^ (i + k) + 256 ^ i * (d * (y % 256 ^ k))) + 256 ^ (i + k) * (d8 o (i + k) + d * d8 y k) := by
    rw [← Nat.add_assoc i k 1, mod_succ8 o, mod_succ8 y, Nat.pow_add 256 i k]
    simp only [Nat.mul_add]
    rw [Nat.mul_left_comm d (256 ^ k), Nat.mul_assoc (256 ^ i)  (256 ^ k) (d * d8 y k)]
    omega
  have e2 : (o % 256 ^ (i + (k + 1)) + 256 ^ i * (d * (y % 256 ^ (k + 1)))) / 256 ^ (i + k) = my8 o d y i k + (d8 o (i + k) + d * d8 y k) := by
    rw [e1, Nat.add_mul_div_left _ _ hM]; rfl
  have e3 : my8 o d y i (k + 1) = (my8 o d y i k + (d8 o (i + k) + d * d8 y k)) / 256 := by
    rw [← e2, Nat.div_div_eq_div_mul, ← Nat.pow_succ]; rfl
  have e4 : d8 (o + 256 ^ i * (d * y)) (i + k) = (my8 o d y i k + (d8 o (i + k) + d * d8 y k)) % 256 := by
    rw [← e2]
    unfold d8
    rw [← Nat.mod_mul_right_div_self, ← Nat.mod_mul_right_div_self (_ + _ : Nat), ← Nat.pow_succ]
    congr 1
    show _ = (o % 256 ^ (i + k + 1) + 256 ^ i * (d * (y % 256 ^ (k + 1)))) % 256 ^ (i + k + 1)
    have e5 : 256 ^ i * (d * y) = 256 ^ i * (d * (y % 256 ^ (k + 1))) + 256 ^ (i + k + 1) * (d * (y / 256 ^ (k + 1))) := by
      rw [Nat.add_assoc, Nat.pow_add 256 i (k + 1), Nat.mul_assoc, ← Nat.mul_add]
      congr 1
      rw [Nat.mul_left_comm, ← Nat.mul_add, Nat.mod_add_div]
    rw [e5, ← Nat.add_assoc, Nat.add_mul_mod_self_left, Nat.mod_add_mod]
  rw [e3, e4, Nat.mod_add_div]; omega
theorem d8_add_low (o i z p : Nat) (h : p < i) : d8 (o + 256 ^ i * z) p = d8 o p := by
  unfold d8
  rw [← Nat.mod_mul_right_div_self, ← Nat.mod_mul_right_div_self, ← Nat.pow_succ]
  congr 1
  obtain ⟨m, rfl⟩ : ∃ m, i = (p + 1) + m := ⟨i - (p + 1), by omega⟩
  rw [Nat.pow_add, Nat.mul_assoc, Nat.add_mul_mod_self_left]
/-- The product's digits below place i + k, above them what was there. -/
def mulFn8 (o t i k : Nat) : Nat → Nat := fun p => if p < i + k then d8 t p else d8 o p
theorem mulFn8_zero (o z i n : Nat) : arr .i64 (d8 o) n = arr .i64 (mulFn8 o (o + 256 ^ i * z) i 0) n := by
  apply arr_congr; intro p _; unfold mulFn8
  split
  · rw [d8_add_low _ _ _ _ (by omega)]
  · rfl
theorem mulFn8_at (o t i k : Nat) : mulFn8 o t i k (i + k) = d8 o (i + k) := by unfold mulFn8; rw [if_neg (by omega)]
theorem mulFn8_succ (o t i k : Nat) : upd (mulFn8 o t i k) (i + k) (d8 t (i + k)) = mulFn8 o t i (k + 1) := by
  funext p
  unfold upd mulFn8
  by_cases h : p = i + k
  · subst h; rw [if_pos rfl, if_pos (by omega)]
  · rw [if_neg h]
    by_cases h2 : p < i + k
    · rw [if_pos h2, if_pos (by omega)]
    · rw [if_neg h2, if_neg (by omega)]
theorem row_lt8 (o d y i n : Nat) (ho : o < 256 ^ (i + n)) (hy : y < 256 ^ n) (hd : d < 256) : o + 256 ^ i * (d * y) < 256 ^ (i + n + 1) := by
  have h3 : 256 ^ i * (d * y) ≤ 256 ^ i * (255 * 256 ^ n) :=
    Nat.mul_le_mul_left _ (Nat.mul_le_mul (by omega) (by omega))
  have h4 : 256 ^ i * (255 * 256 ^ n) = 255 * 256 ^ (i + n) := by
    rw [Nat.mul_left_comm, Nat.pow_add]
  rw [Nat.pow_succ]
  omega
theorem my8_last (o d y i n : Nat) (ho : o < 256 ^ (i + n)) (hy : y < 256 ^ n) (hd : d < 256) : my8 o d y i n = d8 (o + 256 ^ i * (d * y)) (i + n) := by
  have h := row_lt8 o d y i n ho hy hd
  unfold my8 d8
  rw [Nat.mod_eq_of_lt ho, Nat.mod_eq_of_lt hy]
  symm
  apply Nat.mod_eq_of_lt
  rw [Nat.div_lt_iff_lt_mul (Nat.pow_pos (by omega)), show 256 * 256 ^ (i + n) = 256 ^ (i + n + 1) by rw [Nat.pow_succ, Nat.mul_comm]]
  exact h
theorem mulFn8_all (o d y i n m : Nat) (ho : o < 256 ^ (i + n)) (hy : y < 256 ^ n) (hd : d < 256) :
    arr .i64 (upd (mulFn8 o (o + 256 ^ i * (d * y)) i n) (i + n) (my8 o d y i n)) m = arr .i64 (d8 (o + 256 ^ i * (d * y))) m := by
  have h := row_lt8 o d y i n ho hy hd
  apply arr_congr
  intro p _
  unfold upd mulFn8
  by_cases h1 : p = i + n
  · subst h1; rw [if_pos rfl, my8_last o d y i n ho hy hd]
  · rw [if_neg h1]
    by_cases h2 : p < i + n
    · rw [if_pos h2]
    · rw [if_neg h2, d8_big o (i + n) p ho (by omega), d8_big _ (i + n + 1) p h (by omega)]
theorem part_mul8 (x y i : Nat) : x % 256 ^ i * y + 256 ^ i * (d8 x i * y) = x % 256 ^ (i + 1) * y := by
  rw [mod_succ8, Nat.add_mul, Nat.mul_assoc]
theorem zero_row8 (n x y : Nat) : arr .i64 (fun _ => 0) n = arr .i64 (d8 (x % 256 ^ 0 * y)) n := by
  apply arr_congr; intro i _; rw [Nat.pow_zero, Nat.mod_one, Nat.zero_mul, d8_zero]
theorem prod_lt8 (x y nx ny : Nat) (hx : x < 256 ^ nx) (hy : y < 256 ^ ny) : x * y < 256 ^ (nx + ny + 1) := by
  have h1 : x * y ≤ 256 ^ nx * 256 ^ ny := Nat.mul_le_mul (by omega) (by omega)
  rw [← Nat.pow_add] at h1
  have h2 : 0 < 256 ^ (nx + ny) := Nat.pow_pos (by omega)
  rw [Nat.pow_succ]; omega
theorem part_lt8 (x y i n : Nat) (hy : y < 256 ^ n) : x % 256 ^ i * y < 256 ^ (i + n) := by
  rw [Nat.pow_add]
  have h1 := Nat.mod_lt x (Nat.pow_pos (n := i) (show 0 < 256 by omega))
  calc x % 256 ^ i * y ≤ x % 256 ^ i * 256 ^ n := Nat.mul_le_mul_left _ (by omega)
    _ < 256 ^ i * 256 ^ n := Nat.mul_lt_mul_of_pos_right h1 (Nat.pow_pos (by omega))
theorem makeInt (n : Nat) (w : World) (h : n ≤ 8589934592) : (Instr.makeSlice 54 (.int .i64 (n : Int)) (.int .i64 (n : Int))).run Tryd.prog w = .ok (.slice (some ⟨w.heap.size, 0, none⟩) n n) (w.alloc (.cells (arr .i64 (fun _ => 0) n) 3)) := by
  obtain ⟨i0, hi, hz0, hz1, hz2⟩ := info_parts info3
  have hr := run_make (P := Tryd.prog) w 54 3 i0 (.int .i64 0) (by kernel_rfl) hi hz0 .i64 .i64 n n (by omega) (Int.le_refl _) (by rw [hz2]; omega) (by omega)
  rw [hr, hz1]
  simp only [Int.toNat_natCast, Nat.mul_one, Value.cells]
  rw [madeCells_arr]
theorem makeIntT (n m : Nat) (w : World) (h : n + m ≤ 8589934591) : (Instr.makeSlice 54 (.int .i64 ((n : Int) + (m : Int) + 1)) (.int .i64 ((n : Int) + (m : Int) + 1))).run Tryd.prog w = .ok (.slice (some ⟨w.heap.size, 0, none⟩) (n + m + 1) (n + m + 1)) (w.alloc (.cells (arr .i64 (fun _ => 0) (n + m + 1)) 3)) :=
  makeInt (n + m + 1) w (by omega)
theorem mulFn8_end (o d y i n m : Nat) (ho : o < 256 ^ (i + n)) (hy : y < 256 ^ n) (hd : d < 256) :
    arr .i64 (mulFn8 o (o + 256 ^ i * (d * y)) i (n + 1)) m = arr .i64 (d8 (o + 256 ^ i * (d * y))) m := by
  have h := row_lt8 o d y i n ho hy hd
  apply arr_congr
  intro p _
  unfold mulFn8
  by_cases h2 : p < i + (n + 1)
  · rw [if_pos h2]
  · rw [if_neg h2, d8_big o (i + n) p ho (by omega), d8_big _ (i + n + 1) p h (by omega)]
theorem Dl.of_arr (g N c z : Nat) (w : World) (h : ∀ i, i < N → w.cell? ⟨g, i, none⟩ = some (.int .i64 (d8 z i : Nat))) (hg : g < w.heap.size) (hz : z < 256 ^ N) (hc : N ≤ c) (hm : c ≤ maxLen) : Dl w (.slice (some ⟨g, 0, none⟩) N c) N z :=
  ⟨hz, .inr ⟨g, c, rfl, hc, hm, hg, h⟩⟩
set_option maxRecDepth 100000 in
set_option maxHeartbeats 1600000 in
theorem rproduct_c (v1 v2 : Value) (n m x y : Nat) (w : World) (h1 : Dl w v1 n x) (h2 : Dl w v2 m y) (hn : n ≤ 4294967296) (hm : m ≤ 4294967290) : Calls Tryd.prog 52 #[v1, v2] w fun e w' => ∃ v, e = .returned v ∧ Dl w' v (n + m + 1) (x * y) ∧ Below w.heap.size w w' := by
  obtain ⟨a1, c1, e1⟩ := h1.lenForm
  obtain ⟨a2, c2, e2⟩ := h2.lenForm
  subst e1
  subst e2
  have A1 : Hid (∀ (i : Nat), i < n → ∃ g, a1 = some ⟨g, 0, none⟩ ∧ n ≤ c1 ∧ g < w.heap.size ∧ w.cell? ⟨g, i, none⟩ = some (.int .i64 (d8 x i : Nat))) := Lib.hid fun i hlt => by
    rcases h1.2 with ⟨e, rfl⟩ | ⟨g, c, e, hc, _, hg, hcell⟩
    · exact absurd hlt (by omega)
    · cases e
      exact ⟨g, rfl, hc, hg, hcell i hlt⟩
  have A2 : Hid (∀ (i : Nat) (o : Obj) (u : World), Calls Tryd.prog 76 #[.slice a2 m c2, .int .i64 (i : Int)] ((w.alloc o).plus u) fun e w' => e = .returned (.int .i64 (d8 y i : Nat)) ∧ (w.alloc o).plus u = w') := Lib.hid fun i o u => at_c _ m y i _ (h2.below (((Below.refl _ _).alloc (Nat.le_refl _) o).trans ((World.below_plus _ _).mono (by simp))))
  have HXL := Lib.hid h1.1
  have HYL := Lib.hid h2.1
  have HT := Lib.hid (prod_lt8 x y n m h1.1 h2.1)
  have HMK := Lib.hid (makeIntT n m · (by omega))
  clear h1 h2
  go_enter Tryd.func52, Tryd.ntmps52
  go_wp2_with fail
  have hmk := HMK.out
  simp only [hmk]
  clear hmk
  go_wp2_with fail
  have H0 := Lib.hid (zero_row8 (n + m + 1) x y)
  go_loopw [6] (fun v wr => ∃ (i : Nat) (u : World), i ≤ n ∧ v = .int .i64 i ∧ wr = (w.alloc (.cells (arr .i64 (d8 (x % 256 ^ i * y)) (n + m + 1)) 3)).plus u) (fun v _ => n - (intOf v).toNat)
  case atStart =>
    obtain ⟨u, hu⟩ := World.plus_of_below (Below.refl (w.alloc (.cells (arr .i64 (fun _ => 0) (n + m + 1)) 3)).heap.size (w.alloc (.cells (arr .i64 (fun _ => 0) (n + m + 1)) 3)))
    exact ⟨0, u, Nat.zero_le _, rfl, by rw [← H0.out]; exact hu⟩
  case round =>
    obtain ⟨i, u0, hi, rfl, rfl⟩ := hrel
    by_cases hlt : i < n
    · obtain ⟨g, rfl, hcap, hg, hgx⟩ := A1.out i hlt
      have hdx1 := d8_lt x i
      have hli : (i : Int) < (n : Int) := by omega
      obtain ⟨o, ho⟩ : ∃ o, o = x % 256 ^ i * y := ⟨_, rfl⟩
      have hol := part_lt8 x y i m HYL.out
      rw [← ho] at hol ⊢
      have HOL := Lib.hid hol
      have HO := Lib.hid ho
      clear ho hol
      obtain ⟨d, hd⟩ : ∃ d, d = d8 x i := ⟨_, rfl⟩
      rw [← hd] at hdx1 hgx
      have HD := Lib.hid hd
      clear hd
      obtain ⟨t, ht⟩ : ∃ t, t = o + 256 ^ i * (d * y) := ⟨_, rfl⟩
      have HTT := Lib.hid ht
      have HZ := Lib.hid (mulFn8_zero o (d * y) i (n + m + 1))
      rw [← ht] at HZ
      clear ht
      have HM0 := Lib.hid (my8_zero o d y i)
      go_wp2_with fail
      go_loopw [7, 8] (fun c v wr => ∃ (k : Nat) (u : World), k ≤ m + 1 ∧ v = .int .i64 k ∧ c = .int .i64 (my8 o d y i k : Int) ∧ wr = (w.alloc (.cells (arr .i64 (mulFn8 o t i k) (n + m + 1)) 3)).plus u) (fun _ v _ => m + 1 - (intOf v).toNat)
      case atStart => exact ⟨0, u0, Nat.zero_le _, rfl, by rw [HM0.out]; rfl, by rw [HZ.out]⟩
      case round =>
        obtain ⟨k, u1, hk, rfl, rfl, rfl⟩ := hrel
        by_cases hlt2 : k ≤ m
        · have hgo := arr_get .i64 (mulFn8 o t i k) (n + m + 1) (i + k) (by omega)
          rw [mulFn8_at] at hgo
          have hst := my8_step o d y i k
          rw [← HTT.out] at hst
          have hc1 := my8_lt o d y i k hdx1
          have ho1 := d8_lt o (i + k)
          have hy1 := d8_lt y k
          have ht1 := d8_lt t (i + k)
          obtain ⟨yk, hyk⟩ : ∃ z, z = d8 y k := ⟨_, rfl⟩
          have hp1 : d * d8 y k ≤ 255 * 255 := Nat.mul_le_mul (by omega) (by omega)
          obtain ⟨P, hP⟩ : ∃ P, P = d * d8 y k := ⟨_, rfl⟩
          rw [← hP] at hst hp1
          have HB2 := Lib.hid (A2.out k (.cells (arr .i64 (mulFn8 o t i k) (n + m + 1)) 3))
          rw [← hyk] at hP hy1 HB2
          have e1 : IntKind.i64.wrap ((d : Int) * (yk : Int)) = (P : Int) := by
            rw [← Int.natCast_mul, ← hP]; exact IntWalk.i64_in _ (by omega)
          clear hP hyk
          obtain ⟨ok, hok⟩ : ∃ z, z = d8 o (i + k) := ⟨_, rfl⟩
          rw [← hok] at hgo hst ho1
          obtain ⟨ck, hck⟩ : ∃ z, z = my8 o d y i k := ⟨_, rfl⟩
          rw [← hck] at hst hc1 ⊢
          obtain ⟨R, hR⟩ : ∃ R, R = ok + P + ck := ⟨_, rfl⟩
          have hRl : R < 9223372036854775807 := by omega
          have e3 : (ok : Int) + (P : Int) + (ck : Int) = (R : Int) := by omega
          have hR1 : (R : Int).tmod 256 = (d8 t (i + k) : Int) := by rw [Int.tmod_eq_emod_of_nonneg (by omega)]; omega
          have hR2 : (R : Int).tdiv 256 = (my8 o d y i (k + 1) : Int) := by rw [Int.tdiv_eq_ediv_of_nonneg (by omega)]; omega
          have hR3 : IntKind.i64.wrap (my8 o d y i (k + 1) : Int) = (my8 o d y i (k + 1) : Int) := IntWalk.i64_in _ (by omega)
          have hR4 : wrap64 (my8 o d y i (k + 1) : Int) = (my8 o d y i (k + 1) : Int) := by unfold wrap64; omega
          have HS3 := Lib.hid (mulFn8_succ o t i k)
          have e4 : IntKind.i64.wrap ((i : Int) + (k : Int)) = (i : Int) + (k : Int) := IntWalk.i64_in _ (by omega)
          have e5 : (0 : Int) ≤ (i : Int) + (k : Int) := by omega
          have e6 : ((i : Int) + (k : Int)).toNat = i + k := by omega
          have e7 : (i : Int) + (k : Int) < (n : Int) + (m : Int) + 1 := by omega
          have hkm : (k : Int) ≤ (m : Int) := by omega
          clear hst hR ht1 hp1 hck hok
          go_wp2_with fail
          ((first | (with_reducible refine wp_region_steady_plus (by kernel_rfl) (by kernel_rfl) ?_) | refine wp_region_steady (by kernel_rfl) (by kernel_rfl) ?_); repeat go_big_quiet_step (first | (go_at_call 76; refine Calls.same_steady (HB2.out _)))); (refine wpQuiet_nil ?_; rintro _ ⟨u, rfl⟩)
          go_wp2_with fail
          go_roundw
          case rel => exact ⟨k + 1, u, by omega, by go_num, rfl, by first | rw [arr_set, HS3.out] | simp only [arr_set, HS3.out]⟩
          case measure => first | (simp [intOf]; done) | (simp [intOf]; omega)
        · have e : k = m + 1 := by omega
          subst e
          have HF := Lib.hid (mulFn8_end o d y i m (n + m + 1) HOL.out HYL.out hdx1)
          have HN := Lib.hid (part_mul8 x y i)
          go_wp2_with fail
          go_roundw
          case rel => exact ⟨i + 1, u1, by omega, by go_num, by rw [HTT.out, HF.out, HO.out, HD.out, HN.out]⟩
          case measure => first | (simp [intOf]; done) | (simp [intOf]; omega)
    · have e : i = n := by omega
      subst e
      have HA := Lib.hid (Nat.mod_eq_of_lt HXL.out)
      go_wp2_with fail
      rw [HA.out]
      go_ret
      refine ⟨_, rfl, Dl.of_arr _ _ _ _ _ (fun j hj => ?_) ?_ HT.out (Nat.le_refl _) (by unfold maxLen; omega), by (repeat' (first | (with_reducible exact Below.refl _ _) | (with_reducible assumption) | (with_reducible refine Below.plus0 ?_ _) | (with_reducible refine Below.alloc0 ?_ _) | (with_reducible refine Below.plus ?_ ?_ _) | (with_reducible refine Below.alloc ?_ ?_ _) | (with_reducible refine Below.drew ?_) | (with_reducible refine Below.drewN ?_ _) | (simp [go_sem]; done) | (simp [go_sem]; omega)))⟩
      · simp [go_sem, arr_get _ _ _ _ hj]
      · simp [go_sem]
theorem product_D (v1 v2 : Value) (M x y : Nat) (w : World) (h1 : DL w v1 M x) (h2 : DL w v2 M y) (hM : M ≤ 4294967290) : Calls Tryd.prog 52 #[v1, v2] w fun e w' => ∃ v, e = .returned v ∧ DL w' v (M + M + 1) (x * y) ∧ Below w.heap.size w w' := by
  obtain ⟨n, hn, h1⟩ := h1
  obtain ⟨m, hm, h2⟩ := h2
  exact (rproduct_c v1 v2 n m x y w h1 h2 (by omega) (by omega)).mono fun _ _ ⟨v, h1, h3, h4⟩ => ⟨v, h1, ⟨_, by omega, h3⟩, h4⟩
theorem mul_signed (x y : Int) : x * y = if (sg x != sg y) then -((x.natAbs * y.natAbs : Nat) : Int) else ((x.natAbs * y.natAbs : Nat) : Int) := by
  rcases Int.natAbs_eq x with hx | hx <;> rcases Int.natAbs_eq y with hy | hy <;> by_cases h1 : x < 0 <;> by_cases h2 : y < 0
  all_goals
    first | rw [sg_true x h1] | rw [sg_false x (by omega)]
    first | rw [sg_true y h2] | rw [sg_false y (by omega)]
    simp only [bne_self_eq_false, Bool.true_bne, Bool.bne_true, Bool.not_true, Bool.not_false, if_true, if_false, Bool.false_bne, Bool.bne_false, Bool.false_eq_true]
  all_goals
    generalize x.natAbs = m at *
    generalize y.natAbs = n at *
    subst hx
    subst hy
    simp only [Int.natCast_mul, Int.neg_mul, Int.mul_neg, Int.neg_neg]
    first | done | skip
  all_goals
    first
      | done
      | (have e : m = 0 := by omega
         subst e; simp)
      | (have e : n = 0 := by omega
         subst e; simp)
set_option maxRecDepth 100000 in
set_option maxHeartbeats 800000 in
theorem rMul_c (x y z : Int) (hz : z = x * y) (w : World) (hx : (mg x).size ≤ 4294967290) (hy : (mg y).size ≤ 4294967290) : Calls Tryd.prog 18 #[.agg #[.bool (sg x), .string (mg x)], .agg #[.bool (sg y), .string (mg y)]] w fun e w' => e = .returned (.agg #[.bool (sg z), .string (mg z)]) ∧ Below w.heap.size w w' := by
  have h3 := Lib.hid (fun w => dig_D x w 4294967290 hx (by omega))
  have h4 := Lib.hid (fun w => dig_D y w 4294967290 hy (by omega))
  have HZ := Lib.hid (hz.trans (mul_signed x y))
  obtain ⟨b, hb⟩ : ∃ b, b = (sg x != sg y) := ⟨_, rfl⟩
  rw [← hb] at HZ
  have HB : (sg x == sg y) = !b := by rw [hb]; simp [bne]
  clear hz hb
  go_enter Tryd.func18, Tryd.ntmps18
  go_wp2_with fail
  refine wp_region_facts_t 11 (fun i v w9 => match i with
    | 0 => v = .pointer (some ⟨w.heap.size, 0, none⟩)
    | 1 => v = .bool (sg x)
    | 2 => v = .pointer (some ⟨w.heap.size + 1, 0, none⟩)
    | 3 => v = .bool (sg y)
    | 4 => v = .bool b
    | 5 => v = .agg #[.bool (sg x), .string (mg x)]
    | 6 => DL w9 v 4294967290 x.natAbs
    | 7 => v = .agg #[.bool (sg y), .string (mg y)]
    | 8 => DL w9 v 4294967290 y.natAbs
    | 9 => DL w9 v 8589934581 (x.natAbs * y.natAbs)
    | 10 => v = .agg #[.bool (sg z), .string (mg z)]
    | _ => True) (by kernel_rfl) (by kernel_rfl) ?_ ?_ ?_
  · intro i v w1 w2 hb h
    match i, h with
    | 0, h => exact h
    | 1, h => exact h
    | 2, h => exact h
    | 3, h => exact h
    | 4, h => exact h
    | 5, h => exact h
    | 6, h => exact DL.below h hb
    | 7, h => exact h
    | 8, h => exact DL.below h hb
    | 9, h => exact DL.below h hb
    | 10, h => exact h
    | k + 11, h => exact trivial
  · simp only [List.take_succ_cons, List.take_zero]; 
    refine KindSteps.cons ?_ ?_
    · intro xs w9 hw hd
      (first | (with_reducible have hw2 := World.plus_of_below ((World.below_plus _ _).trans (hw.mono (World.size_plus _ _))); obtain ⟨u, rfl⟩ := hw2) | (obtain ⟨u, rfl⟩ := World.plus_of_below hw))
      simp only [fill, Act.put, List.take_succ_cons, List.take_zero, List.drop_succ_cons, List.drop_zero, Nat.reduceAdd, Nat.zero_add, List.setIfInBounds_toArray, List.set_cons_succ, List.set_cons_zero, if_true, if_false, Nat.reduceEqDiff, reduceIte]
      go_wp2_with fail
      all_goals (first | exact Below.refl _ _ | exact ⟨by (repeat' (first | (with_reducible exact Below.refl _ _) | (with_reducible assumption) | (with_reducible refine Below.plus0 ?_ _) | (with_reducible refine Below.alloc0 ?_ _) | (with_reducible refine Below.plus ?_ ?_ _) | (with_reducible refine Below.alloc ?_ ?_ _) | (with_reducible refine Below.drew ?_) | (with_reducible refine Below.drewN ?_ _) | (simp [go_sem]; done) | (simp [go_sem]; omega))), _, rfl, rfl⟩ | exact ⟨rfl, by (repeat' (first | (with_reducible exact Below.refl _ _) | (with_reducible assumption) | (with_reducible refine Below.plus0 ?_ _) | (with_reducible refine Below.alloc0 ?_ _) | (with_reducible refine Below.plus ?_ ?_ _) | (with_reducible refine Below.alloc ?_ ?_ _) | (with_reducible refine Below.drew ?_) | (with_reducible refine Below.drewN ?_ _) | (simp [go_sem]; done) | (simp [go_sem]; omega))), _, rfl, rfl⟩ | exact ⟨by (repeat' (first | (with_reducible exact Below.refl _ _) | (with_reducible assumption) | (with_reducible refine Below.plus0 ?_ _) | (with_reducible refine Below.alloc0 ?_ _) | (with_reducible refine Below.plus ?_ ?_ _) | (with_reducible refine Below.alloc ?_ ?_ _) | (with_reducible refine Below.drew ?_) | (with_reducible refine Below.drewN ?_ _) | (simp [go_sem]; done) | (simp [go_sem]; omega))), rfl⟩ | (trace_state; fail))
    refine KindSteps.cons ?_ ?_
    · intro xs w9 hw hd
      (first | (with_reducible have hw2 := World.plus_of_below ((World.below_plus _ _).trans (hw.mono (World.size_plus _ _))); obtain ⟨u, rfl⟩ := hw2) | (obtain ⟨u, rfl⟩ := World.plus_of_below hw))
      simp only [fill, Act.put, List.take_succ_cons, List.take_zero, List.drop_succ_cons, List.drop_zero, Nat.reduceAdd, Nat.zero_add, List.setIfInBounds_toArray, List.set_cons_succ, List.set_cons_zero, if_true, if_false, Nat.reduceEqDiff, reduceIte]
      have f0 : (xs 0) = .pointer (some ⟨w.heap.size, 0, none⟩) := hd 0 (by kernel_rfl); simp only [f0]
      go_wp2_with fail
      all_goals (first | exact Below.refl _ _ | exact ⟨by (repeat' (first | (with_reducible exact Below.refl _ _) | (with_reducible assumption) | (with_reducible refine Below.plus0 ?_ _) | (with_reducible refine Below.alloc0 ?_ _) | (with_reducible refine Below.plus ?_ ?_ _) | (with_reducible refine Below.alloc ?_ ?_ _) | (with_reducible refine Below.drew ?_) | (with_reducible refine Below.drewN ?_ _) | (simp [go_sem]; done) | (simp [go_sem]; omega))), _, rfl, rfl⟩ | exact ⟨rfl, by (repeat' (first | (with_reducible exact Below.refl _ _) | (with_reducible assumption) | (with_reducible refine Below.plus0 ?_ _) | (with_reducible refine Below.alloc0 ?_ _) | (with_reducible refine Below.plus ?_ ?_ _) | (with_reducible refine Below.alloc ?_ ?_ _) | (with_reducible refine Below.drew ?_) | (with_reducible refine Below.drewN ?_ _) | (simp [go_sem]; done) | (simp [go_sem]; omega))), _, rfl, rfl⟩ | exact ⟨by (repeat' (first | (with_reducible exact Below.refl _ _) | (with_reducible assumption) | (with_reducible refine Below.plus0 ?_ _) | (with_reducible refine Below.alloc0 ?_ _) | (with_reducible refine Below.plus ?_ ?_ _) | (with_reducible refine Below.alloc ?_ ?_ _) | (with_reducible refine Below.drew ?_) | (with_reducible refine Below.drewN ?_ _) | (simp [go_sem]; done) | (simp [go_sem]; omega))), rfl⟩ | (trace_state; fail))
    refine KindSteps.cons ?_ ?_
    · intro xs w9 hw hd
      (first | (with_reducible have hw2 := World.plus_of_below ((World.below_plus _ _).trans (hw.mono (World.size_plus _ _))); obtain ⟨u, rfl⟩ := hw2) | (obtain ⟨u, rfl⟩ := World.plus_of_below hw))
      simp only [fill, Act.put, List.take_succ_cons, List.take_zero, List.drop_succ_cons, List.drop_zero, Nat.reduceAdd, Nat.zero_add, List.setIfInBounds_toArray, List.set_cons_succ, List.set_cons_zero, if_true, if_false, Nat.reduceEqDiff, reduceIte]
      go_wp2_with fail
      all_goals (first | exact Below.refl _ _ | exact ⟨by (repeat' (first | (with_reducible exact Below.refl _ _) | (with_reducible assumption) | (with_reducible refine Below.plus0 ?_ _) | (with_reducible refine Below.alloc0 ?_ _) | (with_reducible refine Below.plus ?_ ?_ _) | (with_reducible refine Below.alloc ?_ ?_ _) | (with_reducible refine Below.drew ?_) | (with_reducible refine Below.drewN ?_ _) | (simp [go_sem]; done) | (simp [go_sem]; omega))), _, rfl, rfl⟩ | exact ⟨rfl, by (repeat' (first | (with_reducible exact Below.refl _ _) | (with_reducible assumption) | (with_reducible refine Below.plus0 ?_ _) | (with_reducible refine Below.alloc0 ?_ _) | (with_reducible refine Below.plus ?_ ?_ _) | (with_reducible refine Below.alloc ?_ ?_ _) | (with_reducible refine Below.drew ?_) | (with_reducible refine Below.drewN ?_ _) | (simp [go_sem]; done) | (simp [go_sem]; omega))), _, rfl, rfl⟩ | exact ⟨by (repeat' (first | (with_reducible exact Below.refl _ _) | (with_reducible assumption) | (with_reducible refine Below.plus0 ?_ _) | (with_reducible refine Below.alloc0 ?_ _) | (with_reducible refine Below.plus ?_ ?_ _) | (with_reducible refine Below.alloc ?_ ?_ _) | (with_reducible refine Below.drew ?_) | (with_reducible refine Below.drewN ?_ _) | (simp [go_sem]; done) | (simp [go_sem]; omega))), rfl⟩ | (trace_state; fail))
    refine KindSteps.cons ?_ ?_
    · intro xs w9 hw hd
      (first | (with_reducible have hw2 := World.plus_of_below ((World.below_plus _ _).trans (hw.mono (World.size_plus _ _))); obtain ⟨u, rfl⟩ := hw2) | (obtain ⟨u, rfl⟩ := World.plus_of_below hw))
      simp only [fill, Act.put, List.take_succ_cons, List.take_zero, List.drop_succ_cons, List.drop_zero, Nat.reduceAdd, Nat.zero_add, List.setIfInBounds_toArray, List.set_cons_succ, List.set_cons_zero, if_true, if_false, Nat.reduceEqDiff, reduceIte]
      have f2 : (xs 2) = .pointer (some ⟨w.heap.size + 1, 0, none⟩) := hd 2 (by kernel_rfl); simp only [f2]
      go_wp2_with fail
      all_goals (first | exact Below.refl _ _ | exact ⟨by (repeat' (first | (with_reducible exact Below.refl _ _) | (with_reducible assumption) | (with_reducible refine Below.plus0 ?_ _) | (with_reducible refine Below.alloc0 ?_ _) | (with_reducible refine Below.plus ?_ ?_ _) | (with_reducible refine Below.alloc ?_ ?_ _) | (with_reducible refine Below.drew ?_) | (with_reducible refine Below.drewN ?_ _) | (simp [go_sem]; done) | (simp [go_sem]; omega))), _, rfl, rfl⟩ | exact ⟨rfl, by (repeat' (first | (with_reducible exact Below.refl _ _) | (with_reducible assumption) | (with_reducible refine Below.plus0 ?_ _) | (with_reducible refine Below.alloc0 ?_ _) | (with_reducible refine Below.plus ?_ ?_ _) | (with_reducible refine Below.alloc ?_ ?_ _) | (with_reducible refine Below.drew ?_) | (with_reducible refine Below.drewN ?_ _) | (simp [go_sem]; done) | (simp [go_sem]; omega))), _, rfl, rfl⟩ | exact ⟨by (repeat' (first | (with_reducible exact Below.refl _ _) | (with_reducible assumption) | (with_reducible refine Below.plus0 ?_ _) | (with_reducible refine Below.alloc0 ?_ _) | (with_reducible refine Below.plus ?_ ?_ _) | (with_reducible refine Below.alloc ?_ ?_ _) | (with_reducible refine Below.drew ?_) | (with_reducible refine Below.drewN ?_ _) | (simp [go_sem]; done) | (simp [go_sem]; omega))), rfl⟩ | (trace_state; fail))
    refine KindSteps.cons ?_ ?_
    · intro xs w9 hw hd
      (first | (with_reducible have hw2 := World.plus_of_below ((World.below_plus _ _).trans (hw.mono (World.size_plus _ _))); obtain ⟨u, rfl⟩ := hw2) | (obtain ⟨u, rfl⟩ := World.plus_of_below hw))
      simp only [fill, Act.put, List.take_succ_cons, List.take_zero, List.drop_succ_cons, List.drop_zero, Nat.reduceAdd, Nat.zero_add, List.setIfInBounds_toArray, List.set_cons_succ, List.set_cons_zero, if_true, if_false, Nat.reduceEqDiff, reduceIte]
      have f1 : (xs 1) = .bool (sg x) := hd 1 (by kernel_rfl); simp only [f1]
      have f3 : (xs 3) = .bool (sg y) := hd 3 (by kernel_rfl); simp only [f3]
      go_wp2_with fail
      all_goals (first | exact Below.refl _ _ | exact ⟨by (repeat' (first | (with_reducible exact Below.refl _ _) | (with_reducible assumption) | (with_reducible refine Below.plus0 ?_ _) | (with_reducible refine Below.alloc0 ?_ _) | (with_reducible refine Below.plus ?_ ?_ _) | (with_reducible refine Below.alloc ?_ ?_ _) | (with_reducible refine Below.drew ?_) | (with_reducible refine Below.drewN ?_ _) | (simp [go_sem]; done) | (simp [go_sem]; omega))), _, rfl, rfl⟩ | exact ⟨rfl, by (repeat' (first | (with_reducible exact Below.refl _ _) | (with_reducible assumption) | (with_reducible refine Below.plus0 ?_ _) | (with_reducible refine Below.alloc0 ?_ _) | (with_reducible refine Below.plus ?_ ?_ _) | (with_reducible refine Below.alloc ?_ ?_ _) | (with_reducible refine Below.drew ?_) | (with_reducible refine Below.drewN ?_ _) | (simp [go_sem]; done) | (simp [go_sem]; omega))), _, rfl, rfl⟩ | exact ⟨by (repeat' (first | (with_reducible exact Below.refl _ _) | (with_reducible assumption) | (with_reducible refine Below.plus0 ?_ _) | (with_reducible refine Below.alloc0 ?_ _) | (with_reducible refine Below.plus ?_ ?_ _) | (with_reducible refine Below.alloc ?_ ?_ _) | (with_reducible refine Below.drew ?_) | (with_reducible refine Below.drewN ?_ _) | (simp [go_sem]; done) | (simp [go_sem]; omega))), rfl⟩ | (trace_state; fail))
    refine KindSteps.cons ?_ ?_
    · intro xs w9 hw hd
      (first | (with_reducible have hw2 := World.plus_of_below ((World.below_plus _ _).trans (hw.mono (World.size_plus _ _))); obtain ⟨u, rfl⟩ := hw2) | (obtain ⟨u, rfl⟩ := World.plus_of_below hw))
      simp only [fill, Act.put, List.take_succ_cons, List.take_zero, List.drop_succ_cons, List.drop_zero, Nat.reduceAdd, Nat.zero_add, List.setIfInBounds_toArray, List.set_cons_succ, List.set_cons_zero, if_true, if_false, Nat.reduceEqDiff, reduceIte]
      go_wp2_with fail
      all_goals (first | exact Below.refl _ _ | exact ⟨by (repeat' (first | (with_reducible exact Below.refl _ _) | (with_reducible assumption) | (with_reducible refine Below.plus0 ?_ _) | (with_reducible refine Below.alloc0 ?_ _) | (with_reducible refine Below.plus ?_ ?_ _) | (with_reducible refine Below.alloc ?_ ?_ _) | (with_reducible refine Below.drew ?_) | (with_reducible refine Below.drewN ?_ _) | (simp [go_sem]; done) | (simp [go_sem]; omega))), _, rfl, rfl⟩ | exact ⟨rfl, by (repeat' (first | (with_reducible exact Below.refl _ _) | (with_reducible assumption) | (with_reducible refine Below.plus0 ?_ _) | (with_reducible refine Below.alloc0 ?_ _) | (with_reducible refine Below.plus ?_ ?_ _) | (with_reducible refine Below.alloc ?_ ?_ _) | (with_reducible refine Below.drew ?_) | (with_reducible refine Below.drewN ?_ _) | (simp [go_sem]; done) | (simp [go_sem]; omega))), _, rfl, rfl⟩ | exact ⟨by (repeat' (first | (with_reducible exact Below.refl _ _) | (with_reducible assumption) | (with_reducible refine Below.plus0 ?_ _) | (with_reducible refine Below.alloc0 ?_ _) | (with_reducible refine Below.plus ?_ ?_ _) | (with_reducible refine Below.alloc ?_ ?_ _) | (with_reducible refine Below.drew ?_) | (with_reducible refine Below.drewN ?_ _) | (simp [go_sem]; done) | (simp [go_sem]; omega))), rfl⟩ | (trace_state; fail))
    refine KindSteps.cons ?_ ?_
    · intro xs w9 hw hd
      (first | (with_reducible have hw2 := World.plus_of_below ((World.below_plus _ _).trans (hw.mono (World.size_plus _ _))); obtain ⟨u, rfl⟩ := hw2) | (obtain ⟨u, rfl⟩ := World.plus_of_below hw))
      simp only [fill, Act.put, List.take_succ_cons, List.take_zero, List.drop_succ_cons, List.drop_zero, Nat.reduceAdd, Nat.zero_add, List.setIfInBounds_toArray, List.set_cons_succ, List.set_cons_zero, if_true, if_false, Nat.reduceEqDiff, reduceIte]
      have f5 : (xs 5) = .agg #[.bool (sg x), .string (mg x)] := hd 5 (by kernel_rfl); simp only [f5]
      go_wp2_with (go_at_call 53; refine (h3.out _).mono ?_; rintro e w8 ⟨v, rfl, hdl, hb⟩)
      all_goals (first | exact Below.refl _ _ | exact hb | exact ⟨hb, _, rfl, hdl⟩ | exact ⟨rfl, hb, _, rfl, hdl⟩)
    refine KindSteps.cons ?_ ?_
    · intro xs w9 hw hd
      (first | (with_reducible have hw2 := World.plus_of_below ((World.below_plus _ _).trans (hw.mono (World.size_plus _ _))); obtain ⟨u, rfl⟩ := hw2) | (obtain ⟨u, rfl⟩ := World.plus_of_below hw))
      simp only [fill, Act.put, List.take_succ_cons, List.take_zero, List.drop_succ_cons, List.drop_zero, Nat.reduceAdd, Nat.zero_add, List.setIfInBounds_toArray, List.set_cons_succ, List.set_cons_zero, if_true, if_false, Nat.reduceEqDiff, reduceIte]
      go_wp2_with fail
      all_goals (first | exact Below.refl _ _ | exact ⟨by (repeat' (first | (with_reducible exact Below.refl _ _) | (with_reducible assumption) | (with_reducible refine Below.plus0 ?_ _) | (with_reducible refine Below.alloc0 ?_ _) | (with_reducible refine Below.plus ?_ ?_ _) | (with_reducible refine Below.alloc ?_ ?_ _) | (with_reducible refine Below.drew ?_) | (with_reducible refine Below.drewN ?_ _) | (simp [go_sem]; done) | (simp [go_sem]; omega))), _, rfl, rfl⟩ | exact ⟨rfl, by (repeat' (first | (with_reducible exact Below.refl _ _) | (with_reducible assumption) | (with_reducible refine Below.plus0 ?_ _) | (with_reducible refine Below.alloc0 ?_ _) | (with_reducible refine Below.plus ?_ ?_ _) | (with_reducible refine Below.alloc ?_ ?_ _) | (with_reducible refine Below.drew ?_) | (with_reducible refine Below.drewN ?_ _) | (simp [go_sem]; done) | (simp [go_sem]; omega))), _, rfl, rfl⟩ | exact ⟨by (repeat' (first | (with_reducible exact Below.refl _ _) | (with_reducible assumption) | (with_reducible refine Below.plus0 ?_ _) | (with_reducible refine Below.alloc0 ?_ _) | (with_reducible refine Below.plus ?_ ?_ _) | (with_reducible refine Below.alloc ?_ ?_ _) | (with_reducible refine Below.drew ?_) | (with_reducible refine Below.drewN ?_ _) | (simp [go_sem]; done) | (simp [go_sem]; omega))), rfl⟩ | (trace_state; fail))
    refine KindSteps.cons ?_ ?_
    · intro xs w9 hw hd
      (first | (with_reducible have hw2 := World.plus_of_below ((World.below_plus _ _).trans (hw.mono (World.size_plus _ _))); obtain ⟨u, rfl⟩ := hw2) | (obtain ⟨u, rfl⟩ := World.plus_of_below hw))
      simp only [fill, Act.put, List.take_succ_cons, List.take_zero, List.drop_succ_cons, List.drop_zero, Nat.reduceAdd, Nat.zero_add, List.setIfInBounds_toArray, List.set_cons_succ, List.set_cons_zero, if_true, if_false, Nat.reduceEqDiff, reduceIte]
      have f7 : (xs 7) = .agg #[.bool (sg y), .string (mg y)] := hd 7 (by kernel_rfl); simp only [f7]
      go_wp2_with (go_at_call 53; refine (h4.out _).mono ?_; rintro e w8 ⟨v, rfl, hdl, hb⟩)
      all_goals (first | exact Below.refl _ _ | exact hb | exact ⟨hb, _, rfl, hdl⟩ | exact ⟨rfl, hb, _, rfl, hdl⟩)
    refine KindSteps.cons ?_ ?_
    · intro xs w9 hw hd
      (first | (with_reducible have hw2 := World.plus_of_below ((World.below_plus _ _).trans (hw.mono (World.size_plus _ _))); obtain ⟨u, rfl⟩ := hw2) | (obtain ⟨u, rfl⟩ := World.plus_of_below hw))
      simp only [fill, Act.put, List.take_succ_cons, List.take_zero, List.drop_succ_cons, List.drop_zero, Nat.reduceAdd, Nat.zero_add, List.setIfInBounds_toArray, List.set_cons_succ, List.set_cons_zero, if_true, if_false, Nat.reduceEqDiff, reduceIte]
      have f6 : DL _ (xs 6) 4294967290 x.natAbs := hd 6 (by kernel_rfl)
      have f8 : DL _ (xs 8) 4294967290 y.natAbs := hd 8 (by kernel_rfl)
      go_wp2_with (go_at_call 52; refine (product_D _ _ _ _ _ _ f6 f8 (by omega)).mono ?_; rintro e w8 ⟨v, rfl, hdl, hb⟩)
      all_goals (first | exact Below.refl _ _ | exact hb | exact ⟨hb, _, rfl, hdl⟩ | exact ⟨rfl, hb, _, rfl, hdl⟩)
    refine KindSteps.cons ?_ ?_
    · intro xs w9 hw hd
      (first | (with_reducible have hw2 := World.plus_of_below ((World.below_plus _ _).trans (hw.mono (World.size_plus _ _))); obtain ⟨u, rfl⟩ := hw2) | (obtain ⟨u, rfl⟩ := World.plus_of_below hw))
      simp only [fill, Act.put, List.take_succ_cons, List.take_zero, List.drop_succ_cons, List.drop_zero, Nat.reduceAdd, Nat.zero_add, List.setIfInBounds_toArray, List.set_cons_succ, List.set_cons_zero, if_true, if_false, Nat.reduceEqDiff, reduceIte]
      have f4 : (xs 4) = .bool b := hd 4 (by kernel_rfl); simp only [f4]
      have f9 : DL _ (xs 9) 8589934581 (x.natAbs * y.natAbs) := hd 9 (by kernel_rfl)
      go_wp2_with (go_at_call 51; refine (number_D _ _ _ _ _ _ f9 (by omega) HZ.out).mono ?_; rintro e w8 ⟨rfl, hb⟩)
      all_goals (first | exact Below.refl _ _ | exact hb | exact ⟨hb, _, rfl, rfl⟩ | exact ⟨rfl, hb, _, rfl, rfl⟩)
    exact KindSteps.nil
  intro xs w9 hw hd
  (first | (with_reducible have hw2 := World.plus_of_below ((World.below_plus _ _).trans (hw.mono (World.size_plus _ _))); obtain ⟨u, rfl⟩ := hw2) | (obtain ⟨u, rfl⟩ := World.plus_of_below hw))
  simp only [fill, Act.put, List.take_succ_cons, List.take_zero, List.drop_succ_cons, List.drop_zero, Nat.reduceAdd, Nat.zero_add, List.setIfInBounds_toArray, List.set_cons_succ, List.set_cons_zero, if_true, if_false, Nat.reduceEqDiff, reduceIte]
  have f0 : (xs 0) = .pointer (some ⟨w.heap.size, 0, none⟩) := hd 0 (by decide)
  simp only [f0]
  have f1 : (xs 1) = .bool (sg x) := hd 1 (by decide)
  simp only [f1]
  have f2 : (xs 2) = .pointer (some ⟨w.heap.size + 1, 0, none⟩) := hd 2 (by decide)
  simp only [f2]
  have f3 : (xs 3) = .bool (sg y) := hd 3 (by decide)
  simp only [f3]
  have f4 : (xs 4) = .bool b := hd 4 (by decide)
  simp only [f4]
  have f5 : (xs 5) = .agg #[.bool (sg x), .string (mg x)] := hd 5 (by decide)
  simp only [f5]
  have f6 : DL _ (xs 6) 4294967290 x.natAbs := hd 6 (by decide)
  have f7 : (xs 7) = .agg #[.bool (sg y), .string (mg y)] := hd 7 (by decide)
  simp only [f7]
  have f8 : DL _ (xs 8) 4294967290 y.natAbs := hd 8 (by decide)
  have f9 : DL _ (xs 9) 8589934581 (x.natAbs * y.natAbs) := hd 9 (by decide)
  have f10 : (xs 10) = .agg #[.bool (sg z), .string (mg z)] := hd 10 (by decide)
  simp only [f10]
  clear hd
  go_wp2_with fail
  refine bodyPost_ret (by simp [results, Tryd.results18, go_sem]; rfl) rfl ?_
  exact ⟨rfl, by (repeat' (first | (with_reducible exact Below.refl _ _) | (with_reducible assumption) | (with_reducible refine Below.plus0 ?_ _) | (with_reducible refine Below.alloc0 ?_ _) | (with_reducible refine Below.plus ?_ ?_ _) | (with_reducible refine Below.alloc ?_ ?_ _) | (with_reducible refine Below.drew ?_) | (with_reducible refine Below.drewN ?_ _) | (simp [go_sem]; done) | (simp [go_sem]; omega)))⟩
end Go.Proofs.YtkoodpbcfdblbaaDoor
