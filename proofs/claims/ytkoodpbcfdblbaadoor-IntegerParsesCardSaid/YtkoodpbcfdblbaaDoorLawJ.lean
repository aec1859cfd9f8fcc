import Derived.Test.YtkoodpbcfdblbaaDoorLawI
import Derived.Test.YtkoodpbcfdblbaaDoorIntL
import Derived.Test.YtkoodpbcfdblbaaDoorLawG
import Derived.Test.YtkoodpbcfdblbaaDoorRel
set_option linter.unusedSimpArgs false
set_option linter.unusedVariables false
namespace Go.Proofs.YtkoodpbcfdblbaaDoor
open Go Go.RowKit
open Vi
/-- A fresh block behind n. -/
def PB (n : Nat) (c : Array Value) (ty : TypeId) (v : Value) (w : World) : Prop := ∃ g, v = .pointer (some ⟨g, 0, none⟩) ∧ n ≤ g ∧ w.heap[g]? = some (.cells c ty (0, 0))
theorem PB.below {n : Nat} {c : Array Value} {ty : TypeId} {v : Value} {w w' : World} (h : PB n c ty v w) (hb : Below w.heap.size w w') : PB n c ty v w' := by
  obtain ⟨g, e, hn, hg⟩ := h
  exact ⟨g, e, hn, (hb.block g (Array.getElem?_eq_some_iff.1 hg).1).trans hg⟩
theorem PB.new {n : Nat} {c : Array Value} {ty : TypeId} {w : World} (h : n ≤ w.heap.size) : PB n c ty (.pointer (some ⟨w.heap.size, 0, none⟩)) (w.alloc (.cells c ty)) := ⟨_, rfl, h, heap_at _ _ _ rfl⟩
set_option maxRecDepth 100000 in
set_option maxHeartbeats 3200000 in
theorem IntegerRoots_c (ba : Bool) (sa : ByteArray) (w : World) (ha : sa.size ≤ 9223372036854775807) :
    Calls Tryd.prog 14 #[.agg #[.bool ba, .string sa]] w fun e w' => e = .returned (.bool true) ∧ Below w.heap.size w w' := by
  obtain ⟨a, ea⟩ : ∃ x, x = canI ba sa 24 := ⟨_, rfl⟩
  have la0 := ea ▸ canI_lt ba sa 24
  have la := mg_size a 24 la0
  have ina : Hid (∀ w, Calls Tryd.prog 29 #[.agg #[.bool ba, .string sa], .int .i64 24] w fun e w' => e = .returned (.agg #[.bool (sg a), .string (mg a)]) ∧ Below w.heap.size w w') := Lib.hid fun w => canK_e ba sa 24 a ea w ha (by omega)
  obtain ⟨m, em⟩ : ∃ x, x = a * a := ⟨_, rfl⟩
  have lm := mg_size m 48 (em ▸ natAbs_mul_lt a a 24 24 la0 la0)
  obtain ⟨v, ev⟩ : ∃ x : Int, x = (a.natAbs : Nat) := ⟨_, rfl⟩
  have hm : a.natAbs * a.natAbs = m.natAbs := by rw [em, Int.natAbs_mul]
  have hm0 : 0 ≤ m := by rw [em]; exact (by
    rcases Int.le_total 0 a with h | h
    · exact Int.mul_nonneg h h
    · exact Int.mul_nonneg_of_nonpos_of_nonpos h h)
  have h1 := Lib.hid fun w => rMul_c a a m em w (by omega) (by omega)
  have h2 : Hid (∀ w, Calls Tryd.prog 48 #[.agg #[.bool (sg m), .string (mg m)]] w fun e w' => e = .returned (.tuple #[.agg #[.bool (sg v), .string (mg v)], .bool true]) ∧ Below w.heap.size w w') := Lib.hid fun w => by rw [ev]; exact IsSquare_yes m a.natAbs hm0 hm w (by omega)
  have h3 := Lib.hid fun w => rAbs_c a v ev w
  by_cases hneg : a < 0
  · have h4 := Lib.hid fun w => Sqrt_neg a hneg w
    have h5 := Lib.hid fun w => IsSquare_neg a hneg w
    have h6 : Hid (∀ w, Calls Tryd.prog 20 #[.agg #[.bool (sg a), .string (mg a)]] w fun e w' => e = .returned (.int .i64 (-1)) ∧ Below w.heap.size w w') := Lib.hid fun w => by
      have := rSign_c a w (by omega)
      rwa [show cmpI a 0 = -1 by unfold cmpI; rw [if_pos hneg]] at this
    clear ea la0 la em lm ev hm hm0 ha hneg
    go_enter Tryd.func14, Tryd.ntmps14
    go_wp2_with fail
    (go_wp2_with fail; refine (ina.out _).mono ?_; rintro e w' ⟨rfl, hb⟩; (first | (with_reducible (have hb2 := World.plus_of_below ((World.below_plus _ _).trans (hb.mono (World.size_plus _ _)))); obtain ⟨u, rfl⟩ := hb2) | (obtain ⟨u, rfl⟩ := World.plus_of_below hb)); clear hb)
    go_wp2_with fail
    (go_wp2_with fail; refine (h4.out _).mono ?_; rintro e w' ⟨rfl, hb⟩; (first | (with_reducible (have hb2 := World.plus_of_below ((World.below_plus _ _).trans (hb.mono (World.size_plus _ _)))); obtain ⟨u, rfl⟩ := hb2) | (obtain ⟨u, rfl⟩ := World.plus_of_below hb)); clear hb)
    go_wp2_with fail
    (go_wp2_with fail; refine (h5.out _).mono ?_; rintro e w' ⟨rfl, hb⟩; obtain ⟨u, rfl⟩ := World.plus_of_below hb; clear hb)
    go_wp2_with fail
    (go_wp2_with fail; refine (h1.out _).mono ?_; rintro e w' ⟨rfl, hb⟩; obtain ⟨u, rfl⟩ := World.plus_of_below hb; clear hb)
    go_wp2_with fail
    (go_wp2_with fail; refine (h2.out _).mono ?_; rintro e w' ⟨rfl, hb⟩; obtain ⟨u, rfl⟩ := World.plus_of_below hb; clear hb)
    go_wp2_with fail
    ((first | (with_reducible refine wp_region_steady_plus (by kernel_rfl) (by kernel_rfl) ?_) | refine wp_region_steady (by kernel_rfl) (by kernel_rfl) ?_); repeat go_big_quiet_step (first | (go_at_call 16; refine Calls.steady (known_c _)) | (go_at_call 24; refine Calls.steady (h3.out _)))); (refine wpQuiet_nil ?_; rintro _ ⟨u, rfl⟩)
    go_wp2_with fail
    (go_wp2_with fail; refine (h6.out _).mono ?_; rintro e w' ⟨rfl, hb⟩; (first | (with_reducible (have hb2 := World.plus_of_below ((World.below_plus _ _).trans (hb.mono (World.size_plus _ _)))); obtain ⟨u, rfl⟩ := hb2) | (obtain ⟨u, rfl⟩ := World.plus_of_below hb)); clear hb)
    go_wp2_with fail
    go_ret
    exact ⟨rfl, by (repeat' (first | (with_reducible exact Below.refl _ _) | (with_reducible assumption) | (with_reducible refine Below.plus0 ?_ _) | (with_reducible refine Below.alloc0 ?_ _) | (with_reducible refine Below.plus ?_ ?_ _) | (with_reducible refine Below.alloc ?_ ?_ _) | (with_reducible refine Below.drew ?_) | (with_reducible refine Below.drewN ?_ _) | (simp [go_sem]; done) | (simp [go_sem]; omega)))⟩
  · obtain ⟨R, hR1, hR2⟩ := sqrt_ex a.natAbs
    obtain ⟨r, er⟩ : ∃ x : Int, x = (R : Nat) := ⟨_, rfl⟩
    obtain ⟨n, en⟩ : ∃ x : Int, x = r + 1 := ⟨_, rfl⟩
    obtain ⟨rr, err⟩ : ∃ x : Int, x = r * r := ⟨_, rfl⟩
    obtain ⟨nn, enn⟩ : ∃ x : Int, x = n * n := ⟨_, rfl⟩
    have hRa : R ≤ a.natAbs := Nat.le_trans (Nat.le_mul_self R) hR1
    have lr0 : r.natAbs < 256 ^ 24 := by rw [er, Int.natAbs_natCast]; omega
    have ln0 : n.natAbs < 256 ^ 25 := by
      have e : (256 : Nat) ^ 25 = 256 ^ 24 * 256 := Nat.pow_succ ..
      have e2 : n.natAbs = R + 1 := by rw [en, er]; omega
      omega
    have lr := mg_size r 24 lr0
    have ln := mg_size n 25 ln0
    have lrr := mg_size rr 48 (err ▸ natAbs_mul_lt r r 24 24 lr0 lr0)
    have lnn := mg_size nn 50 (enn ▸ natAbs_mul_lt n n 25 25 ln0 ln0)
    have hrr : rr ≤ a := by
      rw [err, er]
      have e : ((R : Int) * (R : Int)) = ((R * R : Nat) : Int) := by simp
      rw [e]; omega
    have hnn : a < nn := by
      rw [enn, en, er]
      have e : (((R : Int) + 1) * ((R : Int) + 1)) = (((R + 1) * (R + 1) : Nat) : Int) := by simp
      rw [e]; omega
    have h4 : Hid (∀ w, Calls Tryd.prog 47 #[.agg #[.bool (sg a), .string (mg a)]] w fun e w' => e = .returned (.tuple #[.agg #[.bool (sg r), .string (mg r)], .int .i64 0]) ∧ Below w.heap.size w w') := Lib.hid fun w => by rw [er]; exact Sqrt_c a R (by omega) hR1 hR2 w (by omega)
    obtain ⟨sa0, hsa⟩ : ∃ c, c = cmpI a 0 := ⟨_, rfl⟩
    obtain ⟨sr, hsr⟩ : ∃ c, c = cmpI r 0 := ⟨_, rfl⟩
    have hsa0 : ¬ sa0 < 0 := by rw [hsa]; unfold cmpI; rw [if_neg hneg]; split <;> omega
    have hsr0 : ¬ sr < 0 := by rw [hsr]; unfold cmpI; rw [if_neg (by omega)]; split <;> omega
    obtain ⟨c1, hc1⟩ : ∃ c, c = cmpI rr a := ⟨_, rfl⟩
    have hc10 : ¬ 0 < c1 := by rw [hc1]; unfold cmpI; split <;> (try split) <;> omega
    have hsa1 : decide (sa0 < 0) = false := decide_eq_false hsa0
    have hsr1 : decide (sr < 0) = false := decide_eq_false hsr0
    have hc11 : decide (0 < c1) = false := decide_eq_false hc10
    have h6 : Hid (∀ w, Calls Tryd.prog 20 #[.agg #[.bool (sg a), .string (mg a)]] w fun e w' => e = .returned (.int .i64 sa0) ∧ Below w.heap.size w w') := Lib.hid fun w => by rw [hsa]; exact rSign_c a w (by omega)
    have h7 : Hid (∀ w, Calls Tryd.prog 20 #[.agg #[.bool (sg r), .string (mg r)]] w fun e w' => e = .returned (.int .i64 sr) ∧ Below w.heap.size w w') := Lib.hid fun w => by rw [hsr]; exact rSign_c r w (by omega)
    have h8 := Lib.hid fun w => rAdd_c r 1 n en w (by omega) (by rw [show mg 1 = ⟨#[1]⟩ by decide]; decide)
    have h9 := Lib.hid fun w => rFromInt_c 1 w (by omega) (by omega)
    have h10 : Hid (∀ w, Calls Tryd.prog 21 #[.agg #[.bool (sg r), .string (mg r)]] w fun e w' => e = .returned (.bool true) ∧ Below w.heap.size w w') := Lib.hid fun w => by
      have := Valid_c (sg r) (mg r) w (by omega)
      rwa [okInt_mg] at this
    have h11 := Lib.hid fun w => rMul_c r r rr err w (by omega) (by omega)
    have h12 := Lib.hid fun w => rMul_c n n nn enn w (by omega) (by omega)
    have h13 : Hid (∀ w, Calls Tryd.prog 23 #[.agg #[.bool (sg rr), .string (mg rr)], .agg #[.bool (sg a), .string (mg a)]] w fun e w' => e = .returned (.int .i64 c1) ∧ Below w.heap.size w w') := Lib.hid fun w => by rw [hc1]; exact rCompare_c rr a w (by omega) (by omega)
    have h14 : Hid (∀ w, Calls Tryd.prog 23 #[.agg #[.bool (sg nn), .string (mg nn)], .agg #[.bool (sg a), .string (mg a)]] w fun e w' => e = .returned (.int .i64 1) ∧ Below w.heap.size w w') := Lib.hid fun w => by
      have := rCompare_c nn a w (by omega) (by omega)
      rwa [show cmpI nn a = 1 by unfold cmpI; rw [if_neg (by omega), if_neg (by omega)]] at this
    by_cases hsq : R * R = a.natAbs
    · have h5 : Hid (∀ w, Calls Tryd.prog 48 #[.agg #[.bool (sg a), .string (mg a)]] w fun e w' => e = .returned (.tuple #[.agg #[.bool (sg r), .string (mg r)], .bool true]) ∧ Below w.heap.size w w') := Lib.hid fun w => by rw [er]; exact IsSquare_yes a R (by omega) hsq w (by omega)
      have hra : rr = a := by
        rw [err, er]
        have e : ((R : Int) * (R : Int)) = ((R * R : Nat) : Int) := by simp
        rw [e]; omega
      have hra2 := hra.symm
      subst hra2
      clear ea la0 la em lm ev hm hm0 ha hneg hR1 hR2 er en err enn hRa lr0 ln0 lr ln lrr lnn hrr hnn hsa hsr hc1 hsq
      go_enter Tryd.func14, Tryd.ntmps14
      go_wp2_with fail
      (go_wp2_with fail; refine (ina.out _).mono ?_; rintro e w' ⟨rfl, hb⟩; (first | (with_reducible (have hb2 := World.plus_of_below ((World.below_plus _ _).trans (hb.mono (World.size_plus _ _)))); obtain ⟨u, rfl⟩ := hb2) | (obtain ⟨u, rfl⟩ := World.plus_of_below hb)); clear hb)
      go_wp2_with fail
      (go_wp2_with fail; refine (h4.out _).mono ?_; rintro e w' ⟨rfl, hb⟩; (first | (with_reducible (have hb2 := World.plus_of_below ((World.below_plus _ _).trans (hb.mono (World.size_plus _ _)))); obtain ⟨u, rfl⟩ := hb2) | (obtain ⟨u, rfl⟩ := World.plus_of_below hb)); clear hb)
      obtain ⟨V1, hV1⟩ : ∃ z, z = (w.alloc (.cells #[.bool (sg a), .string (mg a)] 23)).plus u := ⟨_, rfl⟩
      rw [← hV1]
      obtain ⟨b1, hb1⟩ : ∃ b, b = w.heap.size := ⟨_, rfl⟩
      rw [← hb1]
      have c10 : V1.cell? ⟨b1, 0, none⟩ = some (.bool (sg a)) := by rw [hV1, hb1]; simp [go_sem]
      have c11 : V1.cell? ⟨b1, 1, none⟩ = some (.string (mg a)) := by rw [hV1, hb1]; simp [go_sem]
      have hbw : Below w.heap.size w V1 := by rw [hV1]; (repeat' (first | (with_reducible exact Below.refl _ _) | (with_reducible assumption) | (with_reducible refine Below.plus0 ?_ _) | (with_reducible refine Below.alloc0 ?_ _) | (with_reducible refine Below.plus ?_ ?_ _) | (with_reducible refine Below.alloc ?_ ?_ _) | (with_reducible refine Below.drew ?_) | (with_reducible refine Below.drewN ?_ _) | (simp [go_sem]; done) | (simp [go_sem]; omega)))
      have z1 : b1 < V1.heap.size := World.block_lt_of_cell? _ _ c10
      have hb1w : w.heap.size ≤ b1 := by omega
      clear hV1 hb1
      go_wp2_with fail
      (go_wp2_with fail; refine (h5.out _).mono ?_; rintro e w' ⟨rfl, hb⟩; obtain ⟨u, rfl⟩ := World.plus_of_below hb; clear hb)
      obtain ⟨V2, hV2⟩ : ∃ z, z = (V1.alloc (.cells #[.bool (sg r), .string (mg r)] 23)).plus u := ⟨_, rfl⟩
      rw [← hV2]
      obtain ⟨b3, hb3⟩ : ∃ b, b = V1.heap.size := ⟨_, rfl⟩
      rw [← hb3]
      have c30 : V2.cell? ⟨b3, 0, none⟩ = some (.bool (sg r)) := by rw [hV2, hb3]; simp [go_sem]
      have c31 : V2.cell? ⟨b3, 1, none⟩ = some (.string (mg r)) := by rw [hV2, hb3]; simp [go_sem]
      replace c10 : V2.cell? ⟨b1, 0, none⟩ = some (.bool (sg a)) := by rw [hV2]; simp [go_sem, c10, z1]
      replace c11 : V2.cell? ⟨b1, 1, none⟩ = some (.string (mg a)) := by rw [hV2]; simp [go_sem, c11, z1]
      replace hbw : Below w.heap.size w V2 := by rw [hV2]; (repeat' (first | (with_reducible exact Below.refl _ _) | (with_reducible assumption) | (with_reducible refine Below.plus0 ?_ _) | (with_reducible refine Below.alloc0 ?_ _) | (with_reducible refine Below.plus ?_ ?_ _) | (with_reducible refine Below.alloc ?_ ?_ _) | (with_reducible refine Below.drew ?_) | (with_reducible refine Below.drewN ?_ _) | (simp [go_sem]; done) | (simp [go_sem]; omega)))
      have n13 : b1 ≠ b3 := by omega
      replace z1 : b1 < V2.heap.size := World.block_lt_of_cell? _ _ c10
      have z3 : b3 < V2.heap.size := World.block_lt_of_cell? _ _ c30
      clear hV2 hb3
      go_wp2_with fail
      (go_wp2_with fail; refine (h1.out _).mono ?_; rintro e w' ⟨rfl, hb⟩; obtain ⟨u, rfl⟩ := World.plus_of_below hb; clear hb)
      revert u
      intro ua
      (go_wp2_with fail; refine (h2.out _).mono ?_; rintro e w' ⟨rfl, hb⟩; (first | (with_reducible (have hb2 := World.plus_of_below ((World.below_plus _ _).trans (hb.mono (World.size_plus _ _)))); obtain ⟨u, rfl⟩ := hb2) | (obtain ⟨u, rfl⟩ := World.plus_of_below hb)); clear hb)
      obtain ⟨V3, hV3⟩ : ∃ z, z = (V2.alloc (.cells #[.bool (sg r), .string (mg r)] 23)).plus u := ⟨_, rfl⟩
      rw [← hV3]
      obtain ⟨b5, hb5⟩ : ∃ b, b = V2.heap.size := ⟨_, rfl⟩
      rw [← hb5]
      have c50 : V3.cell? ⟨b5, 0, none⟩ = some (.bool (sg r)) := by rw [hV3, hb5]; simp [go_sem]
      have c51 : V3.cell? ⟨b5, 1, none⟩ = some (.string (mg r)) := by rw [hV3, hb5]; simp [go_sem]
      replace c10 : V3.cell? ⟨b1, 0, none⟩ = some (.bool (sg a)) := by rw [hV3]; simp [go_sem, c10, z1]
      replace c11 : V3.cell? ⟨b1, 1, none⟩ = some (.string (mg a)) := by rw [hV3]; simp [go_sem, c11, z1]
      replace c30 : V3.cell? ⟨b3, 0, none⟩ = some (.bool (sg r)) := by rw [hV3]; simp [go_sem, c30, z3]
      replace c31 : V3.cell? ⟨b3, 1, none⟩ = some (.string (mg r)) := by rw [hV3]; simp [go_sem, c31, z3]
      replace hbw : Below w.heap.size w V3 := by rw [hV3]; (repeat' (first | (with_reducible exact Below.refl _ _) | (with_reducible assumption) | (with_reducible refine Below.plus0 ?_ _) | (with_reducible refine Below.alloc0 ?_ _) | (with_reducible refine Below.plus ?_ ?_ _) | (with_reducible refine Below.alloc ?_ ?_ _) | (with_reducible refine Below.drew ?_) | (with_reducible refine Below.drewN ?_ _) | (simp [go_sem]; done) | (simp [go_sem]; omega)))
      have n15 : b1 ≠ b5 := by omega
      have n35 : b3 ≠ b5 := by omega
      replace z1 : b1 < V3.heap.size := World.block_lt_of_cell? _ _ c10
      replace z3 : b3 < V3.heap.size := World.block_lt_of_cell? _ _ c30
      have z5 : b5 < V3.heap.size := World.block_lt_of_cell? _ _ c50
      clear hV3 hb5
      go_wp2_with fail
      ((first | (with_reducible refine wp_region_steady_plus (by kernel_rfl) (by kernel_rfl) ?_) | refine wp_region_steady (by kernel_rfl) (by kernel_rfl) ?_); repeat go_big_quiet_step (first | (go_at_call 16; refine Calls.steady (known_c _)) | (go_at_call 24; refine Calls.steady (h3.out _)))); (refine wpQuiet_nil ?_; rintro _ ⟨u, rfl⟩)
      go_wp2_with fail
      (go_wp2_with fail; refine (h6.out _).mono ?_; rintro e w' ⟨rfl, hb⟩; (first | (with_reducible (have hb2 := World.plus_of_below ((World.below_plus _ _).trans (hb.mono (World.size_plus _ _)))); obtain ⟨u, rfl⟩ := hb2) | (obtain ⟨u, rfl⟩ := World.plus_of_below hb)); clear hb)
      obtain ⟨V4, hV4⟩ : ∃ z, z = (V3.alloc (.cells #[.bool (sg v), .string (mg v)] 23)).plus u := ⟨_, rfl⟩
      rw [← hV4]
      obtain ⟨b7, hb7⟩ : ∃ b, b = V3.heap.size := ⟨_, rfl⟩
      rw [← hb7]
      have c70 : V4.cell? ⟨b7, 0, none⟩ = some (.bool (sg v)) := by rw [hV4, hb7]; simp [go_sem]
      have c71 : V4.cell? ⟨b7, 1, none⟩ = some (.string (mg v)) := by rw [hV4, hb7]; simp [go_sem]
      replace c10 : V4.cell? ⟨b1, 0, none⟩ = some (.bool (sg a)) := by rw [hV4]; simp [go_sem, c10, z1]
      replace c11 : V4.cell? ⟨b1, 1, none⟩ = some (.string (mg a)) := by rw [hV4]; simp [go_sem, c11, z1]
      replace c30 : V4.cell? ⟨b3, 0, none⟩ = some (.bool (sg r)) := by rw [hV4]; simp [go_sem, c30, z3]
      replace c31 : V4.cell? ⟨b3, 1, none⟩ = some (.string (mg r)) := by rw [hV4]; simp [go_sem, c31, z3]
      replace c50 : V4.cell? ⟨b5, 0, none⟩ = some (.bool (sg r)) := by rw [hV4]; simp [go_sem, c50, z5]
      replace c51 : V4.cell? ⟨b5, 1, none⟩ = some (.string (mg r)) := by rw [hV4]; simp [go_sem, c51, z5]
      replace hbw : Below w.heap.size w V4 := by rw [hV4]; (repeat' (first | (with_reducible exact Below.refl _ _) | (with_reducible assumption) | (with_reducible refine Below.plus0 ?_ _) | (with_reducible refine Below.alloc0 ?_ _) | (with_reducible refine Below.plus ?_ ?_ _) | (with_reducible refine Below.alloc ?_ ?_ _) | (with_reducible refine Below.drew ?_) | (with_reducible refine Below.drewN ?_ _) | (simp [go_sem]; done) | (simp [go_sem]; omega)))
      have n17 : b1 ≠ b7 := by omega
      have n37 : b3 ≠ b7 := by omega
      have n57 : b5 ≠ b7 := by omega
      replace z1 : b1 < V4.heap.size := World.block_lt_of_cell? _ _ c10
      replace z3 : b3 < V4.heap.size := World.block_lt_of_cell? _ _ c30
      replace z5 : b5 < V4.heap.size := World.block_lt_of_cell? _ _ c50
      have z7 : b7 < V4.heap.size := World.block_lt_of_cell? _ _ c70
      clear hV4 hb7
      go_wp2_with fail
      refine wp_region_facts_t 4 (fun i v w9 => match i with
        | 0 => v = .agg #[.bool (sg r), .string (mg r)]
        | 1 => v = .agg #[.bool (sg 1), .string (mg 1)]
        | 2 => v = .agg #[.bool (sg n), .string (mg n)]
        | 3 => PB V4.heap.size #[.bool false, .string ⟨#[]⟩] 23 v w9
        | _ => True) (by kernel_rfl) (by kernel_rfl) ?_ ?_ ?_
      · intro i v w1 w2 hb h
        match i, h with
        | 0, h => exact h
        | 1, h => exact h
        | 2, h => exact h
        | 3, h => exact PB.below h hb
        | k + 4, h => exact trivial
      · simp only [List.take_succ_cons, List.take_zero]; 
        refine KindSteps.cons ?_ ?_
        · intro xs w9 hw hd
          (first | (with_reducible have hw2 := World.plus_of_below ((World.below_plus _ _).trans (hw.mono (World.size_plus _ _))); obtain ⟨u, rfl⟩ := hw2) | (obtain ⟨u, rfl⟩ := World.plus_of_below hw))
          simp only [fill, Act.put, List.take_succ_cons, List.take_zero, List.drop_succ_cons, List.drop_zero, Nat.reduceAdd, Nat.zero_add, List.setIfInBounds_toArray, List.set_cons_succ, List.set_cons_zero, if_true, if_false, Nat.reduceEqDiff, reduceIte]
          go_wp2_with fail
          all_goals (first | exact Below.refl _ _ | exact ⟨by (repeat' (first | (with_reducible exact Below.refl _ _) | (with_reducible assumption) | (with_reducible refine Below.plus0 ?_ _) | (with_reducible refine Below.alloc0 ?_ _) | (with_reducible refine Below.plus ?_ ?_ _) | (with_reducible refine Below.alloc ?_ ?_ _) | (with_reducible refine Below.drew ?_) | (with_reducible refine Below.drewN ?_ _) | (simp [go_sem]; done) | (simp [go_sem]; omega))), _, rfl, rfl⟩ | exact ⟨rfl, by (repeat' (first | (with_reducible exact Below.refl _ _) | (with_reducible assumption) | (with_reducible refine Below.plus0 ?_ _) | (with_reducible refine Below.alloc0 ?_ _) | (with_reducible refine Below.plus ?_ ?_ _) | (with_reducible refine Below.alloc ?_ ?_ _) | (with_reducible refine Below.drew ?_) | (with_reducible refine Below.drewN ?_ _) | (simp [go_sem]; done) | (simp [go_sem]; omega))), _, rfl, rfl⟩ | exact ⟨by (repeat' (first | (with_reducible exact Below.refl _ _) | (with_reducible assumption) | (with_reducible refine Below.plus0 ?_ _) | (with_reducible refine Below.alloc0 ?_ _) | (with_reducible refine Below.plus ?_ ?_ _) | (with_reducible refine Below.alloc ?_ ?_ _) | (with_reducible refine Below.drew ?_) | (with_reducible refine Below.drewN ?_ _) | (simp [go_sem]; done) | (simp [go_sem]; omega))), rfl⟩ | (trace_state; fail))
        refine KindSteps.cons ?_ ?_
        · intro xs w9 hw hd
          (first | (with_reducible have hw2 := World.plus_of_below ((World.below_plus _ _).trans (hw.mono (World.size_plus _ _))); obtain ⟨u, rfl⟩ := hw2) | (obtain ⟨u, rfl⟩ := World.plus_of_below hw))
          simp only [fill, Act.put, List.take_succ_cons, List.take_zero, List.drop_succ_cons, List.drop_zero, Nat.reduceAdd, Nat.zero_add, List.setIfInBounds_toArray, List.set_cons_succ, List.set_cons_zero, if_true, if_false, Nat.reduceEqDiff, reduceIte]
          go_wp2_with (go_at_call 31; refine (h9.out _).mono ?_; rintro e w8 ⟨rfl, hb⟩)
          all_goals (first | exact Below.refl _ _ | exact hb | exact ⟨hb, _, rfl, rfl⟩ | exact ⟨rfl, hb, _, rfl, rfl⟩)
        refine KindSteps.cons ?_ ?_
        · intro xs w9 hw hd
          (first | (with_reducible have hw2 := World.plus_of_below ((World.below_plus _ _).trans (hw.mono (World.size_plus _ _))); obtain ⟨u, rfl⟩ := hw2) | (obtain ⟨u, rfl⟩ := World.plus_of_below hw))
          simp only [fill, Act.put, List.take_succ_cons, List.take_zero, List.drop_succ_cons, List.drop_zero, Nat.reduceAdd, Nat.zero_add, List.setIfInBounds_toArray, List.set_cons_succ, List.set_cons_zero, if_true, if_false, Nat.reduceEqDiff, reduceIte]
          have f0 : (xs 0) = .agg #[.bool (sg r), .string (mg r)] := hd 0 (by kernel_rfl); simp only [f0]
          have f1 : (xs 1) = .agg #[.bool (sg 1), .string (mg 1)] := hd 1 (by kernel_rfl); simp only [f1]
          go_wp2_with (go_at_call 22; refine (h8.out _).mono ?_; rintro e w8 ⟨rfl, hb⟩)
          all_goals (first | exact Below.refl _ _ | exact hb | exact ⟨hb, _, rfl, rfl⟩ | exact ⟨rfl, hb, _, rfl, rfl⟩)
        refine KindSteps.cons ?_ ?_
        · intro xs w9 hw hd
          (first | (with_reducible have hw2 := World.plus_of_below ((World.below_plus _ _).trans (hw.mono (World.size_plus _ _))); obtain ⟨u, rfl⟩ := hw2) | (obtain ⟨u, rfl⟩ := World.plus_of_below hw))
          simp only [fill, Act.put, List.take_succ_cons, List.take_zero, List.drop_succ_cons, List.drop_zero, Nat.reduceAdd, Nat.zero_add, List.setIfInBounds_toArray, List.set_cons_succ, List.set_cons_zero, if_true, if_false, Nat.reduceEqDiff, reduceIte]
          go_wp2_with fail
          all_goals (first | exact Below.refl _ _ | exact ⟨by (repeat' (first | (with_reducible exact Below.refl _ _) | (with_reducible assumption) | (with_reducible refine Below.plus0 ?_ _) | (with_reducible refine Below.alloc0 ?_ _) | (with_reducible refine Below.plus ?_ ?_ _) | (with_reducible refine Below.alloc ?_ ?_ _) | (with_reducible refine Below.drew ?_) | (with_reducible refine Below.drewN ?_ _) | (simp [go_sem]; done) | (simp [go_sem]; omega))), _, rfl, (PB.new (by first | (exact World.size_plus _ _) | (exact Nat.le_refl _) | omega | (exact Nat.le_trans (by assumption) (World.size_plus _ _)) | (simp [go_sem]; omega)))⟩ | exact ⟨rfl, by (repeat' (first | (with_reducible exact Below.refl _ _) | (with_reducible assumption) | (with_reducible refine Below.plus0 ?_ _) | (with_reducible refine Below.alloc0 ?_ _) | (with_reducible refine Below.plus ?_ ?_ _) | (with_reducible refine Below.alloc ?_ ?_ _) | (with_reducible refine Below.drew ?_) | (with_reducible refine Below.drewN ?_ _) | (simp [go_sem]; done) | (simp [go_sem]; omega))), _, rfl, (PB.new (by first | (exact World.size_plus _ _) | (exact Nat.le_refl _) | omega | (exact Nat.le_trans (by assumption) (World.size_plus _ _)) | (simp [go_sem]; omega)))⟩ | exact ⟨by (repeat' (first | (with_reducible exact Below.refl _ _) | (with_reducible assumption) | (with_reducible refine Below.plus0 ?_ _) | (with_reducible refine Below.alloc0 ?_ _) | (with_reducible refine Below.plus ?_ ?_ _) | (with_reducible refine Below.alloc ?_ ?_ _) | (with_reducible refine Below.drew ?_) | (with_reducible refine Below.drewN ?_ _) | (simp [go_sem]; done) | (simp [go_sem]; omega))), (PB.new (by first | (exact World.size_plus _ _) | (exact Nat.le_refl _) | omega | (exact Nat.le_trans (by assumption) (World.size_plus _ _)) | (simp [go_sem]; omega)))⟩ | (trace_state; fail))
        exact KindSteps.nil
      intro xs w9 hw hd
      (first | (with_reducible have hw2 := World.plus_of_below ((World.below_plus _ _).trans (hw.mono (World.size_plus _ _))); obtain ⟨u, rfl⟩ := hw2) | (obtain ⟨u, rfl⟩ := World.plus_of_below hw))
      simp only [fill, Act.put, List.take_succ_cons, List.take_zero, List.drop_succ_cons, List.drop_zero, Nat.reduceAdd, Nat.zero_add, List.setIfInBounds_toArray, List.set_cons_succ, List.set_cons_zero, if_true, if_false, Nat.reduceEqDiff, reduceIte]
      have f0 : (xs 0) = .agg #[.bool (sg r), .string (mg r)] := hd 0 (by decide)
      simp only [f0]
      have f1 : (xs 1) = .agg #[.bool (sg 1), .string (mg 1)] := hd 1 (by decide)
      simp only [f1]
      have f2 : (xs 2) = .agg #[.bool (sg n), .string (mg n)] := hd 2 (by decide)
      simp only [f2]
      have f3 : PB V4.heap.size #[.bool false, .string ⟨#[]⟩] 23 (xs 3) _ := hd 3 (by decide)
      clear hd
      obtain ⟨b9, e9, hge, hg9⟩ := f3
      simp only [e9]
      obtain ⟨V5, hV5⟩ : ∃ z, z = V4.plus u := ⟨_, rfl⟩
      rw [← hV5] at hg9 ⊢
      replace c10 : V5.cell? ⟨b1, 0, none⟩ = some (.bool (sg a)) := by rw [hV5]; simp [go_sem, c10, z1]
      replace c11 : V5.cell? ⟨b1, 1, none⟩ = some (.string (mg a)) := by rw [hV5]; simp [go_sem, c11, z1]
      replace c30 : V5.cell? ⟨b3, 0, none⟩ = some (.bool (sg r)) := by rw [hV5]; simp [go_sem, c30, z3]
      replace c31 : V5.cell? ⟨b3, 1, none⟩ = some (.string (mg r)) := by rw [hV5]; simp [go_sem, c31, z3]
      replace c50 : V5.cell? ⟨b5, 0, none⟩ = some (.bool (sg r)) := by rw [hV5]; simp [go_sem, c50, z5]
      replace c51 : V5.cell? ⟨b5, 1, none⟩ = some (.string (mg r)) := by rw [hV5]; simp [go_sem, c51, z5]
      replace hbw : Below w.heap.size w V5 := by rw [hV5]; (repeat' (first | (with_reducible exact Below.refl _ _) | (with_reducible assumption) | (with_reducible refine Below.plus0 ?_ _) | (with_reducible refine Below.alloc0 ?_ _) | (with_reducible refine Below.plus ?_ ?_ _) | (with_reducible refine Below.alloc ?_ ?_ _) | (with_reducible refine Below.drew ?_) | (with_reducible refine Below.drewN ?_ _) | (simp [go_sem]; done) | (simp [go_sem]; omega)))
      have n19 : b1 ≠ b9 := by omega
      have n39 : b3 ≠ b9 := by omega
      have n59 : b5 ≠ b9 := by omega
      have hb9w : w.heap.size ≤ b9 := by have := hbw.size; omega
      have z9 := (Array.getElem?_eq_some_iff.1 hg9).1
      have e5 := World.row_self V5 _ _ _ hg9
      rw [← e5]
      clear e5 hg9 e9 hV5 hge hw
      go_wp2_with fail
      obtain ⟨V6, hV6⟩ : ∃ z, z = V5.row b9 23 #[.bool (sg n), .string (mg n)] := ⟨_, rfl⟩
      rw [← hV6]
      replace c10 : V6.cell? ⟨b1, 0, none⟩ = some (.bool (sg a)) := by rw [hV6]; simp [go_sem, c10, z1, n19]
      replace c11 : V6.cell? ⟨b1, 1, none⟩ = some (.string (mg a)) := by rw [hV6]; simp [go_sem, c11, z1, n19]
      replace c30 : V6.cell? ⟨b3, 0, none⟩ = some (.bool (sg r)) := by rw [hV6]; simp [go_sem, c30, z3, n39]
      replace c31 : V6.cell? ⟨b3, 1, none⟩ = some (.string (mg r)) := by rw [hV6]; simp [go_sem, c31, z3, n39]
      replace c50 : V6.cell? ⟨b5, 0, none⟩ = some (.bool (sg r)) := by rw [hV6]; simp [go_sem, c50, z5, n59]
      replace c51 : V6.cell? ⟨b5, 1, none⟩ = some (.string (mg r)) := by rw [hV6]; simp [go_sem, c51, z5, n59]
      have c90 : V6.cell? ⟨b9, 0, none⟩ = some (.bool (sg n)) := by rw [hV6]; simp [go_sem, z9]
      have c91 : V6.cell? ⟨b9, 1, none⟩ = some (.string (mg n)) := by rw [hV6]; simp [go_sem, z9]
      replace hbw : Below w.heap.size w V6 := by rw [hV6]; (repeat' (first | (with_reducible exact Below.refl _ _) | (with_reducible assumption) | (with_reducible refine Below.plus0 ?_ _) | (with_reducible refine Below.row ?_ ?_ _ _) | (with_reducible refine Below.alloc0 ?_ _) | (with_reducible refine Below.plus ?_ ?_ _) | (with_reducible refine Below.alloc ?_ ?_ _) | (with_reducible refine Below.drew ?_) | (with_reducible refine Below.drewN ?_ _) | (simp [go_sem]; done) | (simp [go_sem]; omega)))
      clear hV6
      replace z1 : b1 < V6.heap.size := World.block_lt_of_cell? _ _ c10
      replace z3 : b3 < V6.heap.size := World.block_lt_of_cell? _ _ c30
      replace z5 : b5 < V6.heap.size := World.block_lt_of_cell? _ _ c50
      replace z9 : b9 < V6.heap.size := World.block_lt_of_cell? _ _ c90
      ((first | (with_reducible refine wp_region_steady_plus (by kernel_rfl) (by kernel_rfl) ?_) | refine wp_region_steady (by kernel_rfl) (by kernel_rfl) ?_); repeat go_big_quiet_step (first | (go_at_call 21; first | (with_reducible refine Calls.steady (h10.out _))) | (go_at_call 20; first | (with_reducible refine Calls.steady (h7.out _))) | (go_at_call 18; first | (with_reducible refine Calls.steady (h11.out _)) | (with_reducible refine Calls.steady (h12.out _))) | (go_at_call 23; first | (with_reducible refine Calls.steady (h13.out _)) | (with_reducible refine Calls.steady (h14.out _))))); (refine wpQuiet_nil ?_; rintro _ ⟨u, rfl⟩)
      go_wp2_with fail
      ((first | (with_reducible refine wp_region_steady_plus (by kernel_rfl) (by kernel_rfl) ?_) | refine wp_region_steady (by kernel_rfl) (by kernel_rfl) ?_); repeat go_big_quiet_step (first | (go_at_call 18; first | (with_reducible refine Calls.steady (h11.out _))))); (refine wpQuiet_nil ?_; rintro _ ⟨u, rfl⟩)
      go_wp2_with fail
      go_ret
      exact ⟨rfl, by (repeat' (first | (with_reducible exact Below.refl _ _) | (with_reducible assumption) | (with_reducible refine Below.plus0 ?_ _) | (with_reducible refine Below.row ?_ ?_ _ _) | (with_reducible refine Below.alloc0 ?_ _) | (with_reducible refine Below.plus ?_ ?_ _) | (with_reducible refine Below.alloc ?_ ?_ _) | (with_reducible refine Below.drew ?_) | (with_reducible refine Below.drewN ?_ _) | (simp [go_sem]; done) | (simp [go_sem]; omega)))⟩
    · have h5 : Hid (∀ w, Calls Tryd.prog 48 #[.agg #[.bool (sg a), .string (mg a)]] w fun e w' => e = .returned (.tuple #[.agg #[.bool false, .string ⟨#[]⟩], .bool false]) ∧ Below w.heap.size w w') := Lib.hid fun w => IsSquare_no a R (by omega) hR1 hR2 hsq w (by omega)
      have hrne : rr ≠ a := by
        rw [err, er]
        have e : ((R : Int) * (R : Int)) = ((R * R : Nat) : Int) := by simp
        rw [e]; omega
      have hrr0 : 0 ≤ rr := by
        rw [err, er]
        have e : ((R : Int) * (R : Int)) = ((R * R : Nat) : Int) := by simp
        rw [e]; omega
      have hq1 : (sg rr == sg a) = true := by rw [sg_false rr hrr0, sg_false a (by omega)]; rfl
      have hq2 : ((mg rr).toList == (mg a).toList) = false := by
        rw [show mg rr = mag rr.natAbs from rfl, show mg a = mag a.natAbs from rfl, mag_beq, beq_eq_false_iff_ne]; omega
      clear hrne hrr0 ea la0 la em lm ev hm hm0 ha hneg hR1 hR2 er en err enn hRa lr0 ln0 lr ln lrr lnn hrr hnn hsa hsr hc1 hsq
      go_enter Tryd.func14, Tryd.ntmps14
      go_wp2_with fail
      (go_wp2_with fail; refine (ina.out _).mono ?_; rintro e w' ⟨rfl, hb⟩; (first | (with_reducible (have hb2 := World.plus_of_below ((World.below_plus _ _).trans (hb.mono (World.size_plus _ _)))); obtain ⟨u, rfl⟩ := hb2) | (obtain ⟨u, rfl⟩ := World.plus_of_below hb)); clear hb)
      go_wp2_with fail
      (go_wp2_with fail; refine (h4.out _).mono ?_; rintro e w' ⟨rfl, hb⟩; (first | (with_reducible (have hb2 := World.plus_of_below ((World.below_plus _ _).trans (hb.mono (World.size_plus _ _)))); obtain ⟨u, rfl⟩ := hb2) | (obtain ⟨u, rfl⟩ := World.plus_of_below hb)); clear hb)
      obtain ⟨V1, hV1⟩ : ∃ z, z = (w.alloc (.cells #[.bool (sg a), .string (mg a)] 23)).plus u := ⟨_, rfl⟩
      rw [← hV1]
      obtain ⟨b1, hb1⟩ : ∃ b, b = w.heap.size := ⟨_, rfl⟩
      rw [← hb1]
      have c10 : V1.cell? ⟨b1, 0, none⟩ = some (.bool (sg a)) := by rw [hV1, hb1]; simp [go_sem]
      have c11 : V1.cell? ⟨b1, 1, none⟩ = some (.string (mg a)) := by rw [hV1, hb1]; simp [go_sem]
      have hbw : Below w.heap.size w V1 := by rw [hV1]; (repeat' (first | (with_reducible exact Below.refl _ _) | (with_reducible assumption) | (with_reducible refine Below.plus0 ?_ _) | (with_reducible refine Below.alloc0 ?_ _) | (with_reducible refine Below.plus ?_ ?_ _) | (with_reducible refine Below.alloc ?_ ?_ _) | (with_reducible refine Below.drew ?_) | (with_reducible refine Below.drewN ?_ _) | (simp [go_sem]; done) | (simp [go_sem]; omega)))
      have z1 : b1 < V1.heap.size := World.block_lt_of_cell? _ _ c10
      have hb1w : w.heap.size ≤ b1 := by omega
      clear hV1 hb1
      go_wp2_with fail
      (go_wp2_with fail; refine (h5.out _).mono ?_; rintro e w' ⟨rfl, hb⟩; obtain ⟨u, rfl⟩ := World.plus_of_below hb; clear hb)
      obtain ⟨V2, hV2⟩ : ∃ z, z = (V1.alloc (.cells #[.bool (sg r), .string (mg r)] 23)).plus u := ⟨_, rfl⟩
      rw [← hV2]
      obtain ⟨b3, hb3⟩ : ∃ b, b = V1.heap.size := ⟨_, rfl⟩
      rw [← hb3]
      have c30 : V2.cell? ⟨b3, 0, none⟩ = some (.bool (sg r)) := by rw [hV2, hb3]; simp [go_sem]
      have c31 : V2.cell? ⟨b3, 1, none⟩ = some (.string (mg r)) := by rw [hV2, hb3]; simp [go_sem]
      replace c10 : V2.cell? ⟨b1, 0, none⟩ = some (.bool (sg a)) := by rw [hV2]; simp [go_sem, c10, z1]
      replace c11 : V2.cell? ⟨b1, 1, none⟩ = some (.string (mg a)) := by rw [hV2]; simp [go_sem, c11, z1]
      replace hbw : Below w.heap.size w V2 := by rw [hV2]; (repeat' (first | (with_reducible exact Below.refl _ _) | (with_reducible assumption) | (with_reducible refine Below.plus0 ?_ _) | (with_reducible refine Below.alloc0 ?_ _) | (with_reducible refine Below.plus ?_ ?_ _) | (with_reducible refine Below.alloc ?_ ?_ _) | (with_reducible refine Below.drew ?_) | (with_reducible refine Below.drewN ?_ _) | (simp [go_sem]; done) | (simp [go_sem]; omega)))
      have n13 : b1 ≠ b3 := by omega
      replace z1 : b1 < V2.heap.size := World.block_lt_of_cell? _ _ c10
      have z3 : b3 < V2.heap.size := World.block_lt_of_cell? _ _ c30
      clear hV2 hb3
      go_wp2_with fail
      (go_wp2_with fail; refine (h1.out _).mono ?_; rintro e w' ⟨rfl, hb⟩; obtain ⟨u, rfl⟩ := World.plus_of_below hb; clear hb)
      revert u
      intro ua
      (go_wp2_with fail; refine (h2.out _).mono ?_; rintro e w' ⟨rfl, hb⟩; (first | (with_reducible (have hb2 := World.plus_of_below ((World.below_plus _ _).trans (hb.mono (World.size_plus _ _)))); obtain ⟨u, rfl⟩ := hb2) | (obtain ⟨u, rfl⟩ := World.plus_of_below hb)); clear hb)
      obtain ⟨V3, hV3⟩ : ∃ z, z = (V2.alloc (.cells #[.bool false, .string ⟨#[]⟩] 23)).plus u := ⟨_, rfl⟩
      rw [← hV3]
      obtain ⟨b5, hb5⟩ : ∃ b, b = V2.heap.size := ⟨_, rfl⟩
      rw [← hb5]
      have c50 : V3.cell? ⟨b5, 0, none⟩ = some (.bool false) := by rw [hV3, hb5]; simp [go_sem]
      have c51 : V3.cell? ⟨b5, 1, none⟩ = some (.string ⟨#[]⟩) := by rw [hV3, hb5]; simp [go_sem]
      replace c10 : V3.cell? ⟨b1, 0, none⟩ = some (.bool (sg a)) := by rw [hV3]; simp [go_sem, c10, z1]
      replace c11 : V3.cell? ⟨b1, 1, none⟩ = some (.string (mg a)) := by rw [hV3]; simp [go_sem, c11, z1]
      replace c30 : V3.cell? ⟨b3, 0, none⟩ = some (.bool (sg r)) := by rw [hV3]; simp [go_sem, c30, z3]
      replace c31 : V3.cell? ⟨b3, 1, none⟩ = some (.string (mg r)) := by rw [hV3]; simp [go_sem, c31, z3]
      replace hbw : Below w.heap.size w V3 := by rw [hV3]; (repeat' (first | (with_reducible exact Below.refl _ _) | (with_reducible assumption) | (with_reducible refine Below.plus0 ?_ _) | (with_reducible refine Below.alloc0 ?_ _) | (with_reducible refine Below.plus ?_ ?_ _) | (with_reducible refine Below.alloc ?_ ?_ _) | (with_reducible refine Below.drew ?_) | (with_reducible refine Below.drewN ?_ _) | (simp [go_sem]; done) | (simp [go_sem]; omega)))
      have n15 : b1 ≠ b5 := by omega
      have n35 : b3 ≠ b5 := by omega
      replace z1 : b1 < V3.heap.size := World.block_lt_of_cell? _ _ c10
      replace z3 : b3 < V3.heap.size := World.block_lt_of_cell? _ _ c30
      have z5 : b5 < V3.heap.size := World.block_lt_of_cell? _ _ c50
      clear hV3 hb5
      go_wp2_with fail
      ((first | (with_reducible refine wp_region_steady_plus (by kernel_rfl) (by kernel_rfl) ?_) | refine wp_region_steady (by kernel_rfl) (by kernel_rfl) ?_); repeat go_big_quiet_step (first | (go_at_call 16; refine Calls.steady (known_c _)) | (go_at_call 24; refine Calls.steady (h3.out _)))); (refine wpQuiet_nil ?_; rintro _ ⟨u, rfl⟩)
      go_wp2_with fail
      (go_wp2_with fail; refine (h6.out _).mono ?_; rintro e w' ⟨rfl, hb⟩; (first | (with_reducible (have hb2 := World.plus_of_below ((World.below_plus _ _).trans (hb.mono (World.size_plus _ _)))); obtain ⟨u, rfl⟩ := hb2) | (obtain ⟨u, rfl⟩ := World.plus_of_below hb)); clear hb)
      obtain ⟨V4, hV4⟩ : ∃ z, z = (V3.alloc (.cells #[.bool (sg v), .string (mg v)] 23)).plus u := ⟨_, rfl⟩
      rw [← hV4]
      obtain ⟨b7, hb7⟩ : ∃ b, b = V3.heap.size := ⟨_, rfl⟩
      rw [← hb7]
      have c70 : V4.cell? ⟨b7, 0, none⟩ = some (.bool (sg v)) := by rw [hV4, hb7]; simp [go_sem]
      have c71 : V4.cell? ⟨b7, 1, none⟩ = some (.string (mg v)) := by rw [hV4, hb7]; simp [go_sem]
      replace c10 : V4.cell? ⟨b1, 0, none⟩ = some (.bool (sg a)) := by rw [hV4]; simp [go_sem, c10, z1]
      replace c11 : V4.cell? ⟨b1, 1, none⟩ = some (.string (mg a)) := by rw [hV4]; simp [go_sem, c11, z1]
      replace c30 : V4.cell? ⟨b3, 0, none⟩ = some (.bool (sg r)) := by rw [hV4]; simp [go_sem, c30, z3]
      replace c31 : V4.cell? ⟨b3, 1, none⟩ = some (.string (mg r)) := by rw [hV4]; simp [go_sem, c31, z3]
      replace c50 : V4.cell? ⟨b5, 0, none⟩ = some (.bool false) := by rw [hV4]; simp [go_sem, c50, z5]
      replace c51 : V4.cell? ⟨b5, 1, none⟩ = some (.string ⟨#[]⟩) := by rw [hV4]; simp [go_sem, c51, z5]
      replace hbw : Below w.heap.size w V4 := by rw [hV4]; (repeat' (first | (with_reducible exact Below.refl _ _) | (with_reducible assumption) | (with_reducible refine Below.plus0 ?_ _) | (with_reducible refine Below.alloc0 ?_ _) | (with_reducible refine Below.plus ?_ ?_ _) | (with_reducible refine Below.alloc ?_ ?_ _) | (with_reducible refine Below.drew ?_) | (with_reducible refine Below.drewN ?_ _) | (simp [go_sem]; done) | (simp [go_sem]; omega)))
      have n17 : b1 ≠ b7 := by omega
      have n37 : b3 ≠ b7 := by omega
      have n57 : b5 ≠ b7 := by omega
      replace z1 : b1 < V4.heap.size := World.block_lt_of_cell? _ _ c10
      replace z3 : b3 < V4.heap.size := World.block_lt_of_cell? _ _ c30
      replace z5 : b5 < V4.heap.size := World.block_lt_of_cell? _ _ c50
      have z7 : b7 < V4.heap.size := World.block_lt_of_cell? _ _ c70
      clear hV4 hb7
      go_wp2_with fail
      refine wp_region_facts_t 4 (fun i v w9 => match i with
        | 0 => v = .agg #[.bool (sg r), .string (mg r)]
        | 1 => v = .agg #[.bool (sg 1), .string (mg 1)]
        | 2 => v = .agg #[.bool (sg n), .string (mg n)]
        | 3 => PB V4.heap.size #[.bool false, .string ⟨#[]⟩] 23 v w9
        | _ => True) (by kernel_rfl) (by kernel_rfl) ?_ ?_ ?_
      · intro i v w1 w2 hb h
        match i, h with
        | 0, h => exact h
        | 1, h => exact h
        | 2, h => exact h
        | 3, h => exact PB.below h hb
        | k + 4, h => exact trivial
      · simp only [List.take_succ_cons, List.take_zero]; 
        refine KindSteps.cons ?_ ?_
        · intro xs w9 hw hd
          (first | (with_reducible have hw2 := World.plus_of_below ((World.below_plus _ _).trans (hw.mono (World.size_plus _ _))); obtain ⟨u, rfl⟩ := hw2) | (obtain ⟨u, rfl⟩ := World.plus_of_below hw))
          simp only [fill, Act.put, List.take_succ_cons, List.take_zero, List.drop_succ_cons, List.drop_zero, Nat.reduceAdd, Nat.zero_add, List.setIfInBounds_toArray, List.set_cons_succ, List.set_cons_zero, if_true, if_false, Nat.reduceEqDiff, reduceIte]
          go_wp2_with fail
          all_goals (first | exact Below.refl _ _ | exact ⟨by (repeat' (first | (with_reducible exact Below.refl _ _) | (with_reducible assumption) | (with_reducible refine Below.plus0 ?_ _) | (with_reducible refine Below.alloc0 ?_ _) | (with_reducible refine Below.plus ?_ ?_ _) | (with_reducible refine Below.alloc ?_ ?_ _) | (with_reducible refine Below.drew ?_) | (with_reducible refine Below.drewN ?_ _) | (simp [go_sem]; done) | (simp [go_sem]; omega))), _, rfl, rfl⟩ | exact ⟨rfl, by (repeat' (first | (with_reducible exact Below.refl _ _) | (with_reducible assumption) | (with_reducible refine Below.plus0 ?_ _) | (with_reducible refine Below.alloc0 ?_ _) | (with_reducible refine Below.plus ?_ ?_ _) | (with_reducible refine Below.alloc ?_ ?_ _) | (with_reducible refine Below.drew ?_) | (with_reducible refine Below.drewN ?_ _) | (simp [go_sem]; done) | (simp [go_sem]; omega))), _, rfl, rfl⟩ | exact ⟨by (repeat' (first | (with_reducible exact Below.refl _ _) | (with_reducible assumption) | (with_reducible refine Below.plus0 ?_ _) | (with_reducible refine Below.alloc0 ?_ _) | (with_reducible refine Below.plus ?_ ?_ _) | (with_reducible refine Below.alloc ?_ ?_ _) | (with_reducible refine Below.drew ?_) | (with_reducible refine Below.drewN ?_ _) | (simp [go_sem]; done) | (simp [go_sem]; omega))), rfl⟩ | (trace_state; fail))
        refine KindSteps.cons ?_ ?_
        · intro xs w9 hw hd
          (first | (with_reducible have hw2 := World.plus_of_below ((World.below_plus _ _).trans (hw.mono (World.size_plus _ _))); obtain ⟨u, rfl⟩ := hw2) | (obtain ⟨u, rfl⟩ := World.plus_of_below hw))
          simp only [fill, Act.put, List.take_succ_cons, List.take_zero, List.drop_succ_cons, List.drop_zero, Nat.reduceAdd, Nat.zero_add, List.setIfInBounds_toArray, List.set_cons_succ, List.set_cons_zero, if_true, if_false, Nat.reduceEqDiff, reduceIte]
          go_wp2_with (go_at_call 31; refine (h9.out _).mono ?_; rintro e w8 ⟨rfl, hb⟩)
          all_goals (first | exact Below.refl _ _ | exact hb | exact ⟨hb, _, rfl, rfl⟩ | exact ⟨rfl, hb, _, rfl, rfl⟩)
        refine KindSteps.cons ?_ ?_
        · intro xs w9 hw hd
          (first | (with_reducible have hw2 := World.plus_of_below ((World.below_plus _ _).trans (hw.mono (World.size_plus _ _))); obtain ⟨u, rfl⟩ := hw2) | (obtain ⟨u, rfl⟩ := World.plus_of_below hw))
          simp only [fill, Act.put, List.take_succ_cons, List.take_zero, List.drop_succ_cons, List.drop_zero, Nat.reduceAdd, Nat.zero_add, List.setIfInBounds_toArray, List.set_cons_succ, List.set_cons_zero, if_true, if_false, Nat.reduceEqDiff, reduceIte]
          have f0 : (xs 0) = .agg #[.bool (sg r), .string (mg r)] := hd 0 (by kernel_rfl); simp only [f0]
          have f1 : (xs 1) = .agg #[.bool (sg 1), .string (mg 1)] := hd 1 (by kernel_rfl); simp only [f1]
          go_wp2_with (go_at_call 22; refine (h8.out _).mono ?_; rintro e w8 ⟨rfl, hb⟩)
          all_goals (first | exact Below.refl _ _ | exact hb | exact ⟨hb, _, rfl, rfl⟩ | exact ⟨rfl, hb, _, rfl, rfl⟩)
        refine KindSteps.cons ?_ ?_
        · intro xs w9 hw hd
          (first | (with_reducible have hw2 := World.plus_of_below ((World.below_plus _ _).trans (hw.mono (World.size_plus _ _))); obtain ⟨u, rfl⟩ := hw2) | (obtain ⟨u, rfl⟩ := World.plus_of_below hw))
          simp only [fill, Act.put, List.take_succ_cons, List.take_zero, List.drop_succ_cons, List.drop_zero, Nat.reduceAdd, Nat.zero_add, List.setIfInBounds_toArray, List.set_cons_succ, List.set_cons_zero, if_true, if_false, Nat.reduceEqDiff, reduceIte]
          go_wp2_with fail
          all_goals (first | exact Below.refl _ _ | exact ⟨by (repeat' (first | (with_reducible exact Below.refl _ _) | (with_reducible assumption) | (with_reducible refine Below.plus0 ?_ _) | (with_reducible refine Below.alloc0 ?_ _) | (with_reducible refine Below.plus ?_ ?_ _) | (with_reducible refine Below.alloc ?_ ?_ _) | (with_reducible refine Below.drew ?_) | (with_reducible refine Below.drewN ?_ _) | (simp [go_sem]; done) | (simp [go_sem]; omega))), _, rfl, (PB.new (by first | (exact World.size_plus _ _) | (exact Nat.le_refl _) | omega | (exact Nat.le_trans (by assumption) (World.size_plus _ _)) | (simp [go_sem]; omega)))⟩ | exact ⟨rfl, by (repeat' (first | (with_reducible exact Below.refl _ _) | (with_reducible assumption) | (with_reducible refine Below.plus0 ?_ _) | (with_reducible refine Below.alloc0 ?_ _) | (with_reducible refine Below.plus ?_ ?_ _) | (with_reducible refine Below.alloc ?_ ?_ _) | (with_reducible refine Below.drew ?_) | (with_reducible refine Below.drewN ?_ _) | (simp [go_sem]; done) | (simp [go_sem]; omega))), _, rfl, (PB.new (by first | (exact World.size_plus _ _) | (exact Nat.le_refl _) | omega | (exact Nat.le_trans (by assumption) (World.size_plus _ _)) | (simp [go_sem]; omega)))⟩ | exact ⟨by (repeat' (first | (with_reducible exact Below.refl _ _) | (with_reducible assumption) | (with_reducible refine Below.plus0 ?_ _) | (with_reducible refine Below.alloc0 ?_ _) | (with_reducible refine Below.plus ?_ ?_ _) | (with_reducible refine Below.alloc ?_ ?_ _) | (with_reducible refine Below.drew ?_) | (with_reducible refine Below.drewN ?_ _) | (simp [go_sem]; done) | (simp [go_sem]; omega))), (PB.new (by first | (exact World.size_plus _ _) | (exact Nat.le_refl _) | omega | (exact Nat.le_trans (by assumption) (World.size_plus _ _)) | (simp [go_sem]; omega)))⟩ | (trace_state; fail))
        exact KindSteps.nil
      intro xs w9 hw hd
      (first | (with_reducible have hw2 := World.plus_of_below ((World.below_plus _ _).trans (hw.mono (World.size_plus _ _))); obtain ⟨u, rfl⟩ := hw2) | (obtain ⟨u, rfl⟩ := World.plus_of_below hw))
      simp only [fill, Act.put, List.take_succ_cons, List.take_zero, List.drop_succ_cons, List.drop_zero, Nat.reduceAdd, Nat.zero_add, List.setIfInBounds_toArray, List.set_cons_succ, List.set_cons_zero, if_true, if_false, Nat.reduceEqDiff, reduceIte]
      have f0 : (xs 0) = .agg #[.bool (sg r), .string (mg r)] := hd 0 (by decide)
      simp only [f0]
      have f1 : (xs 1) = .agg #[.bool (sg 1), .string (mg 1)] := hd 1 (by decide)
      simp only [f1]
      have f2 : (xs 2) = .agg #[.bool (sg n), .string (mg n)] := hd 2 (by decide)
      simp only [f2]
      have f3 : PB V4.heap.size #[.bool false, .string ⟨#[]⟩] 23 (xs 3) _ := hd 3 (by decide)
      clear hd
      obtain ⟨b9, e9, hge, hg9⟩ := f3
      simp only [e9]
      obtain ⟨V5, hV5⟩ : ∃ z, z = V4.plus u := ⟨_, rfl⟩
      rw [← hV5] at hg9 ⊢
      replace c10 : V5.cell? ⟨b1, 0, none⟩ = some (.bool (sg a)) := by rw [hV5]; simp [go_sem, c10, z1]
      replace c11 : V5.cell? ⟨b1, 1, none⟩ = some (.string (mg a)) := by rw [hV5]; simp [go_sem, c11, z1]
      replace c30 : V5.cell? ⟨b3, 0, none⟩ = some (.bool (sg r)) := by rw [hV5]; simp [go_sem, c30, z3]
      replace c31 : V5.cell? ⟨b3, 1, none⟩ = some (.string (mg r)) := by rw [hV5]; simp [go_sem, c31, z3]
      replace c50 : V5.cell? ⟨b5, 0, none⟩ = some (.bool false) := by rw [hV5]; simp [go_sem, c50, z5]
      replace c51 : V5.cell? ⟨b5, 1, none⟩ = some (.string ⟨#[]⟩) := by rw [hV5]; simp [go_sem, c51, z5]
      replace hbw : Below w.heap.size w V5 := by rw [hV5]; (repeat' (first | (with_reducible exact Below.refl _ _) | (with_reducible assumption) | (with_reducible refine Below.plus0 ?_ _) | (with_reducible refine Below.alloc0 ?_ _) | (with_reducible refine Below.plus ?_ ?_ _) | (with_reducible refine Below.alloc ?_ ?_ _) | (with_reducible refine Below.drew ?_) | (with_reducible refine Below.drewN ?_ _) | (simp [go_sem]; done) | (simp [go_sem]; omega)))
      have n19 : b1 ≠ b9 := by omega
      have n39 : b3 ≠ b9 := by omega
      have n59 : b5 ≠ b9 := by omega
      have hb9w : w.heap.size ≤ b9 := by have := hbw.size; omega
      have z9 := (Array.getElem?_eq_some_iff.1 hg9).1
      have e5 := World.row_self V5 _ _ _ hg9
      rw [← e5]
      clear e5 hg9 e9 hV5 hge hw
      go_wp2_with fail
      obtain ⟨V6, hV6⟩ : ∃ z, z = V5.row b9 23 #[.bool (sg n), .string (mg n)] := ⟨_, rfl⟩
      rw [← hV6]
      replace c10 : V6.cell? ⟨b1, 0, none⟩ = some (.bool (sg a)) := by rw [hV6]; simp [go_sem, c10, z1, n19]
      replace c11 : V6.cell? ⟨b1, 1, none⟩ = some (.string (mg a)) := by rw [hV6]; simp [go_sem, c11, z1, n19]
      replace c30 : V6.cell? ⟨b3, 0, none⟩ = some (.bool (sg r)) := by rw [hV6]; simp [go_sem, c30, z3, n39]
      replace c31 : V6.cell? ⟨b3, 1, none⟩ = some (.string (mg r)) := by rw [hV6]; simp [go_sem, c31, z3, n39]
      replace c50 : V6.cell? ⟨b5, 0, none⟩ = some (.bool false) := by rw [hV6]; simp [go_sem, c50, z5, n59]
      replace c51 : V6.cell? ⟨b5, 1, none⟩ = some (.string ⟨#[]⟩) := by rw [hV6]; simp [go_sem, c51, z5, n59]
      have c90 : V6.cell? ⟨b9, 0, none⟩ = some (.bool (sg n)) := by rw [hV6]; simp [go_sem, z9]
      have c91 : V6.cell? ⟨b9, 1, none⟩ = some (.string (mg n)) := by rw [hV6]; simp [go_sem, z9]
      replace hbw : Below w.heap.size w V6 := by rw [hV6]; (repeat' (first | (with_reducible exact Below.refl _ _) | (with_reducible assumption) | (with_reducible refine Below.plus0 ?_ _) | (with_reducible refine Below.row ?_ ?_ _ _) | (with_reducible refine Below.alloc0 ?_ _) | (with_reducible refine Below.plus ?_ ?_ _) | (with_reducible refine Below.alloc ?_ ?_ _) | (with_reducible refine Below.drew ?_) | (with_reducible refine Below.drewN ?_ _) | (simp [go_sem]; done) | (simp [go_sem]; omega)))
      clear hV6
      replace z1 : b1 < V6.heap.size := World.block_lt_of_cell? _ _ c10
      replace z3 : b3 < V6.heap.size := World.block_lt_of_cell? _ _ c30
      replace z5 : b5 < V6.heap.size := World.block_lt_of_cell? _ _ c50
      replace z9 : b9 < V6.heap.size := World.block_lt_of_cell? _ _ c90
      ((first | (with_reducible refine wp_region_steady_plus (by kernel_rfl) (by kernel_rfl) ?_) | refine wp_region_steady (by kernel_rfl) (by kernel_rfl) ?_); repeat go_big_quiet_step (first | (go_at_call 21; first | (with_reducible refine Calls.steady (h10.out _))) | (go_at_call 20; first | (with_reducible refine Calls.steady (h7.out _))) | (go_at_call 18; first | (with_reducible refine Calls.steady (h11.out _)) | (with_reducible refine Calls.steady (h12.out _))) | (go_at_call 23; first | (with_reducible refine Calls.steady (h13.out _)) | (with_reducible refine Calls.steady (h14.out _))))); (refine wpQuiet_nil ?_; rintro _ ⟨u, rfl⟩)
      go_wp2_with fail
      ((first | (with_reducible refine wp_region_steady_plus (by kernel_rfl) (by kernel_rfl) ?_) | refine wp_region_steady (by kernel_rfl) (by kernel_rfl) ?_); repeat go_big_quiet_step (first | (go_at_call 18; first | (with_reducible refine Calls.steady (h11.out _))))); (refine wpQuiet_nil ?_; rintro _ ⟨u, rfl⟩)
      go_wp2_with fail
      go_ret
      exact ⟨rfl, by (repeat' (first | (with_reducible exact Below.refl _ _) | (with_reducible assumption) | (with_reducible refine Below.plus0 ?_ _) | (with_reducible refine Below.row ?_ ?_ _ _) | (with_reducible refine Below.alloc0 ?_ _) | (with_reducible refine Below.plus ?_ ?_ _) | (with_reducible refine Below.alloc ?_ ?_ _) | (with_reducible refine Below.drew ?_) | (with_reducible refine Below.drewN ?_ _) | (simp [go_sem]; done) | (simp [go_sem]; omega)))⟩
end Go.Proofs.YtkoodpbcfdblbaaDoor
