import Derived.Test.YtkoodpbcfdblbaaDoorLawK
set_option linter.unusedSimpArgs false
set_option linter.unusedVariables false
namespace Go.Proofs.YtkoodpbcfdblbaaDoor
open Go Go.RowKit
open Vi
set_option maxRecDepth 100000 in
set_option maxHeartbeats 6400000 in
theorem rParse_neg (s T : ByteArray) (hs0 : 0 < s.size) (hb : (s[0]'hs0).toNat = 45) (hT : s.extract 1 s.size = T) (X E : Int) (HXA : Hid (AllD T → E = 0 ∧ X = -(pv T T.size : Int))) (HXN : Hid (HasN T → E = 15 ∧ X = 0)) (h0 : 0 < T.size) (hl : T.size ≤ 1000) (hf : (T[0]'h0).toNat ≠ 48) (w : World) : Calls Tryd.prog 46 #[.string s] w fun e w' => e = .returned (.tuple #[.agg #[.bool (sg X), .string (mg X)], .int .i64 E]) ∧ Below w.heap.size w w' := by
  obtain ⟨N, hN⟩ : ∃ N, N = T.size := ⟨_, rfl⟩
  have HN := Lib.hid hN
  have hNb : N ≤ 1000 := by omega
  have hTe := emp_false h0
  have hl2 : ¬ (1000 : Int) < (T.size : Int) := by omega
  have hse := emp_false hs0
  have hb2 : ((s[0]'hs0).toNat : Int) = 45 := by omega
  have hsz1 : (1 : Int) ≤ (s.size : Int) := by omega
  have hf2 : (((T[0]'h0).toNat : Int) == 48) = false := by rw [beq_eq_false_iff_ne]; omega
  clear hN hb hf
  go_enter Tryd.func46, Tryd.ntmps46
  go_wp2_with fail
  go_loopw [6] (fun v wr => ∃ (k A : Nat) (u : World), k ≤ N ∧ v = .int .i64 (k : Int) ∧ Hid (A = pv T k) ∧ Hid (∀ i (h : i < T.size), i < k → isD (T[i]'h) = true) ∧ wr = ((w.alloc (.cells #[.bool false, .string ⟨#[]⟩] 23)).alloc (.cells #[.bool (sg (A : Int)), .string (mg (A : Int))] 23)).plus u) (fun v _ => N - (intOf v).toNat)
  case atStart =>
    obtain ⟨u, hu⟩ := World.plus_of_below (Below.refl ((w.alloc (.cells #[.bool false, .string ⟨#[]⟩] 23)).alloc (.cells #[.bool (sg ((0 : Nat) : Int)), .string (mg ((0 : Nat) : Int))] 23)).heap.size ((w.alloc (.cells #[.bool false, .string ⟨#[]⟩] 23)).alloc (.cells #[.bool (sg ((0 : Nat) : Int)), .string (mg ((0 : Nat) : Int))] 23)))
    exact ⟨0, 0, u, Nat.zero_le _, rfl, Lib.hid rfl, Lib.hid (fun i h h2 => absurd h2 (Nat.not_lt_zero i)), hu⟩
  case round =>
    obtain ⟨k, A, u, hk, rfl, HA, HD, rfl⟩ := hrel
    by_cases hlt : k < N
    · have hkT : k < T.size := by have := HN.out; omega
      have hki : (k : Int) < (T.size : Int) := by omega
      obtain ⟨c, hc⟩ : ∃ c, c = (T[k]'hkT).toNat := ⟨_, rfl⟩
      have hci : ((T[k]'hkT).toNat : Int) = (c : Int) := by rw [hc]
      by_cases hdg : isD (T[k]'hkT) = true
      · obtain ⟨hd9, hdv⟩ := dgt_le T k hkT hdg
        obtain ⟨d, hd⟩ : ∃ d, d = dgt T k := ⟨_, rfl⟩
        rw [← hd] at hd9 hdv
        have hcd : c = 48 + d := by rw [hc]; exact hdv
        have hl1 : ¬ (c : Int) < 48 := by omega
        have hl2 : ¬ (57 : Int) < (c : Int) := by omega
        have e1 : (c : Int) - 48 = (d : Int) := by omega
        have d256 : (d : Int) % 256 = (d : Int) := by omega
        have HW2 : Hid (wrap64 (d : Int) = (d : Int)) := Lib.hid (by unfold wrap64; omega)
        obtain ⟨A10, hA10⟩ : ∃ z, z = A * 10 := ⟨_, rfl⟩
        obtain ⟨A1, hA1⟩ : ∃ z, z = A10 + d := ⟨_, rfl⟩
        have hAk : A < 10 ^ k := by rw [HA.out]; exact pv_lt T k fun i hi => (dgt_le T i (by omega) (HD.out i (by omega) hi)).1
        have HA1 : Hid (A1 = pv T (k + 1)) := Lib.hid (by rw [hA1, hA10, HA.out, hd, pv_succ])
        have HD1 : Hid (∀ i (h : i < T.size), i < k + 1 → isD (T[i]'h) = true) := Lib.hid fun i h h2 => by
          by_cases h3 : i < k
          · exact HD.out i h h3
          · have e : i = k := by omega
            subst e; exact hdg
        have sA : (mg (A : Int)).size ≤ 1000 := by
          rw [mg_nat, HA.out]; exact sz_pv T k 1000 (by have := HN.out; omega) fun i hi => (dgt_le T i (by omega) (HD.out i (by omega) hi)).1
        have sA1 : (mg (A1 : Int)).size ≤ 1000 := by
          rw [mg_nat, HA1.out]; exact sz_pv T (k + 1) 1000 (by have := HN.out; omega) fun i hi => (dgt_le T i (by omega) (HD1.out i (by omega) hi)).1
        have sA10 : (mg (A10 : Int)).size ≤ 1000 := by
          rw [mg_nat] at sA1 ⊢; exact Nat.le_trans (size_mag_mono A10 A1 (by omega)) sA1
        have s10 : (mg 10).size ≤ 1 := by rw [show mg 10 = ⟨#[10]⟩ by decide]; decide
        have sd : (mg (d : Int)).size ≤ 8 := by rw [mg_nat]; exact size_mag_le d 8 (Nat.lt_trans (show d < 10 by omega) (by decide))
        have g1 := Lib.hid fun w => rFromInt_c 10 w (by omega) (by omega)
        have g2 := Lib.hid fun w => rFromInt_c (d : Int) w (by omega) (by omega)
        have g2w : Hid (∀ w, Calls Tryd.prog 31 #[.int .i64 (wrap64 (d : Int))] w fun e w' => e = .returned (.agg #[.bool (sg (d : Int)), .string (mg (d : Int))]) ∧ Below w.heap.size w w') := Lib.hid fun w => by rw [HW2.out]; exact g2.out w
        have g3 := Lib.hid fun w => rMul_c (A : Int) 10 (A10 : Int) (by omega) w (by omega) (by omega)
        have g4 := Lib.hid fun w => rAdd_c (A10 : Int) (d : Int) (A1 : Int) (by omega) w (by omega) (by omega)
        clear hc hdg hd hdv hcd hA10 hA1 hAk sA sA1 sA10 s10 sd hd9
        go_wp2_with fail
        ((first | (with_reducible refine wp_region_steady_plus_t 10 (by kernel_rfl) (by kernel_rfl) ?_) | refine wp_region_steady_t 10 (by kernel_rfl) (by kernel_rfl) ?_); simp only [List.take_succ_cons, List.take_zero, List.drop_succ_cons, List.drop_zero]; repeat go_big_quiet_step (first | (go_at_call 31; first | (with_reducible refine Calls.steady (g1.out _)) | (with_reducible refine Calls.steady (g2.out _)) | (with_reducible refine Calls.steady (g2w.out _))) | (go_at_call 18; refine Calls.steady (g3.out _)) | (go_at_call 22; refine Calls.steady (g4.out _)))); (refine wpQuiet_nil ?_; rintro _ ⟨u, rfl⟩)
        go_wp2_with fail
        exact ⟨⟨k + 1, A1, _, by omega, by go_num, HA1, HD1, rfl⟩, by first | (simp [intOf]; done) | (simp [intOf]; omega)⟩
      · have hE : E = 15 ∧ X = 0 := HXN.out ⟨T[k]'hkT, by rw [List.mem_iff_getElem?]; exact ⟨k, by rw [List.getElem?_eq_getElem (by simpa using hkT)]; rfl⟩, by simpa using hdg⟩
        obtain ⟨hE1, hX1⟩ := hE
        subst hE1
        subst hX1
        have hor : c < 48 ∨ 57 < c := by
          apply Decidable.byContradiction
          intro h
          apply hdg
          unfold isD
          rw [← hc]
          simp; omega
        by_cases hl1 : (c : Int) < 48
        · clear hc hdg hor
          go_wp2_with fail
          refine bodyPost_ret (by simp [results, Tryd.results46, go_sem]; rfl) rfl ?_
          exact ⟨rfl, by (repeat' (first | (with_reducible exact Below.refl _ _) | (with_reducible assumption) | (with_reducible refine Below.plus0 ?_ _) | (with_reducible refine Below.alloc0 ?_ _) | (with_reducible refine Below.plus ?_ ?_ _) | (with_reducible refine Below.alloc ?_ ?_ _) | (with_reducible refine Below.drew ?_) | (with_reducible refine Below.drewN ?_ _) | (simp [go_sem]; done) | (simp [go_sem]; omega)))⟩
        · have hl2 : (57 : Int) < (c : Int) := by omega
          clear hc hdg hor
          go_wp2_with fail
          refine bodyPost_ret (by simp [results, Tryd.results46, go_sem]; rfl) rfl ?_
          exact ⟨rfl, by (repeat' (first | (with_reducible exact Below.refl _ _) | (with_reducible assumption) | (with_reducible refine Below.plus0 ?_ _) | (with_reducible refine Below.alloc0 ?_ _) | (with_reducible refine Below.plus ?_ ?_ _) | (with_reducible refine Below.alloc ?_ ?_ _) | (with_reducible refine Below.drew ?_) | (with_reducible refine Below.drewN ?_ _) | (simp [go_sem]; done) | (simp [go_sem]; omega)))⟩
    · have hkN : k = N := by omega
      have hki : ¬ (k : Int) < (T.size : Int) := by have := HN.out; omega
      have hE : E = 0 ∧ X = -(pv T T.size : Int) := HXA.out fun b hb => by
        rw [List.mem_iff_getElem?] at hb
        obtain ⟨i, hi⟩ := hb
        have hil : i < T.data.toList.length := (List.getElem?_eq_some_iff.1 hi).1
        have hiT : i < T.size := by simpa using hil
        have h5 := HD.out i hiT (by have := HN.out; omega)
        rw [List.getElem?_eq_getElem hil] at hi
        have e : T[i]'hiT = b := by injection hi
        rw [← e]; exact h5
      obtain ⟨hE1, hX1⟩ := hE
      have hAX : X = -(A : Int) := by rw [hX1, HA.out, hkN, HN.out]
      subst hE1
      have gN := Lib.hid fun w => rNegate_c (A : Int) X hAX w
      clear hX1 hAX hlt hkN
      go_wp2_with fail
      (go_wp2_with fail; refine (gN.out _).mono ?_; rintro e w' ⟨rfl, hb⟩; (first | (with_reducible (have hb2 := World.plus_of_below ((World.below_plus _ _).trans (hb.mono (World.size_plus _ _)))); obtain ⟨u, rfl⟩ := hb2) | (obtain ⟨u, rfl⟩ := World.plus_of_below hb)); clear hb)
      go_wp2_with fail
      refine bodyPost_ret (by simp [results, Tryd.results46, go_sem]; rfl) rfl ?_
      exact ⟨rfl, by (repeat' (first | (with_reducible exact Below.refl _ _) | (with_reducible assumption) | (with_reducible refine Below.plus0 ?_ _) | (with_reducible refine Below.alloc0 ?_ _) | (with_reducible refine Below.plus ?_ ?_ _) | (with_reducible refine Below.alloc ?_ ?_ _) | (with_reducible refine Below.drew ?_) | (with_reducible refine Below.drewN ?_ _) | (simp [go_sem]; done) | (simp [go_sem]; omega)))⟩
set_option maxRecDepth 100000 in
set_option maxHeartbeats 6400000 in
theorem rParse_pos (T : ByteArray) (X E : Int) (HXA : Hid (AllD T → E = 0 ∧ X = (pv T T.size : Int))) (HXN : Hid (HasN T → E = 15 ∧ X = 0)) (h0 : 0 < T.size) (hl : T.size ≤ 1000) (h45 : (T[0]'h0).toNat ≠ 45) (hf : (T[0]'h0).toNat ≠ 48 ∨ T.size = 1) (w : World) : Calls Tryd.prog 46 #[.string T] w fun e w' => e = .returned (.tuple #[.agg #[.bool (sg X), .string (mg X)], .int .i64 E]) ∧ Below w.heap.size w w' := by
  obtain ⟨N, hN⟩ : ∃ N, N = T.size := ⟨_, rfl⟩
  have HN := Lib.hid hN
  have hNb : N ≤ 1000 := by omega
  have hTe := emp_false h0
  have hl2 : ¬ (1000 : Int) < (T.size : Int) := by omega
  have h452 : (((T[0]'h0).toNat : Int) == 45) = false := by rw [beq_eq_false_iff_ne]; omega
  by_cases hf1 : ((T[0]'h0).toNat : Int) = 48
  · have hs1 : ¬ (1 : Int) < (T.size : Int) := by rcases hf with h | h <;> omega
    have h453 : ¬ ((48 : Int) = 45) := by omega
    clear hN hf h45 h452
    go_enter Tryd.func46, Tryd.ntmps46
    go_wp2_with fail
    go_loopw [6] (fun v wr => ∃ (k A : Nat) (u : World), k ≤ N ∧ v = .int .i64 (k : Int) ∧ Hid (A = pv T k) ∧ Hid (∀ i (h : i < T.size), i < k → isD (T[i]'h) = true) ∧ wr = ((w.alloc (.cells #[.bool false, .string ⟨#[]⟩] 23)).alloc (.cells #[.bool (sg (A : Int)), .string (mg (A : Int))] 23)).plus u) (fun v _ => N - (intOf v).toNat)
    case atStart =>
      obtain ⟨u, hu⟩ := World.plus_of_below (Below.refl ((w.alloc (.cells #[.bool false, .string ⟨#[]⟩] 23)).alloc (.cells #[.bool (sg ((0 : Nat) : Int)), .string (mg ((0 : Nat) : Int))] 23)).heap.size ((w.alloc (.cells #[.bool false, .string ⟨#[]⟩] 23)).alloc (.cells #[.bool (sg ((0 : Nat) : Int)), .string (mg ((0 : Nat) : Int))] 23)))
      exact ⟨0, 0, u, Nat.zero_le _, rfl, Lib.hid rfl, Lib.hid (fun i h h2 => absurd h2 (Nat.not_lt_zero i)), hu⟩
    case round =>
      obtain ⟨k, A, u, hk, rfl, HA, HD, rfl⟩ := hrel
      by_cases hlt : k < N
      · have hkT : k < T.size := by have := HN.out; omega
        have hki : (k : Int) < (T.size : Int) := by omega
        obtain ⟨c, hc⟩ : ∃ c, c = (T[k]'hkT).toNat := ⟨_, rfl⟩
        have hci : ((T[k]'hkT).toNat : Int) = (c : Int) := by rw [hc]
        by_cases hdg : isD (T[k]'hkT) = true
        · obtain ⟨hd9, hdv⟩ := dgt_le T k hkT hdg
          obtain ⟨d, hd⟩ : ∃ d, d = dgt T k := ⟨_, rfl⟩
          rw [← hd] at hd9 hdv
          have hcd : c = 48 + d := by rw [hc]; exact hdv
          have hl1 : ¬ (c : Int) < 48 := by omega
          have hl2 : ¬ (57 : Int) < (c : Int) := by omega
          have e1 : (c : Int) - 48 = (d : Int) := by omega
          have d256 : (d : Int) % 256 = (d : Int) := by omega
          have HW2 : Hid (wrap64 (d : Int) = (d : Int)) := Lib.hid (by unfold wrap64; omega)
          obtain ⟨A10, hA10⟩ : ∃ z, z = A * 10 := ⟨_, rfl⟩
          obtain ⟨A1, hA1⟩ : ∃ z, z = A10 + d := ⟨_, rfl⟩
          have hAk : A < 10 ^ k := by rw [HA.out]; exact pv_lt T k fun i hi => (dgt_le T i (by omega) (HD.out i (by omega) hi)).1
          have HA1 : Hid (A1 = pv T (k + 1)) := Lib.hid (by rw [hA1, hA10, HA.out, hd, pv_succ])
          have HD1 : Hid (∀ i (h : i < T.size), i < k + 1 → isD (T[i]'h) = true) := Lib.hid fun i h h2 => by
            by_cases h3 : i < k
            · exact HD.out i h h3
            · have e : i = k := by omega
              subst e; exact hdg
          have sA : (mg (A : Int)).size ≤ 1000 := by
            rw [mg_nat, HA.out]; exact sz_pv T k 1000 (by have := HN.out; omega) fun i hi => (dgt_le T i (by omega) (HD.out i (by omega) hi)).1
          have sA1 : (mg (A1 : Int)).size ≤ 1000 := by
            rw [mg_nat, HA1.out]; exact sz_pv T (k + 1) 1000 (by have := HN.out; omega) fun i hi => (dgt_le T i (by omega) (HD1.out i (by omega) hi)).1
          have sA10 : (mg (A10 : Int)).size ≤ 1000 := by
            rw [mg_nat] at sA1 ⊢; exact Nat.le_trans (size_mag_mono A10 A1 (by omega)) sA1
          have s10 : (mg 10).size ≤ 1 := by rw [show mg 10 = ⟨#[10]⟩ by decide]; decide
          have sd : (mg (d : Int)).size ≤ 8 := by rw [mg_nat]; exact size_mag_le d 8 (Nat.lt_trans (show d < 10 by omega) (by decide))
          have g1 := Lib.hid fun w => rFromInt_c 10 w (by omega) (by omega)
          have g2 := Lib.hid fun w => rFromInt_c (d : Int) w (by omega) (by omega)
          have g2w : Hid (∀ w, Calls Tryd.prog 31 #[.int .i64 (wrap64 (d : Int))] w fun e w' => e = .returned (.agg #[.bool (sg (d : Int)), .string (mg (d : Int))]) ∧ Below w.heap.size w w') := Lib.hid fun w => by rw [HW2.out]; exact g2.out w
          have g3 := Lib.hid fun w => rMul_c (A : Int) 10 (A10 : Int) (by omega) w (by omega) (by omega)
          have g4 := Lib.hid fun w => rAdd_c (A10 : Int) (d : Int) (A1 : Int) (by omega) w (by omega) (by omega)
          clear hc hdg hd hdv hcd hA10 hA1 hAk sA sA1 sA10 s10 sd hd9
          go_wp2_with fail
          ((first | (with_reducible refine wp_region_steady_plus_t 10 (by kernel_rfl) (by kernel_rfl) ?_) | refine wp_region_steady_t 10 (by kernel_rfl) (by kernel_rfl) ?_); simp only [List.take_succ_cons, List.take_zero, List.drop_succ_cons, List.drop_zero]; repeat go_big_quiet_step (first | (go_at_call 31; first | (with_reducible refine Calls.steady (g1.out _)) | (with_reducible refine Calls.steady (g2.out _)) | (with_reducible refine Calls.steady (g2w.out _))) | (go_at_call 18; refine Calls.steady (g3.out _)) | (go_at_call 22; refine Calls.steady (g4.out _)))); (refine wpQuiet_nil ?_; rintro _ ⟨u, rfl⟩)
          go_wp2_with fail
          exact ⟨⟨k + 1, A1, _, by omega, by go_num, HA1, HD1, rfl⟩, by first | (simp [intOf]; done) | (simp [intOf]; omega)⟩
        · have hE : E = 15 ∧ X = 0 := HXN.out ⟨T[k]'hkT, by rw [List.mem_iff_getElem?]; exact ⟨k, by rw [List.getElem?_eq_getElem (by simpa using hkT)]; rfl⟩, by simpa using hdg⟩
          obtain ⟨hE1, hX1⟩ := hE
          subst hE1
          subst hX1
          have hor : c < 48 ∨ 57 < c := by
            apply Decidable.byContradiction
            intro h
            apply hdg
            unfold isD
            rw [← hc]
            simp; omega
          by_cases hl1 : (c : Int) < 48
          · clear hc hdg hor
            go_wp2_with fail
            refine bodyPost_ret (by simp [results, Tryd.results46, go_sem]; rfl) rfl ?_
            exact ⟨rfl, by (repeat' (first | (with_reducible exact Below.refl _ _) | (with_reducible assumption) | (with_reducible refine Below.plus0 ?_ _) | (with_reducible refine Below.alloc0 ?_ _) | (with_reducible refine Below.plus ?_ ?_ _) | (with_reducible refine Below.alloc ?_ ?_ _) | (with_reducible refine Below.drew ?_) | (with_reducible refine Below.drewN ?_ _) | (simp [go_sem]; done) | (simp [go_sem]; omega)))⟩
          · have hl2 : (57 : Int) < (c : Int) := by omega
            clear hc hdg hor
            go_wp2_with fail
            refine bodyPost_ret (by simp [results, Tryd.results46, go_sem]; rfl) rfl ?_
            exact ⟨rfl, by (repeat' (first | (with_reducible exact Below.refl _ _) | (with_reducible assumption) | (with_reducible refine Below.plus0 ?_ _) | (with_reducible refine Below.alloc0 ?_ _) | (with_reducible refine Below.plus ?_ ?_ _) | (with_reducible refine Below.alloc ?_ ?_ _) | (with_reducible refine Below.drew ?_) | (with_reducible refine Below.drewN ?_ _) | (simp [go_sem]; done) | (simp [go_sem]; omega)))⟩
      · have hkN : k = N := by omega
        have hki : ¬ (k : Int) < (T.size : Int) := by have := HN.out; omega
        have hE : E = 0 ∧ X = (pv T T.size : Int) := HXA.out fun b hb => by
          rw [List.mem_iff_getElem?] at hb
          obtain ⟨i, hi⟩ := hb
          have hil : i < T.data.toList.length := (List.getElem?_eq_some_iff.1 hi).1
          have hiT : i < T.size := by simpa using hil
          have h5 := HD.out i hiT (by have := HN.out; omega)
          rw [List.getElem?_eq_getElem hil] at hi
          have e : T[i]'hiT = b := by injection hi
          rw [← e]; exact h5
        obtain ⟨hE1, hX1⟩ := hE
        have hAX : X = (A : Int) := by rw [hX1, HA.out, hkN, HN.out]
        subst hE1
        subst hAX
        clear hX1 hlt hkN
        go_wp2_with fail
        refine bodyPost_ret (by simp [results, Tryd.results46, go_sem]; rfl) rfl ?_
        exact ⟨rfl, by (repeat' (first | (with_reducible exact Below.refl _ _) | (with_reducible assumption) | (with_reducible refine Below.plus0 ?_ _) | (with_reducible refine Below.alloc0 ?_ _) | (with_reducible refine Below.plus ?_ ?_ _) | (with_reducible refine Below.alloc ?_ ?_ _) | (with_reducible refine Below.drew ?_) | (with_reducible refine Below.drewN ?_ _) | (simp [go_sem]; done) | (simp [go_sem]; omega)))⟩
  · have hf2 : (((T[0]'h0).toNat : Int) == 48) = false := by rw [beq_eq_false_iff_ne]; exact hf1
    clear hN hf h45
    go_enter Tryd.func46, Tryd.ntmps46
    go_wp2_with fail
    go_loopw [6] (fun v wr => ∃ (k A : Nat) (u : World), k ≤ N ∧ v = .int .i64 (k : Int) ∧ Hid (A = pv T k) ∧ Hid (∀ i (h : i < T.size), i < k → isD (T[i]'h) = true) ∧ wr = ((w.alloc (.cells #[.bool false, .string ⟨#[]⟩] 23)).alloc (.cells #[.bool (sg (A : Int)), .string (mg (A : Int))] 23)).plus u) (fun v _ => N - (intOf v).toNat)
    case atStart =>
      obtain ⟨u, hu⟩ := World.plus_of_below (Below.refl ((w.alloc (.cells #[.bool false, .string ⟨#[]⟩] 23)).alloc (.cells #[.bool (sg ((0 : Nat) : Int)), .string (mg ((0 : Nat) : Int))] 23)).heap.size ((w.alloc (.cells #[.bool false, .string ⟨#[]⟩] 23)).alloc (.cells #[.bool (sg ((0 : Nat) : Int)), .string (mg ((0 : Nat) : Int))] 23)))
      exact ⟨0, 0, u, Nat.zero_le _, rfl, Lib.hid rfl, Lib.hid (fun i h h2 => absurd h2 (Nat.not_lt_zero i)), hu⟩
    case round =>
      obtain ⟨k, A, u, hk, rfl, HA, HD, rfl⟩ := hrel
      by_cases hlt : k < N
      · have hkT : k < T.size := by have := HN.out; omega
        have hki : (k : Int) < (T.size : Int) := by omega
        obtain ⟨c, hc⟩ : ∃ c, c = (T[k]'hkT).toNat := ⟨_, rfl⟩
        have hci : ((T[k]'hkT).toNat : Int) = (c : Int) := by rw [hc]
        by_cases hdg : isD (T[k]'hkT) = true
        · obtain ⟨hd9, hdv⟩ := dgt_le T k hkT hdg
          obtain ⟨d, hd⟩ : ∃ d, d = dgt T k := ⟨_, rfl⟩
          rw [← hd] at hd9 hdv
          have hcd : c = 48 + d := by rw [hc]; exact hdv
          have hl1 : ¬ (c : Int) < 48 := by omega
          have hl2 : ¬ (57 : Int) < (c : Int) := by omega
          have e1 : (c : Int) - 48 = (d : Int) := by omega
          have d256 : (d : Int) % 256 = (d : Int) := by omega
          have HW2 : Hid (wrap64 (d : Int) = (d : Int)) := Lib.hid (by unfold wrap64; omega)
          obtain ⟨A10, hA10⟩ : ∃ z, z = A * 10 := ⟨_, rfl⟩
          obtain ⟨A1, hA1⟩ : ∃ z, z = A10 + d := ⟨_, rfl⟩
          have hAk : A < 10 ^ k := by rw [HA.out]; exact pv_lt T k fun i hi => (dgt_le T i (by omega) (HD.out i (by omega) hi)).1
          have HA1 : Hid (A1 = pv T (k + 1)) := Lib.hid (by rw [hA1, hA10, HA.out, hd, pv_succ])
          have HD1 : Hid (∀ i (h : i < T.size), i < k + 1 → isD (T[i]'h) = true) := Lib.hid fun i h h2 => by
            by_cases h3 : i < k
            · exact HD.out i h h3
            · have e : i = k := by omega
              subst e; exact hdg
          have sA : (mg (A : Int)).size ≤ 1000 := by
            rw [mg_nat, HA.out]; exact sz_pv T k 1000 (by have := HN.out; omega) fun i hi => (dgt_le T i (by omega) (HD.out i (by omega) hi)).1
          have sA1 : (mg (A1 : Int)).size ≤ 1000 := by
            rw [mg_nat, HA1.out]; exact sz_pv T (k + 1) 1000 (by have := HN.out; omega) fun i hi => (dgt_le T i (by omega) (HD1.out i (by omega) hi)).1
          have sA10 : (mg (A10 : Int)).size ≤ 1000 := by
            rw [mg_nat] at sA1 ⊢; exact Nat.le_trans (size_mag_mono A10 A1 (by omega)) sA1
          have s10 : (mg 10).size ≤ 1 := by rw [show mg 10 = ⟨#[10]⟩ by decide]; decide
          have sd : (mg (d : Int)).size ≤ 8 := by rw [mg_nat]; exact size_mag_le d 8 (Nat.lt_trans (show d < 10 by omega) (by decide))
          have g1 := Lib.hid fun w => rFromInt_c 10 w (by omega) (by omega)
          have g2 := Lib.hid fun w => rFromInt_c (d : Int) w (by omega) (by omega)
          have g2w : Hid (∀ w, Calls Tryd.prog 31 #[.int .i64 (wrap64 (d : Int))] w fun e w' => e = .returned (.agg #[.bool (sg (d : Int)), .string (mg (d : Int))]) ∧ Below w.heap.size w w') := Lib.hid fun w => by rw [HW2.out]; exact g2.out w
          have g3 := Lib.hid fun w => rMul_c (A : Int) 10 (A10 : Int) (by omega) w (by omega) (by omega)
          have g4 := Lib.hid fun w => rAdd_c (A10 : Int) (d : Int) (A1 : Int) (by omega) w (by omega) (by omega)
          clear hc hdg hd hdv hcd hA10 hA1 hAk sA sA1 sA10 s10 sd hd9
          go_wp2_with fail
          ((first | (with_reducible refine wp_region_steady_plus_t 10 (by kernel_rfl) (by kernel_rfl) ?_) | refine wp_region_steady_t 10 (by kernel_rfl) (by kernel_rfl) ?_); simp only [List.take_succ_cons, List.take_zero, List.drop_succ_cons, List.drop_zero]; repeat go_big_quiet_step (first | (go_at_call 31; first | (with_reducible refine Calls.steady (g1.out _)) | (with_reducible refine Calls.steady (g2.out _)) | (with_reducible refine Calls.steady (g2w.out _))) | (go_at_call 18; refine Calls.steady (g3.out _)) | (go_at_call 22; refine Calls.steady (g4.out _)))); (refine wpQuiet_nil ?_; rintro _ ⟨u, rfl⟩)
          go_wp2_with fail
          exact ⟨⟨k + 1, A1, _, by omega, by go_num, HA1, HD1, rfl⟩, by first | (simp [intOf]; done) | (simp [intOf]; omega)⟩
        · have hE : E = 15 ∧ X = 0 := HXN.out ⟨T[k]'hkT, by rw [List.mem_iff_getElem?]; exact ⟨k, by rw [List.getElem?_eq_getElem (by simpa using hkT)]; rfl⟩, by simpa using hdg⟩
          obtain ⟨hE1, hX1⟩ := hE
          subst hE1
          subst hX1
          have hor : c < 48 ∨ 57 < c := by
            apply Decidable.byContradiction
            intro h
            apply hdg
            unfold isD
            rw [← hc]
            simp; omega
          by_cases hl1 : (c : Int) < 48
          · clear hc hdg hor
            go_wp2_with fail
            refine bodyPost_ret (by simp [results, Tryd.results46, go_sem]; rfl) rfl ?_
            exact ⟨rfl, by (repeat' (first | (with_reducible exact Below.refl _ _) | (with_reducible assumption) | (with_reducible refine Below.plus0 ?_ _) | (with_reducible refine Below.alloc0 ?_ _) | (with_reducible refine Below.plus ?_ ?_ _) | (with_reducible refine Below.alloc ?_ ?_ _) | (with_reducible refine Below.drew ?_) | (with_reducible refine Below.drewN ?_ _) | (simp [go_sem]; done) | (simp [go_sem]; omega)))⟩
          · have hl2 : (57 : Int) < (c : Int) := by omega
            clear hc hdg hor
            go_wp2_with fail
            refine bodyPost_ret (by simp [results, Tryd.results46, go_sem]; rfl) rfl ?_
            exact ⟨rfl, by (repeat' (first | (with_reducible exact Below.refl _ _) | (with_reducible assumption) | (with_reducible refine Below.plus0 ?_ _) | (with_reducible refine Below.alloc0 ?_ _) | (with_reducible refine Below.plus ?_ ?_ _) | (with_reducible refine Below.alloc ?_ ?_ _) | (with_reducible refine Below.drew ?_) | (with_reducible refine Below.drewN ?_ _) | (simp [go_sem]; done) | (simp [go_sem]; omega)))⟩
      · have hkN : k = N := by omega
        have hki : ¬ (k : Int) < (T.size : Int) := by have := HN.out; omega
        have hE : E = 0 ∧ X = (pv T T.size : Int) := HXA.out fun b hb => by
          rw [List.mem_iff_getElem?] at hb
          obtain ⟨i, hi⟩ := hb
          have hil : i < T.data.toList.length := (List.getElem?_eq_some_iff.1 hi).1
          have hiT : i < T.size := by simpa using hil
          have h5 := HD.out i hiT (by have := HN.out; omega)
          rw [List.getElem?_eq_getElem hil] at hi
          have e : T[i]'hiT = b := by injection hi
          rw [← e]; exact h5
        obtain ⟨hE1, hX1⟩ := hE
        have hAX : X = (A : Int) := by rw [hX1, HA.out, hkN, HN.out]
        subst hE1
        subst hAX
        clear hX1 hlt hkN
        go_wp2_with fail
        refine bodyPost_ret (by simp [results, Tryd.results46, go_sem]; rfl) rfl ?_
        exact ⟨rfl, by (repeat' (first | (with_reducible exact Below.refl _ _) | (with_reducible assumption) | (with_reducible refine Below.plus0 ?_ _) | (with_reducible refine Below.alloc0 ?_ _) | (with_reducible refine Below.plus ?_ ?_ _) | (with_reducible refine Below.alloc ?_ ?_ _) | (with_reducible refine Below.drew ?_) | (with_reducible refine Below.drewN ?_ _) | (simp [go_sem]; done) | (simp [go_sem]; omega)))⟩
set_option maxHeartbeats 400000 in
theorem rParse_empty (s : ByteArray) (he : s.toList.isEmpty = true) (w : World) : Calls Tryd.prog 46 #[.string s] w fun e w' => e = .returned (.tuple #[.agg #[.bool false, .string ⟨#[]⟩], .int .i64 10]) ∧ Below w.heap.size w w' := by
  go_enter Tryd.func46, Tryd.ntmps46
  go_wp2_with fail
  refine bodyPost_ret (by simp [results, Tryd.results46, go_sem]; rfl) rfl ?_
  exact ⟨rfl, by (repeat' (first | (with_reducible exact Below.refl _ _) | (with_reducible assumption) | (with_reducible refine Below.plus0 ?_ _) | (with_reducible refine Below.alloc0 ?_ _) | (with_reducible refine Below.plus ?_ ?_ _) | (with_reducible refine Below.alloc ?_ ?_ _) | (with_reducible refine Below.drew ?_) | (with_reducible refine Below.drewN ?_ _) | (simp [go_sem]; done) | (simp [go_sem]; omega)))⟩
set_option maxHeartbeats 800000 in
theorem rParse_bad (s T : ByteArray) (b : Bool) (hs0 : 0 < s.size) (hb : b = decide ((s[0]'hs0).toNat = 45)) (hT : T = if b then s.extract 1 s.size else s) (hl : T.size ≤ 1000) (hbad : T.size = 0 ∨ ∃ h0 : 0 < T.size, (T[0]'h0).toNat = 48 ∧ (1 < T.size ∨ b = true)) (w : World) : Calls Tryd.prog 46 #[.string s] w fun e w' => e = .returned (.tuple #[.agg #[.bool false, .string ⟨#[]⟩], .int .i64 15]) ∧ Below w.heap.size w w' := by
  have hse := emp_false hs0
  have hl2 : ¬ (1000 : Int) < (T.size : Int) := by omega
  cases b
  · rw [if_neg (by decide)] at hT
    subst hT
    have h45 : ¬ (T[0]'hs0).toNat = 45 := by simpa using hb.symm
    have h452 : (((T[0]'hs0).toNat : Int) == 45) = false := by rw [beq_eq_false_iff_ne]; omega
    rcases hbad with h | ⟨h0, h48, h | h⟩
    · omega
    · have h482 : ((T[0]'hs0).toNat : Int) = 48 := by omega
      have h1 : (1 : Int) < (T.size : Int) := by omega
      clear hb h45 h452 h48 h
      go_enter Tryd.func46, Tryd.ntmps46
      go_wp2_with fail
      refine bodyPost_ret (by simp [results, Tryd.results46, go_sem]; rfl) rfl ?_
      exact ⟨rfl, by (repeat' (first | (with_reducible exact Below.refl _ _) | (with_reducible assumption) | (with_reducible refine Below.plus0 ?_ _) | (with_reducible refine Below.alloc0 ?_ _) | (with_reducible refine Below.plus ?_ ?_ _) | (with_reducible refine Below.alloc ?_ ?_ _) | (with_reducible refine Below.drew ?_) | (with_reducible refine Below.drewN ?_ _) | (simp [go_sem]; done) | (simp [go_sem]; omega)))⟩
    · cases h
  · rw [if_pos rfl] at hT
    have h45 : (s[0]'hs0).toNat = 45 := by simpa using hb.symm
    have h452 : ((s[0]'hs0).toNat : Int) = 45 := by omega
    have hsz1 : (1 : Int) ≤ (s.size : Int) := by omega
    have hT2 := hT.symm
    by_cases h : T.size = 0
    · have hTe := emp_true h
      have h1 : (T.size : Int) = 0 := by omega
      clear hb h45 hbad hT h
      go_enter Tryd.func46, Tryd.ntmps46
      go_wp2_with fail
      refine bodyPost_ret (by simp [results, Tryd.results46, go_sem]; rfl) rfl ?_
      exact ⟨rfl, by (repeat' (first | (with_reducible exact Below.refl _ _) | (with_reducible assumption) | (with_reducible refine Below.plus0 ?_ _) | (with_reducible refine Below.alloc0 ?_ _) | (with_reducible refine Below.plus ?_ ?_ _) | (with_reducible refine Below.alloc ?_ ?_ _) | (with_reducible refine Below.drew ?_) | (with_reducible refine Below.drewN ?_ _) | (simp [go_sem]; done) | (simp [go_sem]; omega)))⟩
    · have h0 : 0 < T.size := by omega
      have h48 : ((T[0]'h0).toNat : Int) = 48 := by
        rcases hbad with h2 | ⟨h3, h4, _⟩
        · exact absurd h2 h
        · omega
      have hTe := emp_false h0
      clear hb h45 hbad hT h
      by_cases h1 : (1 : Int) < (T.size : Int)
      · go_enter Tryd.func46, Tryd.ntmps46
        go_wp2_with fail
        refine bodyPost_ret (by simp [results, Tryd.results46, go_sem]; rfl) rfl ?_
        exact ⟨rfl, by (repeat' (first | (with_reducible exact Below.refl _ _) | (with_reducible assumption) | (with_reducible refine Below.plus0 ?_ _) | (with_reducible refine Below.alloc0 ?_ _) | (with_reducible refine Below.plus ?_ ?_ _) | (with_reducible refine Below.alloc ?_ ?_ _) | (with_reducible refine Below.drew ?_) | (with_reducible refine Below.drewN ?_ _) | (simp [go_sem]; done) | (simp [go_sem]; omega)))⟩
      · go_enter Tryd.func46, Tryd.ntmps46
        go_wp2_with fail
        refine bodyPost_ret (by simp [results, Tryd.results46, go_sem]; rfl) rfl ?_
        exact ⟨rfl, by (repeat' (first | (with_reducible exact Below.refl _ _) | (with_reducible assumption) | (with_reducible refine Below.plus0 ?_ _) | (with_reducible refine Below.alloc0 ?_ _) | (with_reducible refine Below.plus ?_ ?_ _) | (with_reducible refine Below.alloc ?_ ?_ _) | (with_reducible refine Below.drew ?_) | (with_reducible refine Below.drewN ?_ _) | (simp [go_sem]; done) | (simp [go_sem]; omega)))⟩
theorem list_of (s : ByteArray) : s = ⟨s.data.toList.toArray⟩ := rfl
theorem drop_ext (b : UInt8) (l : List UInt8) : (⟨(b :: l).toArray⟩ : ByteArray).extract 1 (b :: l).length = ⟨l.toArray⟩ := by
  apply ByteArray.ext
  apply Array.ext_getElem?
  intro i
  simp only [ByteArray.data_extract, Array.getElem?_extract]
  by_cases h : i < l.length
  · rw [if_pos (by simp; omega)]
    simp [Nat.add_comm 1 i]
  · rw [if_neg (by simp; omega), Array.getElem?_eq_none (by simp; omega)]
theorem not_has {T : ByteArray} (h : AllD T) (h2 : HasN T) : False := by
  obtain ⟨b, hb, hd⟩ := h2
  have := h b hb
  rw [hd] at this
  cases this
theorem both (s : ByteArray) (hsz : s.size ≤ 60) : ∃ X E : Int, (∀ w, Calls Tryd.prog 44 #[.string s] w fun e w' => e = .returned (.tuple #[.agg #[.bool (sg X), .string (mg X)], .int .i64 E]) ∧ Below w.heap.size w w') ∧ (∀ w, Calls Tryd.prog 46 #[.string s] w fun e w' => e = .returned (.tuple #[.agg #[.bool (sg X), .string (mg X)], .int .i64 E]) ∧ Below w.heap.size w w') := by
  by_cases hs0 : s.size = 0
  · have he := emp_true hs0
    exact ⟨0, 10, fun w => Parse_empty s he w, fun w => rParse_empty s he w⟩
  have hp : 0 < s.size := by omega
  have he := emp_false hp
  obtain ⟨b, l, hl⟩ : ∃ b l, s.data.toList = b :: l := by
    cases h : s.data.toList with
    | nil =>
      have : s.size = s.data.toList.length := rfl
      rw [h, List.length_nil] at this; omega
    | cons b l => exact ⟨b, l, rfl⟩
  have hs : s = ⟨(b :: l).toArray⟩ := by rw [← hl]
  have hb0 : (s[0]'hp) = b := by
    have h1 : s.data.toList[0]? = some (s[0]'hp) := by rw [List.getElem?_eq_getElem (by simpa using hp)]; rfl
    rw [hl] at h1
    simpa using h1.symm
  obtain ⟨n, hn⟩ : ∃ n, n = pneg s := ⟨_, rfl⟩
  obtain ⟨T, hT⟩ : ∃ T, T = pbody s := ⟨_, rfl⟩
  have hnb : n = decide ((s[0]'hp).toNat = 45) := by
    rw [hn, hb0, hs, pneg_cons]
    by_cases h : b = 45
    · subst h; rfl
    · have h2 : ¬ b.toNat = 45 := fun e => h (UInt8.toNat_inj.1 e)
      simp [h, h2]
  have hTT : T = if n then s.extract 1 s.size else s := by
    by_cases h : b = 45
    · have hn1 : n = true := by rw [hn, hs, pneg_cons, h]; rfl
      rw [hn1, if_pos rfl, hT, hs, h, pbody_neg, size_list, drop_ext]
    · have hn1 : n = false := by rw [hn, hs, pneg_cons]; simpa using h
      rw [hn1, if_neg (by decide), hT, hs, pbody_pos b l h]
  have hTs : T.size ≤ 60 := by
    rw [hTT]
    split
    · rw [ByteArray.size_extract]; omega
    · exact hsz
  by_cases hbad : T.size = 0 ∨ ∃ h0 : 0 < T.size, (T[0]'h0).toNat = 48 ∧ (1 < T.size ∨ n = true)
  · refine ⟨0, 15, fun w => ?_, fun w => rParse_bad s T n hp hnb hTT (by omega) hbad w⟩
    rcases hbad with h | ⟨h0, h48, hor⟩
    · exact Parse_bad1 s he (by rw [← hT]; exact h) w
    · subst hT
      exact Parse_bad2 s he h0 (by omega) h48 (by rw [← hn]; exact hor) w
  · have h0 : 0 < T.size := by
      apply Nat.pos_of_ne_zero
      intro h
      exact hbad (.inl h)
    have hf : (T[0]'h0).toNat ≠ 48 ∨ (T.size = 1 ∧ n = false) := by
      by_cases h : (T[0]'h0).toNat = 48
      · right
        refine ⟨?_, ?_⟩
        · apply Decidable.byContradiction
          intro h1
          exact hbad (.inr ⟨h0, h, .inl (by omega)⟩)
        · cases hnn : n with
          | false => rfl
          | true => exact absurd (.inr ⟨h0, h, .inr hnn⟩) hbad
      · exact .inl h
    obtain ⟨X, E, hA, hN⟩ : ∃ X E : Int, (AllD T → E = 0 ∧ X = if n then -(pv T T.size : Int) else (pv T T.size : Int)) ∧ (HasN T → E = 15 ∧ X = 0) := by
      rcases allD_or T with h | h
      · exact ⟨_, 0, fun _ => ⟨rfl, rfl⟩, fun h2 => (not_has h h2).elim⟩
      · exact ⟨0, 15, fun h2 => (not_has h2 h).elim, fun _ => ⟨rfl, rfl⟩⟩
    refine ⟨X, E, fun w => ?_, fun w => ?_⟩
    · rcases allD_or T with h | h
      · obtain ⟨e1, e2⟩ := hA h
        subst e1
        subst hT
        exact Parse_ok s he h0 (by omega) (by rw [← hn]; exact hf) h X (by rw [← hn]; exact e2) w
      · obtain ⟨e1, e2⟩ := hN h
        subst e1
        subst e2
        subst hT
        exact Parse_bad3 s he h0 (by omega) (by rw [← hn]; exact hf) h w
    · cases n with
      | true =>
        have h45 : (s[0]'hp).toNat = 45 := by simpa using hnb.symm
        have hf2 : (T[0]'h0).toNat ≠ 48 := by rcases hf with h | ⟨_, h⟩; exact h; cases h
        exact rParse_neg s T hp h45 (by rw [hTT, if_pos rfl]) X E (Lib.hid fun h => by have := hA h; simpa using this) (Lib.hid hN) h0 (by omega) hf2 w
      | false =>
        have h45 : ¬ (s[0]'hp).toNat = 45 := by simpa using hnb.symm
        rw [if_neg (by decide)] at hTT
        subst hTT
        exact rParse_pos T X E (Lib.hid fun h => by have := hA h; simpa using this) (Lib.hid hN) h0 (by omega) h45 (by rcases hf with h | ⟨h, _⟩; exact .inl h; exact .inr h) w
end Go.Proofs.YtkoodpbcfdblbaaDoor
