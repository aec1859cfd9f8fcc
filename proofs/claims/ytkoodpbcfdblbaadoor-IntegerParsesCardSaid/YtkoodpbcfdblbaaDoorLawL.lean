import Derived.Test.YtkoodpbcfdblbaaDoorRefK
set_option linter.unusedSimpArgs false
set_option linter.unusedVariables false
namespace Go.Proofs.YtkoodpbcfdblbaaDoor
open Go Go.RowKit
open Vi

/-- The bytes, of which k have been filled in. -/
def fil (b k : Nat) : Nat → Nat := fun p => if p < k then b else 0
theorem fil_zero (b n : Nat) : arr .u8 (fil b 0) n = arr .u8 (fun _ => 0) n := by
  apply arr_congr; intro i _; unfold fil; rw [if_neg (by omega)]
theorem fil_succ (b k : Nat) : upd (fil b k) k b = fil b (k + 1) := by
  funext p
  unfold upd fil
  by_cases h : p = k
  · subst h; rw [if_pos rfl, if_pos (by omega)]
  · rw [if_neg h]
    by_cases h2 : p < k
    · rw [if_pos h2, if_pos (by omega)]
    · rw [if_neg h2, if_neg (by omega)]
theorem fil_str (b n : Nat) : strFn (fil b n) n = ⟨(List.replicate n (UInt8.ofNat b)).toArray⟩ := by
  unfold strFn
  congr 2
  apply List.ext_getElem
  · simp
  · intro i h1 h2
    have : i < n := by simpa using h1
    simp [fil, this]
theorem fil_lt (b k : Nat) (hb : b < 256) (p : Nat) : fil b k p < 256 := by unfold fil; split <;> omega
theorem pv_rep (d n : Nat) (hd : d < 10) (hd0 : 0 < d) : 10 ^ n ≤ pv ⟨(List.replicate (n + 1) (UInt8.ofNat (48 + d))).toArray⟩ (n + 1) := by
  have key : ∀ m k, k ≤ m → 0 < k → 10 ^ (k - 1) ≤ pv ⟨(List.replicate m (UInt8.ofNat (48 + d))).toArray⟩ k := by
    intro m k
    induction k with
    | zero => intro _ h; omega
    | succ k ih =>
      intro hk _
      have hdg : dgt ⟨(List.replicate m (UInt8.ofNat (48 + d))).toArray⟩ k = d := by
        unfold dgt
        show ((List.replicate m (UInt8.ofNat (48 + d))).getD k 0).toNat - 48 = d
        rw [List.getD_eq_getElem?_getD, List.getElem?_replicate, if_pos (by omega)]
        simp only [Option.getD_some]
        rw [dig_byte d hd]; omega
      rw [pv_succ, hdg]
      rcases Nat.eq_zero_or_pos k with h | h
      · subst h; simp [pv, cv]; omega
      · have h3 := ih (by omega) h
        have e : k + 1 - 1 = (k - 1) + 1 := by omega
        rw [e, Nat.pow_succ]; omega
  exact key (n + 1) (n + 1) (Nat.le_refl _) (by omega)
theorem allD_rep (d n : Nat) (hd : d < 10) : AllD ⟨(List.replicate n (UInt8.ofNat (48 + d))).toArray⟩ := by
  intro b hb
  have : b = UInt8.ofNat (48 + d) := (List.mem_replicate.1 hb).2
  subst this
  unfold isD
  rw [dig_byte d hd]
  simp; omega
theorem print_len (x : Int) (n : Nat) (hx : x < 0) (h1 : 10 ^ n ≤ x.natAbs) (h2 : x.natAbs < 10 ^ (n + 1)) : (printS x).size = n + 2 := by
  unfold printS
  rw [if_neg (by omega), if_pos hx, size_list, List.length_cons]
  have : (decS x.natAbs).length = nd 10 x.natAbs := by unfold decS; rw [List.length_reverse, List.length_map]; rfl
  rw [this, nd_of_bounds 10 (by omega) _ n h1 h2]
/-- What Parse returns of a minus and N digits d. -/
theorem long_c (N d : Nat) (hN : 0 < N) (hd : d < 10) (s : ByteArray) (hs : s = ⟨(45 :: List.replicate N (UInt8.ofNat (48 + d))).toArray⟩) :
    (1000 < N → N ≤ 4294967296 → ∀ w, Calls Tryd.prog 44 #[.string s] w fun e w' => e = .returned (.tuple #[.agg #[.bool false, .string ⟨#[]⟩], .int .i64 28]) ∧ Below w.heap.size w w') ∧
    (N ≤ 1000 → d = 0 → ∀ w, Calls Tryd.prog 44 #[.string s] w fun e w' => e = .returned (.tuple #[.agg #[.bool false, .string ⟨#[]⟩], .int .i64 15]) ∧ Below w.heap.size w w') ∧
    (N ≤ 1000 → 0 < d → ∃ x : Int, x < 0 ∧ (mg x).size ≤ 1000 ∧ (printS x).size = N + 1 ∧ ∀ w, Calls Tryd.prog 44 #[.string s] w fun e w' => e = .returned (.tuple #[.agg #[.bool (sg x), .string (mg x)], .int .i64 0]) ∧ Below w.heap.size w w') := by
  obtain ⟨n, rfl⟩ : ∃ n, N = n + 1 := ⟨N - 1, by omega⟩
  obtain ⟨R, hR⟩ : ∃ R, R = List.replicate (n + 1) (UInt8.ofNat (48 + d)) := ⟨_, rfl⟩
  rw [← hR] at hs
  have hRl : R.length = n + 1 := by rw [hR]; simp
  have hb : pbody s = ⟨R.toArray⟩ := by rw [hs]; exact pbody_neg R
  have hn : pneg s = true := by rw [hs]; exact pneg_cons 45 R
  have he : s.toList.isEmpty = false := by rw [hs]; exact ne_list 45 R
  have h0 : 0 < (pbody s).size := by rw [hb, size_list]; omega
  have hfirst : ((pbody s)[0]'h0).toNat = 48 + d := by
    have e : ∀ (t : ByteArray) (h : 0 < t.size), t = ⟨R.toArray⟩ → (t[0]'h).toNat = 48 + d := by
      intro t h ht
      subst ht
      have h1 : R[0]? = some (UInt8.ofNat (48 + d)) := by rw [hR]; simp
      have h2 : R[0]? = some ((⟨R.toArray⟩ : ByteArray)[0]'h) := by rw [List.getElem?_eq_getElem (by omega)]; rfl
      rw [h1] at h2
      rw [← Option.some.inj h2, dig_byte d hd]
    exact e _ h0 hb
  refine ⟨fun h h4 w => Parse_long s he (by rw [hb, size_list]; omega) (by rw [hb, size_list]; omega) w, fun h hd0 w => Parse_bad2 s he h0 (by rw [hb, size_list]; omega) (by rw [hfirst, hd0]) (.inr hn) w, fun h hd0 => ?_⟩
  obtain ⟨x, hx⟩ : ∃ x : Int, x = -(pv ⟨R.toArray⟩ (n + 1) : Int) := ⟨_, rfl⟩
  have hlow : 10 ^ n ≤ pv ⟨R.toArray⟩ (n + 1) := by rw [hR]; exact pv_rep d n hd hd0
  have had : AllD ⟨R.toArray⟩ := by rw [hR]; exact allD_rep d (n + 1) hd
  have hdg : ∀ i, i < n + 1 → dgt ⟨R.toArray⟩ i ≤ 9 := fun i hi => (dgt_le _ i (by rw [size_list]; omega) (had.at i (by rw [size_list]; omega))).1
  have hup := pv_lt ⟨R.toArray⟩ (n + 1) hdg
  have hpos : 0 < 10 ^ n := Nat.pow_pos (by omega)
  have hxa : x.natAbs = pv ⟨R.toArray⟩ (n + 1) := by rw [hx]; omega
  refine ⟨x, by omega, ?_, ?_, fun w => ?_⟩
  · unfold mg
    rw [hxa]
    exact sz_pv _ (n + 1) 1000 h hdg
  · exact print_len x n (by omega) (by rw [hxa]; exact hlow) (by rw [hxa]; exact hup)
  · refine Parse_ok s he h0 (by rw [hb, size_list]; omega) (.inl (by rw [hfirst]; omega)) (by rw [hb]; exact had) x ?_ w
    rw [hn, if_pos rfl, hb, size_list, hRl]
    exact hx
set_option maxRecDepth 100000 in
set_option maxHeartbeats 6400000 in
theorem IntegerParses_long (sa : ByteArray) (m g : Int) (w : World) (ha : sa.size ≤ 9223372036854775807) (m1 : 0 ≤ m) (m2 : m ≤ 255) (g1 : 0 ≤ g) (g2 : g ≤ 255) (hc : 1000 < 998 + m % 5) :
    Calls Tryd.prog 13 #[.string sa, .int .u8 m, .int .u8 g] w fun e w' => e = .returned (.bool true) ∧ Below w.heap.size w w' := by
  have hext := extract_min sa 60
  have hsz := (size_extract_le sa 60).2
  obtain ⟨s, hs⟩ : ∃ s, s = sa.extract 0 60 := ⟨_, rfl⟩
  rw [← hs] at hext hsz
  rw [show ((60 : Nat) : Int) = (60 : Int) from rfl] at hext
  obtain ⟨X, E, hI, hR⟩ := both s hsz
  have HI := Lib.hid hI
  have HR := Lib.hid hR
  obtain ⟨m5, hm5⟩ : ∃ z : Nat, (z : Int) = m % 5 := ⟨(m % 5).toNat, by omega⟩
  obtain ⟨d, hd⟩ : ∃ z : Nat, (z : Int) = g % 10 := ⟨(g % 10).toNat, by omega⟩
  obtain ⟨N, hN⟩ : ∃ N, N = 998 + m5 := ⟨_, rfl⟩
  obtain ⟨b, hb⟩ : ∃ b, b = 48 + d := ⟨_, rfl⟩
  have hd10 : d < 10 := by omega
  have hm55 : m5 < 5 := by omega
  have hNb : N ≤ 1002 := by omega
  have hN0 : 0 < N := by omega
  have hb256 : b < 256 := by omega
  obtain ⟨s2, hs2⟩ : ∃ s2 : ByteArray, s2 = ⟨(45 :: List.replicate N (UInt8.ofNat (48 + d))).toArray⟩ := ⟨_, rfl⟩
  obtain ⟨l1, l2, l3⟩ := long_c N d hN0 hd10 s2 hs2
  have e1 : (998 : Int) + (m5 : Int) = (N : Int) := by omega
  have e2 : (48 : Int) + (d : Int) = (b : Int) := by omega
  have HEM : Hid (m.tmod 5 = (m5 : Int)) := Lib.hid (by rw [Int.tmod_eq_emod_of_nonneg m1]; omega)
  have HED : Hid (g.tmod 10 = (d : Int)) := Lib.hid (by rw [Int.tmod_eq_emod_of_nonneg g1]; omega)
  have HF0 := Lib.hid (fil_zero b N)
  obtain ⟨s3, hs3⟩ : ∃ s3 : ByteArray, s3 = ⟨(List.replicate N (UInt8.ofNat (48 + d))).toArray⟩ := ⟨_, rfl⟩
  have HST : Hid (strFn (fil b N) N = s3) := Lib.hid (by rw [fil_str, hb, hs3])
  have hs3s : s3.size ≤ 1002 := by rw [hs3, size_list, List.length_replicate]; omega
  have hcat : (⟨#[45]⟩ ++ s3 : ByteArray) = s2 := by rw [hs2, hs3]; exact cat1 45 _
  have HL := Lib.hid (l1 (by omega) (by omega))
  have hgt : (1000 : Int) < (N : Int) := by omega
  clear hs hI hR l1 l2 l3 hm5 hd hN hb hs2 hs3 ha m1 m2 g1 g2 hc
  have HE1 := Lib.hid e1
  have HE2 := Lib.hid e2
  go_enter Tryd.func13, Tryd.ntmps13
  go_wp2_with fail
  (go_wp2_with fail; refine (HI.out _).mono ?_; rintro e w' ⟨rfl, hb⟩; (first | (with_reducible (have hb2 := World.plus_of_below ((World.below_plus _ _).trans (hb.mono (World.size_plus _ _)))); obtain ⟨u, rfl⟩ := hb2) | (obtain ⟨u, rfl⟩ := World.plus_of_below hb)); clear hb)
  revert u
  intro ua
  go_wp2_with fail
  (go_wp2_with fail; refine (HR.out _).mono ?_; rintro e w' ⟨rfl, hb⟩; obtain ⟨u, rfl⟩ := World.plus_of_below hb; clear hb)
  go_wp2_with fail
  have hw5 : wrap64 (m5 : Int) = (m5 : Int) := by unfold wrap64; omega
  have hwN : wrap64 (N : Int) = (N : Int) := by unfold wrap64; omega
  simp only [HEM.out, hw5, HE1.out, hwN]
  clear hw5 hwN e1 e2
  obtain ⟨V, hV⟩ : ∃ z, z = (((w.plus ua).alloc (.cells #[.bool (sg X), .string (mg X)] 23)).plus u).alloc (.cells #[.bool (sg X), .string (mg X)] 23) := ⟨_, rfl⟩
  rw [← hV]
  have q9 : V.heap[(((w.plus ua).alloc (.cells #[.bool (sg X), .string (mg X)] 23)).plus u).heap.size]? = some (.cells #[.bool (sg X), .string (mg X)] 23 (0, 0)) := by rw [hV]; (repeat' (first | (with_reducible exact heap_at _ _ _ (by first | (simp [go_sem]; done) | omega)) | (with_reducible assumption) | (with_reducible exact World.heap_row_same _ _ _ _ (by first | assumption | omega | (simp [go_sem]; done) | (simp [go_sem]; omega))) | (rw [World.heap_row_other _ _ _ _ _ (by first | assumption | omega)]) | (rw [World.heap_plus _ _ _ (by first | assumption | omega | (simp [go_sem]; done) | (simp [go_sem]; omega))]) | (rw [heap_alloc_old _ _ (by first | assumption | omega | (simp [go_sem]; done) | (simp [go_sem]; omega))])))
  have q7 : V.heap[(w.plus ua).heap.size]? = some (.cells #[.bool (sg X), .string (mg X)] 23 (0, 0)) := by rw [hV]; (repeat' (first | (with_reducible exact heap_at _ _ _ (by first | (simp [go_sem]; done) | omega)) | (with_reducible assumption) | (with_reducible exact World.heap_row_same _ _ _ _ (by first | assumption | omega | (simp [go_sem]; done) | (simp [go_sem]; omega))) | (rw [World.heap_row_other _ _ _ _ _ (by first | assumption | omega)]) | (rw [World.heap_plus _ _ _ (by first | assumption | omega | (simp [go_sem]; done) | (simp [go_sem]; omega))]) | (rw [heap_alloc_old _ _ (by first | assumption | omega | (simp [go_sem]; done) | (simp [go_sem]; omega))])))
  have hbw : Below w.heap.size w V := by rw [hV]; (repeat' (first | (with_reducible exact Below.refl _ _) | (with_reducible assumption) | (with_reducible refine Below.plus0 ?_ _) | (with_reducible refine Below.row ?_ ?_ _ _) | (with_reducible refine Below.alloc0 ?_ _) | (with_reducible refine Below.plus ?_ ?_ _) | (with_reducible refine Below.alloc ?_ ?_ _) | (with_reducible refine Below.drew ?_) | (with_reducible refine Below.drewN ?_ _) | (simp [go_sem]; done) | (simp [go_sem]; omega)))
  obtain ⟨b9, hb9⟩ : ∃ b, b = (((w.plus ua).alloc (.cells #[.bool (sg X), .string (mg X)] 23)).plus u).heap.size := ⟨_, rfl⟩
  rw [← hb9] at q9
  try simp only [← hb9]
  obtain ⟨b7, hb7⟩ : ∃ b, b = (w.plus ua).heap.size := ⟨_, rfl⟩
  rw [← hb7] at q7
  try simp only [← hb7]
  have y9 : w.heap.size ≤ b9 := by first | omega | (rw [hb9]; first | exact Nat.le_refl _ | (simp [go_sem]; done) | (simp [go_sem]; omega) | (have := hbw.size; simp [go_sem] at *; omega))
  have y7 : w.heap.size ≤ b7 := by first | omega | (rw [hb7]; first | exact Nat.le_refl _ | (simp [go_sem]; done) | (simp [go_sem]; omega) | (have := hbw.size; simp [go_sem] at *; omega))
  have n97 : b9 ≠ b7 := by first | omega | (rw [hb9, hb7]; first | (simp [go_sem]; done) | (simp [go_sem]; omega))
  have n79 : b7 ≠ b9 := n97.symm
  have z9 : b9 < V.heap.size := (Array.getElem?_eq_some_iff.1 q9).1
  have c90 : V.cell? ⟨b9, 0, none⟩ = some (.bool (sg X)) := (cell_at q9).trans rfl
  have c91 : V.cell? ⟨b9, 1, none⟩ = some (.string (mg X)) := (cell_at q9).trans rfl
  have z7 : b7 < V.heap.size := (Array.getElem?_eq_some_iff.1 q7).1
  have c70 : V.cell? ⟨b7, 0, none⟩ = some (.bool (sg X)) := (cell_at q7).trans rfl
  have c71 : V.cell? ⟨b7, 1, none⟩ = some (.string (mg X)) := (cell_at q7).trans rfl
  clear hV hb9 hb7
  have hmk := make8 N V (by omega)
  simp only [hmk]
  clear hmk
  go_wp2_with fail
  go_loopw [13] (fun v wr => ∃ k : Nat, k ≤ N ∧ v = .int .i64 (k : Int) ∧ wr = V.alloc (.cells (arr .u8 (fil b k) N) 5)) (fun v _ => N - (intOf v).toNat)
  case atStart => exact ⟨0, Nat.zero_le _, rfl, by rw [HF0.out]⟩
  case round =>
    obtain ⟨k, hk, rfl, rfl⟩ := hrel
    by_cases hlt : k < N
    · have hki : (k : Int) < (N : Int) := by omega
      have HS := Lib.hid (fil_succ b k)
      have hget := arr_get .u8 (fil b k) N k hlt
      have hbw : (b : Int) % 256 = (b : Int) := by omega
      have ed := HED.out
      have e2 := HE2.out
      go_wp2_with fail
      exact ⟨⟨k + 1, by omega, by go_num, by rw [arr_set, HS.out]⟩, by first | (simp [intOf]; done) | (simp [intOf]; omega)⟩
    · have hkN : k = N := by omega
      have hki : ¬ (k : Int) < (N : Int) := by omega
      subst hkN
      have hcv := conv8 (fil b k) k k V (fil_lt b k hb256)
      rw [HST.out] at hcv
      go_wp2_with fail
      (go_wp2_with fail; refine (HL.out _).mono ?_; rintro e w' ⟨rfl, hb⟩; obtain ⟨u, rfl⟩ := World.plus_of_below hb; clear hb)
      obtain ⟨V2, hV2⟩ : ∃ z, z = (V.alloc (.cells (arr .u8 (fil b k) k) 5)).plus u := ⟨_, rfl⟩
      rw [← hV2]
      replace q9 : V2.heap[b9]? = some (.cells #[.bool (sg X), .string (mg X)] 23 (0, 0)) := by rw [hV2]; (repeat' (first | (with_reducible exact heap_at _ _ _ (by first | (simp [go_sem]; done) | omega)) | (with_reducible assumption) | (with_reducible exact World.heap_row_same _ _ _ _ (by first | assumption | omega | (simp [go_sem]; done) | (simp [go_sem]; omega))) | (rw [World.heap_row_other _ _ _ _ _ (by first | assumption | omega)]) | (rw [World.heap_plus _ _ _ (by first | assumption | omega | (simp [go_sem]; done) | (simp [go_sem]; omega))]) | (rw [heap_alloc_old _ _ (by first | assumption | omega | (simp [go_sem]; done) | (simp [go_sem]; omega))])))
      replace q7 : V2.heap[b7]? = some (.cells #[.bool (sg X), .string (mg X)] 23 (0, 0)) := by rw [hV2]; (repeat' (first | (with_reducible exact heap_at _ _ _ (by first | (simp [go_sem]; done) | omega)) | (with_reducible assumption) | (with_reducible exact World.heap_row_same _ _ _ _ (by first | assumption | omega | (simp [go_sem]; done) | (simp [go_sem]; omega))) | (rw [World.heap_row_other _ _ _ _ _ (by first | assumption | omega)]) | (rw [World.heap_plus _ _ _ (by first | assumption | omega | (simp [go_sem]; done) | (simp [go_sem]; omega))]) | (rw [heap_alloc_old _ _ (by first | assumption | omega | (simp [go_sem]; done) | (simp [go_sem]; omega))])))
      have hbw : Below w.heap.size w V2 := by rw [hV2]; (repeat' (first | (with_reducible exact Below.refl _ _) | (with_reducible assumption) | (with_reducible refine Below.plus0 ?_ _) | (with_reducible refine Below.row ?_ ?_ _ _) | (with_reducible refine Below.alloc0 ?_ _) | (with_reducible refine Below.plus ?_ ?_ _) | (with_reducible refine Below.alloc ?_ ?_ _) | (with_reducible refine Below.drew ?_) | (with_reducible refine Below.drewN ?_ _) | (simp [go_sem]; done) | (simp [go_sem]; omega)))
      have z9 : b9 < V2.heap.size := (Array.getElem?_eq_some_iff.1 q9).1
      have c90 : V2.cell? ⟨b9, 0, none⟩ = some (.bool (sg X)) := (cell_at q9).trans rfl
      have c91 : V2.cell? ⟨b9, 1, none⟩ = some (.string (mg X)) := (cell_at q9).trans rfl
      have z7 : b7 < V2.heap.size := (Array.getElem?_eq_some_iff.1 q7).1
      have c70 : V2.cell? ⟨b7, 0, none⟩ = some (.bool (sg X)) := (cell_at q7).trans rfl
      have c71 : V2.cell? ⟨b7, 1, none⟩ = some (.string (mg X)) := (cell_at q7).trans rfl
      clear hV2 
      go_wp2_with fail
      (go_wp2_with fail; refine (known_c _).mono ?_; rintro e w' ⟨rfl, hb⟩; obtain ⟨u, rfl⟩ := World.plus_of_below hb; clear hb)
      go_wp2_with fail
      go_ret
      exact ⟨rfl, by (repeat' (first | (with_reducible exact Below.refl _ _) | (with_reducible assumption) | (with_reducible refine Below.plus0 ?_ _) | (with_reducible refine Below.alloc0 ?_ _) | (with_reducible refine Below.plus ?_ ?_ _) | (with_reducible refine Below.alloc ?_ ?_ _) | (with_reducible refine Below.drew ?_) | (with_reducible refine Below.drewN ?_ _) | (simp [go_sem]; done) | (simp [go_sem]; omega)))⟩
set_option maxRecDepth 100000 in
set_option maxHeartbeats 6400000 in
theorem IntegerParses_zero (sa : ByteArray) (m g : Int) (w : World) (ha : sa.size ≤ 9223372036854775807) (m1 : 0 ≤ m) (m2 : m ≤ 255) (g1 : 0 ≤ g) (g2 : g ≤ 255) (hc : 998 + m % 5 ≤ 1000) (hz : g % 10 = 0) :
    Calls Tryd.prog 13 #[.string sa, .int .u8 m, .int .u8 g] w fun e w' => e = .returned (.bool true) ∧ Below w.heap.size w w' := by
  have hext := extract_min sa 60
  have hsz := (size_extract_le sa 60).2
  obtain ⟨s, hs⟩ : ∃ s, s = sa.extract 0 60 := ⟨_, rfl⟩
  rw [← hs] at hext hsz
  rw [show ((60 : Nat) : Int) = (60 : Int) from rfl] at hext
  obtain ⟨X, E, hI, hR⟩ := both s hsz
  have HI := Lib.hid hI
  have HR := Lib.hid hR
  obtain ⟨m5, hm5⟩ : ∃ z : Nat, (z : Int) = m % 5 := ⟨(m % 5).toNat, by omega⟩
  obtain ⟨d, hd⟩ : ∃ z : Nat, (z : Int) = g % 10 := ⟨(g % 10).toNat, by omega⟩
  obtain ⟨N, hN⟩ : ∃ N, N = 998 + m5 := ⟨_, rfl⟩
  obtain ⟨b, hb⟩ : ∃ b, b = 48 + d := ⟨_, rfl⟩
  have hd10 : d < 10 := by omega
  have hm55 : m5 < 5 := by omega
  have hNb : N ≤ 1002 := by omega
  have hN0 : 0 < N := by omega
  have hb256 : b < 256 := by omega
  obtain ⟨s2, hs2⟩ : ∃ s2 : ByteArray, s2 = ⟨(45 :: List.replicate N (UInt8.ofNat (48 + d))).toArray⟩ := ⟨_, rfl⟩
  obtain ⟨l1, l2, l3⟩ := long_c N d hN0 hd10 s2 hs2
  have e1 : (998 : Int) + (m5 : Int) = (N : Int) := by omega
  have e2 : (48 : Int) + (d : Int) = (b : Int) := by omega
  have HEM : Hid (m.tmod 5 = (m5 : Int)) := Lib.hid (by rw [Int.tmod_eq_emod_of_nonneg m1]; omega)
  have HED : Hid (g.tmod 10 = (d : Int)) := Lib.hid (by rw [Int.tmod_eq_emod_of_nonneg g1]; omega)
  have HF0 := Lib.hid (fil_zero b N)
  obtain ⟨s3, hs3⟩ : ∃ s3 : ByteArray, s3 = ⟨(List.replicate N (UInt8.ofNat (48 + d))).toArray⟩ := ⟨_, rfl⟩
  have HST : Hid (strFn (fil b N) N = s3) := Lib.hid (by rw [fil_str, hb, hs3])
  have hs3s : s3.size ≤ 1002 := by rw [hs3, size_list, List.length_replicate]; omega
  have hcat : (⟨#[45]⟩ ++ s3 : ByteArray) = s2 := by rw [hs2, hs3]; exact cat1 45 _
  have hd0 : d = 0 := by omega
  have HL := Lib.hid (l2 (by omega) hd0)
  have hgt : ¬ (1000 : Int) < (N : Int) := by omega
  have HED0 : Hid (g.tmod 10 = 0) := Lib.hid (by rw [HED.out, hd0]; rfl)
  clear hs hI hR l1 l2 l3 hm5 hd hN hb hs2 hs3 ha m1 m2 g1 g2 hc hz hd0
  have HE1 := Lib.hid e1
  have HE2 := Lib.hid e2
  go_enter Tryd.func13, Tryd.ntmps13
  go_wp2_with fail
  (go_wp2_with fail; refine (HI.out _).mono ?_; rintro e w' ⟨rfl, hb⟩; (first | (with_reducible (have hb2 := World.plus_of_below ((World.below_plus _ _).trans (hb.mono (World.size_plus _ _)))); obtain ⟨u, rfl⟩ := hb2) | (obtain ⟨u, rfl⟩ := World.plus_of_below hb)); clear hb)
  revert u
  intro ua
  go_wp2_with fail
  (go_wp2_with fail; refine (HR.out _).mono ?_; rintro e w' ⟨rfl, hb⟩; obtain ⟨u, rfl⟩ := World.plus_of_below hb; clear hb)
  go_wp2_with fail
  have hw5 : wrap64 (m5 : Int) = (m5 : Int) := by unfold wrap64; omega
  have hwN : wrap64 (N : Int) = (N : Int) := by unfold wrap64; omega
  simp only [HEM.out, hw5, HE1.out, hwN]
  clear hw5 hwN e1 e2
  obtain ⟨V, hV⟩ : ∃ z, z = (((w.plus ua).alloc (.cells #[.bool (sg X), .string (mg X)] 23)).plus u).alloc (.cells #[.bool (sg X), .string (mg X)] 23) := ⟨_, rfl⟩
  rw [← hV]
  have q9 : V.heap[(((w.plus ua).alloc (.cells #[.bool (sg X), .string (mg X)] 23)).plus u).heap.size]? = some (.cells #[.bool (sg X), .string (mg X)] 23 (0, 0)) := by rw [hV]; (repeat' (first | (with_reducible exact heap_at _ _ _ (by first | (simp [go_sem]; done) | omega)) | (with_reducible assumption) | (with_reducible exact World.heap_row_same _ _ _ _ (by first | assumption | omega | (simp [go_sem]; done) | (simp [go_sem]; omega))) | (rw [World.heap_row_other _ _ _ _ _ (by first | assumption | omega)]) | (rw [World.heap_plus _ _ _ (by first | assumption | omega | (simp [go_sem]; done) | (simp [go_sem]; omega))]) | (rw [heap_alloc_old _ _ (by first | assumption | omega | (simp [go_sem]; done) | (simp [go_sem]; omega))])))
  have q7 : V.heap[(w.plus ua).heap.size]? = some (.cells #[.bool (sg X), .string (mg X)] 23 (0, 0)) := by rw [hV]; (repeat' (first | (with_reducible exact heap_at _ _ _ (by first | (simp [go_sem]; done) | omega)) | (with_reducible assumption) | (with_reducible exact World.heap_row_same _ _ _ _ (by first | assumption | omega | (simp [go_sem]; done) | (simp [go_sem]; omega))) | (rw [World.heap_row_other _ _ _ _ _ (by first | assumption | omega)]) | (rw [World.heap_plus _ _ _ (by first | assumption | omega | (simp [go_sem]; done) | (simp [go_sem]; omega))]) | (rw [heap_alloc_old _ _ (by first | assumption | omega | (simp [go_sem]; done) | (simp [go_sem]; omega))])))
  have hbw : Below w.heap.size w V := by rw [hV]; (repeat' (first | (with_reducible exact Below.refl _ _) | (with_reducible assumption) | (with_reducible refine Below.plus0 ?_ _) | (with_reducible refine Below.row ?_ ?_ _ _) | (with_reducible refine Below.alloc0 ?_ _) | (with_reducible refine Below.plus ?_ ?_ _) | (with_reducible refine Below.alloc ?_ ?_ _) | (with_reducible refine Below.drew ?_) | (with_reducible refine Below.drewN ?_ _) | (simp [go_sem]; done) | (simp [go_sem]; omega)))
  obtain ⟨b9, hb9⟩ : ∃ b, b = (((w.plus ua).alloc (.cells #[.bool (sg X), .string (mg X)] 23)).plus u).heap.size := ⟨_, rfl⟩
  rw [← hb9] at q9
  try simp only [← hb9]
  obtain ⟨b7, hb7⟩ : ∃ b, b = (w.plus ua).heap.size := ⟨_, rfl⟩
  rw [← hb7] at q7
  try simp only [← hb7]
  have y9 : w.heap.size ≤ b9 := by first | omega | (rw [hb9]; first | exact Nat.le_refl _ | (simp [go_sem]; done) | (simp [go_sem]; omega) | (have := hbw.size; simp [go_sem] at *; omega))
  have y7 : w.heap.size ≤ b7 := by first | omega | (rw [hb7]; first | exact Nat.le_refl _ | (simp [go_sem]; done) | (simp [go_sem]; omega) | (have := hbw.size; simp [go_sem] at *; omega))
  have n97 : b9 ≠ b7 := by first | omega | (rw [hb9, hb7]; first | (simp [go_sem]; done) | (simp [go_sem]; omega))
  have n79 : b7 ≠ b9 := n97.symm
  have z9 : b9 < V.heap.size := (Array.getElem?_eq_some_iff.1 q9).1
  have c90 : V.cell? ⟨b9, 0, none⟩ = some (.bool (sg X)) := (cell_at q9).trans rfl
  have c91 : V.cell? ⟨b9, 1, none⟩ = some (.string (mg X)) := (cell_at q9).trans rfl
  have z7 : b7 < V.heap.size := (Array.getElem?_eq_some_iff.1 q7).1
  have c70 : V.cell? ⟨b7, 0, none⟩ = some (.bool (sg X)) := (cell_at q7).trans rfl
  have c71 : V.cell? ⟨b7, 1, none⟩ = some (.string (mg X)) := (cell_at q7).trans rfl
  clear hV hb9 hb7
  have hmk := make8 N V (by omega)
  simp only [hmk]
  clear hmk
  go_wp2_with fail
  go_loopw [13] (fun v wr => ∃ k : Nat, k ≤ N ∧ v = .int .i64 (k : Int) ∧ wr = V.alloc (.cells (arr .u8 (fil b k) N) 5)) (fun v _ => N - (intOf v).toNat)
  case atStart => exact ⟨0, Nat.zero_le _, rfl, by rw [HF0.out]⟩
  case round =>
    obtain ⟨k, hk, rfl, rfl⟩ := hrel
    by_cases hlt : k < N
    · have hki : (k : Int) < (N : Int) := by omega
      have HS := Lib.hid (fil_succ b k)
      have hget := arr_get .u8 (fil b k) N k hlt
      have hbw : (b : Int) % 256 = (b : Int) := by omega
      have ed := HED.out
      have e2 := HE2.out
      go_wp2_with fail
      exact ⟨⟨k + 1, by omega, by go_num, by rw [arr_set, HS.out]⟩, by first | (simp [intOf]; done) | (simp [intOf]; omega)⟩
    · have hkN : k = N := by omega
      have hki : ¬ (k : Int) < (N : Int) := by omega
      subst hkN
      have hcv := conv8 (fil b k) k k V (fil_lt b k hb256)
      rw [HST.out] at hcv
      go_wp2_with fail
      (go_wp2_with fail; refine (HL.out _).mono ?_; rintro e w' ⟨rfl, hb⟩; obtain ⟨u, rfl⟩ := World.plus_of_below hb; clear hb)
      obtain ⟨V2, hV2⟩ : ∃ z, z = (V.alloc (.cells (arr .u8 (fil b k) k) 5)).plus u := ⟨_, rfl⟩
      rw [← hV2]
      replace q9 : V2.heap[b9]? = some (.cells #[.bool (sg X), .string (mg X)] 23 (0, 0)) := by rw [hV2]; (repeat' (first | (with_reducible exact heap_at _ _ _ (by first | (simp [go_sem]; done) | omega)) | (with_reducible assumption) | (with_reducible exact World.heap_row_same _ _ _ _ (by first | assumption | omega | (simp [go_sem]; done) | (simp [go_sem]; omega))) | (rw [World.heap_row_other _ _ _ _ _ (by first | assumption | omega)]) | (rw [World.heap_plus _ _ _ (by first | assumption | omega | (simp [go_sem]; done) | (simp [go_sem]; omega))]) | (rw [heap_alloc_old _ _ (by first | assumption | omega | (simp [go_sem]; done) | (simp [go_sem]; omega))])))
      replace q7 : V2.heap[b7]? = some (.cells #[.bool (sg X), .string (mg X)] 23 (0, 0)) := by rw [hV2]; (repeat' (first | (with_reducible exact heap_at _ _ _ (by first | (simp [go_sem]; done) | omega)) | (with_reducible assumption) | (with_reducible exact World.heap_row_same _ _ _ _ (by first | assumption | omega | (simp [go_sem]; done) | (simp [go_sem]; omega))) | (rw [World.heap_row_other _ _ _ _ _ (by first | assumption | omega)]) | (rw [World.heap_plus _ _ _ (by first | assumption | omega | (simp [go_sem]; done) | (simp [go_sem]; omega))]) | (rw [heap_alloc_old _ _ (by first | assumption | omega | (simp [go_sem]; done) | (simp [go_sem]; omega))])))
      have hbw : Below w.heap.size w V2 := by rw [hV2]; (repeat' (first | (with_reducible exact Below.refl _ _) | (with_reducible assumption) | (with_reducible refine Below.plus0 ?_ _) | (with_reducible refine Below.row ?_ ?_ _ _) | (with_reducible refine Below.alloc0 ?_ _) | (with_reducible refine Below.plus ?_ ?_ _) | (with_reducible refine Below.alloc ?_ ?_ _) | (with_reducible refine Below.drew ?_) | (with_reducible refine Below.drewN ?_ _) | (simp [go_sem]; done) | (simp [go_sem]; omega)))
      have z9 : b9 < V2.heap.size := (Array.getElem?_eq_some_iff.1 q9).1
      have c90 : V2.cell? ⟨b9, 0, none⟩ = some (.bool (sg X)) := (cell_at q9).trans rfl
      have c91 : V2.cell? ⟨b9, 1, none⟩ = some (.string (mg X)) := (cell_at q9).trans rfl
      have z7 : b7 < V2.heap.size := (Array.getElem?_eq_some_iff.1 q7).1
      have c70 : V2.cell? ⟨b7, 0, none⟩ = some (.bool (sg X)) := (cell_at q7).trans rfl
      have c71 : V2.cell? ⟨b7, 1, none⟩ = some (.string (mg X)) := (cell_at q7).trans rfl
      clear hV2 
      have ed := HED0.out
      go_wp2_with fail
      (go_wp2_with fail; refine (known_c _).mono ?_; rintro e w' ⟨rfl, hb⟩; obtain ⟨u, rfl⟩ := World.plus_of_below hb; clear hb)
      go_wp2_with fail
      go_ret
      exact ⟨rfl, by (repeat' (first | (with_reducible exact Below.refl _ _) | (with_reducible assumption) | (with_reducible refine Below.plus0 ?_ _) | (with_reducible refine Below.alloc0 ?_ _) | (with_reducible refine Below.plus ?_ ?_ _) | (with_reducible refine Below.alloc ?_ ?_ _) | (with_reducible refine Below.drew ?_) | (with_reducible refine Below.drewN ?_ _) | (simp [go_sem]; done) | (simp [go_sem]; omega)))⟩
set_option maxRecDepth 100000 in
set_option maxHeartbeats 6400000 in
theorem IntegerParses_good (sa : ByteArray) (m g : Int) (w : World) (ha : sa.size ≤ 9223372036854775807) (m1 : 0 ≤ m) (m2 : m ≤ 255) (g1 : 0 ≤ g) (g2 : g ≤ 255) (hc : 998 + m % 5 ≤ 1000) (hz : g % 10 ≠ 0) :
    Calls Tryd.prog 13 #[.string sa, .int .u8 m, .int .u8 g] w fun e w' => e = .returned (.bool true) ∧ Below w.heap.size w w' := by
  have hext := extract_min sa 60
  have hsz := (size_extract_le sa 60).2
  obtain ⟨s, hs⟩ : ∃ s, s = sa.extract 0 60 := ⟨_, rfl⟩
  rw [← hs] at hext hsz
  rw [show ((60 : Nat) : Int) = (60 : Int) from rfl] at hext
  obtain ⟨X, E, hI, hR⟩ := both s hsz
  have HI := Lib.hid hI
  have HR := Lib.hid hR
  obtain ⟨m5, hm5⟩ : ∃ z : Nat, (z : Int) = m % 5 := ⟨(m % 5).toNat, by omega⟩
  obtain ⟨d, hd⟩ : ∃ z : Nat, (z : Int) = g % 10 := ⟨(g % 10).toNat, by omega⟩
  obtain ⟨N, hN⟩ : ∃ N, N = 998 + m5 := ⟨_, rfl⟩
  obtain ⟨b, hb⟩ : ∃ b, b = 48 + d := ⟨_, rfl⟩
  have hd10 : d < 10 := by omega
  have hm55 : m5 < 5 := by omega
  have hNb : N ≤ 1002 := by omega
  have hN0 : 0 < N := by omega
  have hb256 : b < 256 := by omega
  obtain ⟨s2, hs2⟩ : ∃ s2 : ByteArray, s2 = ⟨(45 :: List.replicate N (UInt8.ofNat (48 + d))).toArray⟩ := ⟨_, rfl⟩
  obtain ⟨l1, l2, l3⟩ := long_c N d hN0 hd10 s2 hs2
  have e1 : (998 : Int) + (m5 : Int) = (N : Int) := by omega
  have e2 : (48 : Int) + (d : Int) = (b : Int) := by omega
  have HEM : Hid (m.tmod 5 = (m5 : Int)) := Lib.hid (by rw [Int.tmod_eq_emod_of_nonneg m1]; omega)
  have HED : Hid (g.tmod 10 = (d : Int)) := Lib.hid (by rw [Int.tmod_eq_emod_of_nonneg g1]; omega)
  have HF0 := Lib.hid (fil_zero b N)
  obtain ⟨s3, hs3⟩ : ∃ s3 : ByteArray, s3 = ⟨(List.replicate N (UInt8.ofNat (48 + d))).toArray⟩ := ⟨_, rfl⟩
  have HST : Hid (strFn (fil b N) N = s3) := Lib.hid (by rw [fil_str, hb, hs3])
  have hs3s : s3.size ≤ 1002 := by rw [hs3, size_list, List.length_replicate]; omega
  have hcat : (⟨#[45]⟩ ++ s3 : ByteArray) = s2 := by rw [hs2, hs3]; exact cat1 45 _
  have hd0 : 0 < d := by omega
  obtain ⟨x, hx0, hxs, hpl, hl3⟩ := l3 (by omega) hd0
  have hsx := sg_true x hx0
  have hPR := fun w => Print_c x w (by omega)
  rw [hsx] at hl3 hPR
  obtain ⟨pr, hpr⟩ : ∃ p, p = printS x := ⟨_, rfl⟩
  rw [← hpr] at hpl hPR
  have HL := Lib.hid hl3
  have HPR := Lib.hid hPR
  have hpli : (pr.size : Int) = (N : Int) + 1 := by omega
  have hgt : ¬ (1000 : Int) < (N : Int) := by omega
  have hdz : ((d : Int) == 0) = false := by rw [beq_eq_false_iff_ne]; omega
  clear hs hI hR l1 l2 l3 hm5 hd hN hb hs2 hs3 ha m1 m2 g1 g2 hc hz hd0 hx0 hxs hpl hl3 hsx hPR hpr
  have HE1 := Lib.hid e1
  have HE2 := Lib.hid e2
  go_enter Tryd.func13, Tryd.ntmps13
  go_wp2_with fail
  (go_wp2_with fail; refine (HI.out _).mono ?_; rintro e w' ⟨rfl, hb⟩; (first | (with_reducible (have hb2 := World.plus_of_below ((World.below_plus _ _).trans (hb.mono (World.size_plus _ _)))); obtain ⟨u, rfl⟩ := hb2) | (obtain ⟨u, rfl⟩ := World.plus_of_below hb)); clear hb)
  revert u
  intro ua
  go_wp2_with fail
  (go_wp2_with fail; refine (HR.out _).mono ?_; rintro e w' ⟨rfl, hb⟩; obtain ⟨u, rfl⟩ := World.plus_of_below hb; clear hb)
  go_wp2_with fail
  have hw5 : wrap64 (m5 : Int) = (m5 : Int) := by unfold wrap64; omega
  have hwN : wrap64 (N : Int) = (N : Int) := by unfold wrap64; omega
  simp only [HEM.out, hw5, HE1.out, hwN]
  clear hw5 hwN e1 e2
  obtain ⟨V, hV⟩ : ∃ z, z = (((w.plus ua).alloc (.cells #[.bool (sg X), .string (mg X)] 23)).plus u).alloc (.cells #[.bool (sg X), .string (mg X)] 23) := ⟨_, rfl⟩
  rw [← hV]
  have q9 : V.heap[(((w.plus ua).alloc (.cells #[.bool (sg X), .string (mg X)] 23)).plus u).heap.size]? = some (.cells #[.bool (sg X), .string (mg X)] 23 (0, 0)) := by rw [hV]; (repeat' (first | (with_reducible exact heap_at _ _ _ (by first | (simp [go_sem]; done) | omega)) | (with_reducible assumption) | (with_reducible exact World.heap_row_same _ _ _ _ (by first | assumption | omega | (simp [go_sem]; done) | (simp [go_sem]; omega))) | (rw [World.heap_row_other _ _ _ _ _ (by first | assumption | omega)]) | (rw [World.heap_plus _ _ _ (by first | assumption | omega | (simp [go_sem]; done) | (simp [go_sem]; omega))]) | (rw [heap_alloc_old _ _ (by first | assumption | omega | (simp [go_sem]; done) | (simp [go_sem]; omega))])))
  have q7 : V.heap[(w.plus ua).heap.size]? = some (.cells #[.bool (sg X), .string (mg X)] 23 (0, 0)) := by rw [hV]; (repeat' (first | (with_reducible exact heap_at _ _ _ (by first | (simp [go_sem]; done) | omega)) | (with_reducible assumption) | (with_reducible exact World.heap_row_same _ _ _ _ (by first | assumption | omega | (simp [go_sem]; done) | (simp [go_sem]; omega))) | (rw [World.heap_row_other _ _ _ _ _ (by first | assumption | omega)]) | (rw [World.heap_plus _ _ _ (by first | assumption | omega | (simp [go_sem]; done) | (simp [go_sem]; omega))]) | (rw [heap_alloc_old _ _ (by first | assumption | omega | (simp [go_sem]; done) | (simp [go_sem]; omega))])))
  have hbw : Below w.heap.size w V := by rw [hV]; (repeat' (first | (with_reducible exact Below.refl _ _) | (with_reducible assumption) | (with_reducible refine Below.plus0 ?_ _) | (with_reducible refine Below.row ?_ ?_ _ _) | (with_reducible refine Below.alloc0 ?_ _) | (with_reducible refine Below.plus ?_ ?_ _) | (with_reducible refine Below.alloc ?_ ?_ _) | (with_reducible refine Below.drew ?_) | (with_reducible refine Below.drewN ?_ _) | (simp [go_sem]; done) | (simp [go_sem]; omega)))
  obtain ⟨b9, hb9⟩ : ∃ b, b = (((w.plus ua).alloc (.cells #[.bool (sg X), .string (mg X)] 23)).plus u).heap.size := ⟨_, rfl⟩
  rw [← hb9] at q9
  try simp only [← hb9]
  obtain ⟨b7, hb7⟩ : ∃ b, b = (w.plus ua).heap.size := ⟨_, rfl⟩
  rw [← hb7] at q7
  try simp only [← hb7]
  have y9 : w.heap.size ≤ b9 := by first | omega | (rw [hb9]; first | exact Nat.le_refl _ | (simp [go_sem]; done) | (simp [go_sem]; omega) | (have := hbw.size; simp [go_sem] at *; omega))
  have y7 : w.heap.size ≤ b7 := by first | omega | (rw [hb7]; first | exact Nat.le_refl _ | (simp [go_sem]; done) | (simp [go_sem]; omega) | (have := hbw.size; simp [go_sem] at *; omega))
  have n97 : b9 ≠ b7 := by first | omega | (rw [hb9, hb7]; first | (simp [go_sem]; done) | (simp [go_sem]; omega))
  have n79 : b7 ≠ b9 := n97.symm
  have z9 : b9 < V.heap.size := (Array.getElem?_eq_some_iff.1 q9).1
  have c90 : V.cell? ⟨b9, 0, none⟩ = some (.bool (sg X)) := (cell_at q9).trans rfl
  have c91 : V.cell? ⟨b9, 1, none⟩ = some (.string (mg X)) := (cell_at q9).trans rfl
  have z7 : b7 < V.heap.size := (Array.getElem?_eq_some_iff.1 q7).1
  have c70 : V.cell? ⟨b7, 0, none⟩ = some (.bool (sg X)) := (cell_at q7).trans rfl
  have c71 : V.cell? ⟨b7, 1, none⟩ = some (.string (mg X)) := (cell_at q7).trans rfl
  clear hV hb9 hb7
  have hmk := make8 N V (by omega)
  simp only [hmk]
  clear hmk
  go_wp2_with fail
  go_loopw [13] (fun v wr => ∃ k : Nat, k ≤ N ∧ v = .int .i64 (k : Int) ∧ wr = V.alloc (.cells (arr .u8 (fil b k) N) 5)) (fun v _ => N - (intOf v).toNat)
  case atStart => exact ⟨0, Nat.zero_le _, rfl, by rw [HF0.out]⟩
  case round =>
    obtain ⟨k, hk, rfl, rfl⟩ := hrel
    by_cases hlt : k < N
    · have hki : (k : Int) < (N : Int) := by omega
      have HS := Lib.hid (fil_succ b k)
      have hget := arr_get .u8 (fil b k) N k hlt
      have hbw : (b : Int) % 256 = (b : Int) := by omega
      have ed := HED.out
      have e2 := HE2.out
      go_wp2_with fail
      exact ⟨⟨k + 1, by omega, by go_num, by rw [arr_set, HS.out]⟩, by first | (simp [intOf]; done) | (simp [intOf]; omega)⟩
    · have hkN : k = N := by omega
      have hki : ¬ (k : Int) < (N : Int) := by omega
      subst hkN
      have hcv := conv8 (fil b k) k k V (fil_lt b k hb256)
      rw [HST.out] at hcv
      go_wp2_with fail
      (go_wp2_with fail; refine (HL.out _).mono ?_; rintro e w' ⟨rfl, hb⟩; obtain ⟨u, rfl⟩ := World.plus_of_below hb; clear hb)
      obtain ⟨V2, hV2⟩ : ∃ z, z = (V.alloc (.cells (arr .u8 (fil b k) k) 5)).plus u := ⟨_, rfl⟩
      rw [← hV2]
      replace q9 : V2.heap[b9]? = some (.cells #[.bool (sg X), .string (mg X)] 23 (0, 0)) := by rw [hV2]; (repeat' (first | (with_reducible exact heap_at _ _ _ (by first | (simp [go_sem]; done) | omega)) | (with_reducible assumption) | (with_reducible exact World.heap_row_same _ _ _ _ (by first | assumption | omega | (simp [go_sem]; done) | (simp [go_sem]; omega))) | (rw [World.heap_row_other _ _ _ _ _ (by first | assumption | omega)]) | (rw [World.heap_plus _ _ _ (by first | assumption | omega | (simp [go_sem]; done) | (simp [go_sem]; omega))]) | (rw [heap_alloc_old _ _ (by first | assumption | omega | (simp [go_sem]; done) | (simp [go_sem]; omega))])))
      replace q7 : V2.heap[b7]? = some (.cells #[.bool (sg X), .string (mg X)] 23 (0, 0)) := by rw [hV2]; (repeat' (first | (with_reducible exact heap_at _ _ _ (by first | (simp [go_sem]; done) | omega)) | (with_reducible assumption) | (with_reducible exact World.heap_row_same _ _ _ _ (by first | assumption | omega | (simp [go_sem]; done) | (simp [go_sem]; omega))) | (rw [World.heap_row_other _ _ _ _ _ (by first | assumption | omega)]) | (rw [World.heap_plus _ _ _ (by first | assumption | omega | (simp [go_sem]; done) | (simp [go_sem]; omega))]) | (rw [heap_alloc_old _ _ (by first | assumption | omega | (simp [go_sem]; done) | (simp [go_sem]; omega))])))
      have hbw : Below w.heap.size w V2 := by rw [hV2]; (repeat' (first | (with_reducible exact Below.refl _ _) | (with_reducible assumption) | (with_reducible refine Below.plus0 ?_ _) | (with_reducible refine Below.row ?_ ?_ _ _) | (with_reducible refine Below.alloc0 ?_ _) | (with_reducible refine Below.plus ?_ ?_ _) | (with_reducible refine Below.alloc ?_ ?_ _) | (with_reducible refine Below.drew ?_) | (with_reducible refine Below.drewN ?_ _) | (simp [go_sem]; done) | (simp [go_sem]; omega)))
      have z9 : b9 < V2.heap.size := (Array.getElem?_eq_some_iff.1 q9).1
      have c90 : V2.cell? ⟨b9, 0, none⟩ = some (.bool (sg X)) := (cell_at q9).trans rfl
      have c91 : V2.cell? ⟨b9, 1, none⟩ = some (.string (mg X)) := (cell_at q9).trans rfl
      have z7 : b7 < V2.heap.size := (Array.getElem?_eq_some_iff.1 q7).1
      have c70 : V2.cell? ⟨b7, 0, none⟩ = some (.bool (sg X)) := (cell_at q7).trans rfl
      have c71 : V2.cell? ⟨b7, 1, none⟩ = some (.string (mg X)) := (cell_at q7).trans rfl
      clear hV2 
      have ed := HED.out
      go_wp2_with fail
      (go_wp2_with fail; refine (known_c _).mono ?_; rintro e w' ⟨rfl, hb⟩; obtain ⟨u, rfl⟩ := World.plus_of_below hb; clear hb)
      go_wp2_with fail
      (go_wp2_with fail; refine (HPR.out _).mono ?_; rintro e w' ⟨rfl, hb⟩; obtain ⟨u, rfl⟩ := World.plus_of_below hb; clear hb)
      go_wp2_with fail
      go_ret
      exact ⟨rfl, by (repeat' (first | (with_reducible exact Below.refl _ _) | (with_reducible assumption) | (with_reducible refine Below.plus0 ?_ _) | (with_reducible refine Below.alloc0 ?_ _) | (with_reducible refine Below.plus ?_ ?_ _) | (with_reducible refine Below.alloc ?_ ?_ _) | (with_reducible refine Below.drew ?_) | (with_reducible refine Below.drewN ?_ _) | (simp [go_sem]; done) | (simp [go_sem]; omega)))⟩
theorem IntegerParses_c (sa : ByteArray) (m g : Int) (w : World) (ha : sa.size ≤ 9223372036854775807) (m1 : 0 ≤ m) (m2 : m ≤ 255) (g1 : 0 ≤ g) (g2 : g ≤ 255) :
    Calls Tryd.prog 13 #[.string sa, .int .u8 m, .int .u8 g] w fun e w' => e = .returned (.bool true) ∧ Below w.heap.size w w' := by
  by_cases hc : 1000 < 998 + m % 5
  · exact IntegerParses_long sa m g w ha m1 m2 g1 g2 hc
  · by_cases hz : g % 10 = 0
    · exact IntegerParses_zero sa m g w ha m1 m2 g1 g2 (by omega) hz
    · exact IntegerParses_good sa m g w ha m1 m2 g1 g2 (by omega) hz
end Go.Proofs.YtkoodpbcfdblbaaDoor
