import Derived.Test.YtkoodpbcfdblbaaDoorIntM
import Derived.Test.YtkoodpbcfdblbaaDoorTrim
import Derived.Test.YtkoodpbcfdblbaaDoorRelM
set_option linter.unusedSimpArgs false
set_option linter.unusedVariables false
namespace Go.Proofs.YtkoodpbcfdblbaaDoor
open Go Go.RowKit
open Vi
def bsz : Value → Nat | .string t => t.size | _ => 0
def pneg (s : ByteArray) : Bool := Lib.hasPrefix s.data.toList [45]
def pbody (s : ByteArray) : ByteArray := ⟨(Lib.trimPrefix s.data.toList [45]).toArray⟩
theorem cut_c (s : ByteArray) (w : World) : Calls Tryd.prog 70 #[.string s, .string ⟨#[45]⟩] w fun e w' => e = .returned (.tuple #[.string (pbody s), .bool (pneg s)]) ∧ w = w' :=
  (Tryd.strings_CutPrefix s ⟨#[45]⟩ w).mono fun e w' h => ⟨h.1, h.2.symm⟩
set_option maxHeartbeats 400000 in
theorem Parse_empty (s : ByteArray) (he : s.toList.isEmpty = true) (w : World) : Calls Tryd.prog 44 #[.string s] w fun e w' => e = .returned (.tuple #[.agg #[.bool false, .string ⟨#[]⟩], .int .i64 10]) ∧ Below w.heap.size w w' := by
  have HC := Lib.hid (fun w => cut_c s w)
  go_enter Tryd.func44, Tryd.ntmps44
  go_wp2_with fail
  (refine (HC.out _).mono ?_; rintro e w' ⟨rfl, rfl⟩)
  go_wp2_with fail
  refine bodyPost_ret (by simp [results, Tryd.results44, go_sem]; rfl) rfl ?_
  exact ⟨rfl, by (repeat' (first | (with_reducible exact Below.refl _ _) | (with_reducible assumption) | (with_reducible refine Below.plus0 ?_ _) | (with_reducible refine Below.alloc0 ?_ _) | (with_reducible refine Below.plus ?_ ?_ _) | (with_reducible refine Below.alloc ?_ ?_ _) | (with_reducible refine Below.drew ?_) | (with_reducible refine Below.drewN ?_ _) | (simp [go_sem]; done) | (simp [go_sem]; omega)))⟩
set_option maxHeartbeats 400000 in
theorem Parse_long (s : ByteArray) (he : s.toList.isEmpty = false) (hl : 1000 < (pbody s).size) (hs : (pbody s).size ≤ 4294967296) (w : World) : Calls Tryd.prog 44 #[.string s] w fun e w' => e = .returned (.tuple #[.agg #[.bool false, .string ⟨#[]⟩], .int .i64 28]) ∧ Below w.heap.size w w' := by
  have HC := Lib.hid (fun w => cut_c s w)
  generalize pbody s = T at *
  have h1 : (1000 : Int) < (T.size : Int) := by omega
  go_enter Tryd.func44, Tryd.ntmps44
  go_wp2_with fail
  (refine (HC.out _).mono ?_; rintro e w' ⟨rfl, rfl⟩)
  go_wp2_with fail
  refine bodyPost_ret (by simp [results, Tryd.results44, go_sem]; rfl) rfl ?_
  exact ⟨rfl, by (repeat' (first | (with_reducible exact Below.refl _ _) | (with_reducible assumption) | (with_reducible refine Below.plus0 ?_ _) | (with_reducible refine Below.alloc0 ?_ _) | (with_reducible refine Below.plus ?_ ?_ _) | (with_reducible refine Below.alloc ?_ ?_ _) | (with_reducible refine Below.drew ?_) | (with_reducible refine Below.drewN ?_ _) | (simp [go_sem]; done) | (simp [go_sem]; omega)))⟩
theorem emp_false {t : ByteArray} (h : 0 < t.size) : t.toList.isEmpty = false := by
  rw [toList_data]
  cases h2 : t.data.toList with
  | nil =>
    exfalso
    have : t.size = t.data.toList.length := rfl
    rw [h2, List.length_nil] at this
    omega
  | cons _ _ => rfl
theorem emp_true {t : ByteArray} (h : t.size = 0) : t.toList.isEmpty = true := by
  rw [toList_data]
  cases h2 : t.data.toList with
  | nil => rfl
  | cons _ _ =>
    exfalso
    have : t.size = t.data.toList.length := rfl
    rw [h2, List.length_cons] at this
    omega
set_option maxHeartbeats 400000 in
theorem Parse_bad1 (s : ByteArray) (he : s.toList.isEmpty = false) (h0 : (pbody s).size = 0) (w : World) : Calls Tryd.prog 44 #[.string s] w fun e w' => e = .returned (.tuple #[.agg #[.bool false, .string ⟨#[]⟩], .int .i64 15]) ∧ Below w.heap.size w w' := by
  have HC := Lib.hid (fun w => cut_c s w)
  generalize pbody s = T at *
  have h1 : (T.size : Int) = 0 := by omega
  have h2 := emp_true h0
  go_enter Tryd.func44, Tryd.ntmps44
  go_wp2_with fail
  (refine (HC.out _).mono ?_; rintro e w' ⟨rfl, rfl⟩)
  go_wp2_with fail
  refine bodyPost_ret (by simp [results, Tryd.results44, go_sem]; rfl) rfl ?_
  exact ⟨rfl, by (repeat' (first | (with_reducible exact Below.refl _ _) | (with_reducible assumption) | (with_reducible refine Below.plus0 ?_ _) | (with_reducible refine Below.alloc0 ?_ _) | (with_reducible refine Below.plus ?_ ?_ _) | (with_reducible refine Below.alloc ?_ ?_ _) | (with_reducible refine Below.drew ?_) | (with_reducible refine Below.drewN ?_ _) | (simp [go_sem]; done) | (simp [go_sem]; omega)))⟩
set_option maxHeartbeats 800000 in
theorem Parse_bad2 (s : ByteArray) (he : s.toList.isEmpty = false) (h0 : 0 < (pbody s).size) (hl : (pbody s).size ≤ 1000) (hf : ((pbody s)[0]'h0).toNat = 48) (hor : 1 < (pbody s).size ∨ pneg s = true) (w : World) : Calls Tryd.prog 44 #[.string s] w fun e w' => e = .returned (.tuple #[.agg #[.bool false, .string ⟨#[]⟩], .int .i64 15]) ∧ Below w.heap.size w w' := by
  have HC := Lib.hid (fun w => cut_c s w)
  generalize pbody s = T at *
  generalize pneg s = b at *
  have h2 := emp_false h0
  have hl2 : ¬ (1000 : Int) < (T.size : Int) := by omega
  have hf2 : ((T[0]'h0).toNat : Int) = 48 := by omega
  by_cases hsz : 1 < T.size
  · have h3 : (1 : Int) < (T.size : Int) := by omega
    clear hor hf
    go_enter Tryd.func44, Tryd.ntmps44
    go_wp2_with fail
    (refine (HC.out _).mono ?_; rintro e w' ⟨rfl, rfl⟩)
    go_wp2_with fail
    refine bodyPost_ret (by simp [results, Tryd.results44, go_sem]; rfl) rfl ?_
    exact ⟨rfl, by (repeat' (first | (with_reducible exact Below.refl _ _) | (with_reducible assumption) | (with_reducible refine Below.plus0 ?_ _) | (with_reducible refine Below.alloc0 ?_ _) | (with_reducible refine Below.plus ?_ ?_ _) | (with_reducible refine Below.alloc ?_ ?_ _) | (with_reducible refine Below.drew ?_) | (with_reducible refine Below.drewN ?_ _) | (simp [go_sem]; done) | (simp [go_sem]; omega)))⟩
  · have h3 : ¬ (1 : Int) < (T.size : Int) := by omega
    have hb : b = true := by rcases hor with h | h; exact absurd h hsz; exact h
    subst hb
    clear hor hf
    go_enter Tryd.func44, Tryd.ntmps44
    go_wp2_with fail
    (refine (HC.out _).mono ?_; rintro e w' ⟨rfl, rfl⟩)
    go_wp2_with fail
    refine bodyPost_ret (by simp [results, Tryd.results44, go_sem]; rfl) rfl ?_
    exact ⟨rfl, by (repeat' (first | (with_reducible exact Below.refl _ _) | (with_reducible assumption) | (with_reducible refine Below.plus0 ?_ _) | (with_reducible refine Below.alloc0 ?_ _) | (with_reducible refine Below.plus ?_ ?_ _) | (with_reducible refine Below.alloc ?_ ?_ _) | (with_reducible refine Below.drew ?_) | (with_reducible refine Below.drewN ?_ _) | (simp [go_sem]; done) | (simp [go_sem]; omega)))⟩
set_option maxHeartbeats 1600000 in
theorem Parse_bad3 (s : ByteArray) (he : s.toList.isEmpty = false) (h0 : 0 < (pbody s).size) (hl : (pbody s).size ≤ 1000) (hf : ((pbody s)[0]'h0).toNat ≠ 48 ∨ ((pbody s).size = 1 ∧ pneg s = false)) (hn : HasN (pbody s)) (w : World) : Calls Tryd.prog 44 #[.string s] w fun e w' => e = .returned (.tuple #[.agg #[.bool false, .string ⟨#[]⟩], .int .i64 15]) ∧ Below w.heap.size w w' := by
  have HC := Lib.hid (fun w => cut_c s w)
  generalize pbody s = T at *
  generalize pneg s = b at *
  have h2 := emp_false h0
  have hl2 : ¬ (1000 : Int) < (T.size : Int) := by omega
  have HT := Lib.hid (fun w => Trim_digs T w h0 (by omega))
  unfold digs at HT
  have ht := trimD_has T hn
  generalize trimD T = R at *
  by_cases hf1 : ((T[0]'h0).toNat : Int) = 48
  · have hf2 : T.size = 1 ∧ b = false := by rcases hf with h | h; exact absurd hf1 (by omega); exact h
    obtain ⟨hs1, hb1⟩ := hf2
    have h3 : ¬ (1 : Int) < (T.size : Int) := by omega
    subst hb1
    clear hf hs1 hn
    go_enter Tryd.func44, Tryd.ntmps44
    go_wp2_with fail
    (refine (HC.out _).mono ?_; rintro e w' ⟨rfl, rfl⟩)
    go_wp2_with fail
    (go_wp2_with fail; refine (HT.out _).mono ?_; rintro e w' ⟨rfl, hb⟩; (first | (with_reducible (have hb2 := World.plus_of_below ((World.below_plus _ _).trans (hb.mono (World.size_plus _ _)))); obtain ⟨u, rfl⟩ := hb2) | (obtain ⟨u, rfl⟩ := World.plus_of_below hb)); clear hb)
    go_wp2_with fail
    refine bodyPost_ret (by simp [results, Tryd.results44, go_sem]; rfl) rfl ?_
    exact ⟨rfl, by (repeat' (first | (with_reducible exact Below.refl _ _) | (with_reducible assumption) | (with_reducible refine Below.plus0 ?_ _) | (with_reducible refine Below.alloc0 ?_ _) | (with_reducible refine Below.plus ?_ ?_ _) | (with_reducible refine Below.alloc ?_ ?_ _) | (with_reducible refine Below.drew ?_) | (with_reducible refine Below.drewN ?_ _) | (simp [go_sem]; done) | (simp [go_sem]; omega)))⟩
  · have hf2 : (((T[0]'h0).toNat : Int) == 48) = false := by rw [beq_eq_false_iff_ne]; exact hf1
    clear hf hn
    go_enter Tryd.func44, Tryd.ntmps44
    go_wp2_with fail
    (refine (HC.out _).mono ?_; rintro e w' ⟨rfl, rfl⟩)
    go_wp2_with fail
    (go_wp2_with fail; refine (HT.out _).mono ?_; rintro e w' ⟨rfl, hb⟩; (first | (with_reducible (have hb2 := World.plus_of_below ((World.below_plus _ _).trans (hb.mono (World.size_plus _ _)))); obtain ⟨u, rfl⟩ := hb2) | (obtain ⟨u, rfl⟩ := World.plus_of_below hb)); clear hb)
    go_wp2_with fail
    refine bodyPost_ret (by simp [results, Tryd.results44, go_sem]; rfl) rfl ?_
    exact ⟨rfl, by (repeat' (first | (with_reducible exact Below.refl _ _) | (with_reducible assumption) | (with_reducible refine Below.plus0 ?_ _) | (with_reducible refine Below.alloc0 ?_ _) | (with_reducible refine Below.plus ?_ ?_ _) | (with_reducible refine Below.alloc ?_ ?_ _) | (with_reducible refine Below.drew ?_) | (with_reducible refine Below.drewN ?_ _) | (simp [go_sem]; done) | (simp [go_sem]; omega)))⟩
theorem ext_ext (T : ByteArray) (k n : Nat) (hk : k ≤ T.size) : (T.extract k T.size).extract n (T.extract k T.size).size = T.extract (k + n) T.size := by
  apply ByteArray.ext
  rw [ByteArray.size_extract]
  simp only [ByteArray.data_extract, Array.extract_extract]
  congr 1
  omega
theorem ext_get (T : ByteArray) (k i : Nat) (h : i < (T.extract k T.size).size) (h2 : k + i < T.size) : (T.extract k T.size)[i]'h = T[k + i]'h2 := by
  show (T.extract k T.size).data[i]'h = T.data[k + i]'h2
  simp [ByteArray.data_extract]
theorem ext_zero (T : ByteArray) : T.extract 0 T.size = T := by
  apply ByteArray.ext
  apply Array.ext_getElem?
  intro i
  simp only [ByteArray.data_extract, Array.getElem?_extract]
  have hs : T.data.size = T.size := rfl
  by_cases h : i < T.size
  · rw [if_pos (by omega), Nat.zero_add]
  · rw [if_neg (by omega), Array.getElem?_eq_none (by omega)]
theorem pow18 : (10 : Nat) ^ 18 = 1000000000000000000 := by decide
theorem pow10_le {i : Nat} (h : i ≤ 18) : (10 : Nat) ^ i ≤ 1000000000000000000 := by
  rw [← pow18]; exact Nat.pow_le_pow_right (by omega) h
theorem sz_pv (T : ByteArray) (k m : Nat) (hk : k ≤ m) (h : ∀ i, i < k → dgt T i ≤ 9) : (mag (pv T k)).size ≤ m := by
  have h1 := pv_lt T k h
  apply size_mag_le
  refine Nat.lt_of_lt_of_le h1 ?_
  refine Nat.le_trans (Nat.pow_le_pow_left (show 10 ≤ 256 by omega) k) ?_
  exact Nat.pow_le_pow_right (by omega) hk
set_option maxRecDepth 100000 in
set_option maxHeartbeats 6400000 in
theorem Parse_ok (s : ByteArray) (he : s.toList.isEmpty = false) (h0 : 0 < (pbody s).size) (hl : (pbody s).size ≤ 1000) (hf : ((pbody s)[0]'h0).toNat ≠ 48 ∨ ((pbody s).size = 1 ∧ pneg s = false)) (hd : AllD (pbody s)) (x : Int) (hx : x = if pneg s then -(pv (pbody s) (pbody s).size : Int) else (pv (pbody s) (pbody s).size : Int)) (w : World) : Calls Tryd.prog 44 #[.string s] w fun e w' => e = .returned (.tuple #[.agg #[.bool (sg x), .string (mg x)], .int .i64 0]) ∧ Below w.heap.size w w' := by
  have HC := Lib.hid (fun w => cut_c s w)
  generalize pbody s = T at *
  generalize pneg s = b at *
  have h2 := emp_false h0
  have hl2 : ¬ (1000 : Int) < (T.size : Int) := by omega
  have HT := Lib.hid (fun w => Trim_digs T w h0 (by omega))
  unfold digs at HT
  rw [trimD_all T hd] at HT
  obtain ⟨N, hN⟩ : ∃ N, N = T.size := ⟨_, rfl⟩
  have HM : Hid (∀ w, Calls Tryd.prog 49 #[.bool b, .string (mag (pv T N))] w fun e w' => e = .returned (.agg #[.bool (sg x), .string (mg x)]) ∧ Below w.heap.size w w') := Lib.hid fun w => made_c b x (pv T N) (by rw [hx, hN]) w
  have HDG : Hid (∀ i (h : i < T.size), dgt T i ≤ 9 ∧ (T[i]'h).toNat = 48 + dgt T i) := Lib.hid fun i h => dgt_le T i h (hd.at i h)
  have HL : Hid (∀ (wr : World) (a : Act) (Q : Exit → Act → World → Prop), True) := Lib.hid fun _ _ _ => trivial
  have HNT := Lib.hid hN
  have key : ((T[0]'h0).toNat : Int) = 48 ∧ T.size = 1 ∧ b = false ∨ (((T[0]'h0).toNat : Int) == 48) = false := by
    by_cases h : ((T[0]'h0).toNat : Int) = 48
    · rcases hf with h3 | ⟨h3, h4⟩
      · exact absurd h (by omega)
      · exact .inl ⟨h, h3, h4⟩
    · exact .inr (by rw [beq_eq_false_iff_ne]; exact h)
  clear hf hd hx HL
  rcases key with ⟨hf1, hs1, hb1⟩ | hf2
  · have h3 : ¬ (1 : Int) < (T.size : Int) := by omega
    subst hb1
    clear hs1 hN
    go_enter Tryd.func44, Tryd.ntmps44
    go_wp2_with fail
    (refine (HC.out _).mono ?_; rintro e w' ⟨rfl, rfl⟩)
    go_wp2_with fail
    (go_wp2_with fail; refine (HT.out _).mono ?_; rintro e w' ⟨rfl, hb⟩; (first | (with_reducible (have hb2 := World.plus_of_below ((World.below_plus _ _).trans (hb.mono (World.size_plus _ _)))); obtain ⟨u, rfl⟩ := hb2) | (obtain ⟨u, rfl⟩ := World.plus_of_below hb)); clear hb)
    go_wp2_with fail
    obtain ⟨V, hV⟩ : ∃ z, z = (w.alloc (.cells #[.bool false, .string ⟨#[]⟩] 23)).plus u := ⟨_, rfl⟩
    rw [← hV]
    have q2 : V.heap[w.heap.size]? = some (.cells #[.bool false, .string ⟨#[]⟩] 23 (0, 0)) := by rw [hV]; (repeat' (first | (with_reducible exact heap_at _ _ _ (by first | (simp [go_sem]; done) | omega)) | (with_reducible assumption) | (with_reducible exact World.heap_row_same _ _ _ _ (by first | assumption | omega | (simp [go_sem]; done) | (simp [go_sem]; omega))) | (rw [World.heap_row_other _ _ _ _ _ (by first | assumption | omega)]) | (rw [World.heap_plus _ _ _ (by first | assumption | omega | (simp [go_sem]; done) | (simp [go_sem]; omega))]) | (rw [heap_alloc_old _ _ (by first | assumption | omega | (simp [go_sem]; done) | (simp [go_sem]; omega))])))
    have hbw : Below w.heap.size w V := by rw [hV]; (repeat' (first | (with_reducible exact Below.refl _ _) | (with_reducible assumption) | (with_reducible refine Below.plus0 ?_ _) | (with_reducible refine Below.row ?_ ?_ _ _) | (with_reducible refine Below.alloc0 ?_ _) | (with_reducible refine Below.plus ?_ ?_ _) | (with_reducible refine Below.alloc ?_ ?_ _) | (with_reducible refine Below.drew ?_) | (with_reducible refine Below.drewN ?_ _) | (simp [go_sem]; done) | (simp [go_sem]; omega)))
    obtain ⟨b2, hb2⟩ : ∃ b, b = w.heap.size := ⟨_, rfl⟩
    rw [← hb2] at q2
    try simp only [← hb2]
    have y2 : w.heap.size ≤ b2 := by first | omega | (rw [hb2]; first | exact Nat.le_refl _ | (simp [go_sem]; omega) | (have := hbw.size; simp [go_sem] at *; omega))
    have z2 : b2 < V.heap.size := (Array.getElem?_eq_some_iff.1 q2).1
    have c20 : V.cell? ⟨b2, 0, none⟩ = some (.bool false) := (cell_at q2).trans rfl
    have c21 : V.cell? ⟨b2, 1, none⟩ = some (.string ⟨#[]⟩) := (cell_at q2).trans rfl
    clear hV hb2
    have HIN : Hid ((⟨#[]⟩ : ByteArray) = mag (pv T 0)) := Lib.hid rfl
    rw [HIN.out]
    go_loopw [4, 6] (fun tv mv wr => ∃ (t : ByteArray) (k : Nat) (u' : World), tv = .string t ∧ Hid (t = T.extract k T.size) ∧ t.size + k = N ∧ mv = .string (mag (pv T k)) ∧ wr = V.plus u') (fun tv _ _ => bsz tv)
    case atStart =>
      obtain ⟨u', hu⟩ := World.plus_of_below (Below.refl V.heap.size V)
      exact ⟨T, 0, u', rfl, Lib.hid (ext_zero T).symm, by rw [HNT.out]; rfl, rfl, hu⟩
    case round =>
      obtain ⟨t, k, u', rfl, Ht, hk, rfl, rfl⟩ := hrel
      by_cases ht0 : t.size = 0
      · have hkN : k = N := by omega
        subst hkN
        have h5 : (t.size : Int) = 0 := by omega
        clear ht0 hk
        go_wp2_with fail
        (go_wp2_with fail; refine (HM.out _).mono ?_; rintro e w' ⟨rfl, hb⟩; (first | (with_reducible (have hb2 := World.plus_of_below ((World.below_plus _ _).trans (hb.mono (World.size_plus _ _)))); obtain ⟨u, rfl⟩ := hb2) | (obtain ⟨u, rfl⟩ := World.plus_of_below hb)); clear hb)
        obtain ⟨V2, hV2⟩ : ∃ z, z = V.plus u := ⟨_, rfl⟩
        rw [← hV2]
        replace q2 : V2.heap[b2]? = some (.cells #[.bool false, .string ⟨#[]⟩] 23 (0, 0)) := by rw [hV2]; (repeat' (first | (with_reducible exact heap_at _ _ _ (by first | (simp [go_sem]; done) | omega)) | (with_reducible assumption) | (with_reducible exact World.heap_row_same _ _ _ _ (by first | assumption | omega | (simp [go_sem]; done) | (simp [go_sem]; omega))) | (rw [World.heap_row_other _ _ _ _ _ (by first | assumption | omega)]) | (rw [World.heap_plus _ _ _ (by first | assumption | omega | (simp [go_sem]; done) | (simp [go_sem]; omega))]) | (rw [heap_alloc_old _ _ (by first | assumption | omega | (simp [go_sem]; done) | (simp [go_sem]; omega))])))
        have hbw : Below w.heap.size w V2 := by rw [hV2]; (repeat' (first | (with_reducible exact Below.refl _ _) | (with_reducible assumption) | (with_reducible refine Below.plus0 ?_ _) | (with_reducible refine Below.row ?_ ?_ _ _) | (with_reducible refine Below.alloc0 ?_ _) | (with_reducible refine Below.plus ?_ ?_ _) | (with_reducible refine Below.alloc ?_ ?_ _) | (with_reducible refine Below.drew ?_) | (with_reducible refine Below.drewN ?_ _) | (simp [go_sem]; done) | (simp [go_sem]; omega)))
        have z2 : b2 < V2.heap.size := (Array.getElem?_eq_some_iff.1 q2).1
        have c20 : V2.cell? ⟨b2, 0, none⟩ = some (.bool false) := (cell_at q2).trans rfl
        have c21 : V2.cell? ⟨b2, 1, none⟩ = some (.string ⟨#[]⟩) := (cell_at q2).trans rfl
        clear hV2 
        have e2 := World.row_self V2 _ _ _ q2
        have eW : (V2).row b2 23 #[.bool false, .string ⟨#[]⟩] = V2 := by rw [e2]
        rw [← eW]
        clear eW e2
        go_wp2_with fail
        refine bodyPost_ret (by simp [results, Tryd.results44, go_sem, z2]; rfl) rfl ?_
        exact ⟨rfl, by (repeat' (first | (with_reducible exact Below.refl _ _) | (with_reducible assumption) | (with_reducible refine Below.plus0 ?_ _) | (with_reducible refine Below.row ?_ ?_ _ _) | (with_reducible refine Below.alloc0 ?_ _) | (with_reducible refine Below.plus ?_ ?_ _) | (with_reducible refine Below.alloc ?_ ?_ _) | (with_reducible refine Below.drew ?_) | (with_reducible refine Below.drewN ?_ _) | (simp [go_sem]; done) | (simp [go_sem]; omega)))⟩
      · obtain ⟨n, hn⟩ : ∃ n, n = min t.size 18 := ⟨_, rfl⟩
        have hmin : min (t.size : Int) 18 = (n : Int) := by omega
        have hn0 : 0 < n := by omega
        have hn18 : n ≤ 18 := by omega
        have hnt : n ≤ t.size := by omega
        have ht5 : (0 : Int) < (t.size : Int) := by omega
        have HTB : Hid (∀ i (h : i < t.size), dgt T (k + i) ≤ 9 ∧ (t[i]'h).toNat = 48 + dgt T (k + i)) := Lib.hid fun i h => by
          have e := Ht.out
          have hki : k + i < T.size := by have := HNT.out; omega
          subst e
          rw [ext_get T k i h hki]
          exact HDG.out (k + i) hki
        have htN : t.size ≤ 1000 := by have := HNT.out; omega
        have HNM := Lib.hid hn
        clear hn
        go_wp2_with fail
        go_loop [8, 9, 54] (fun p q iv => ∃ i P Q : Nat, i ≤ n ∧ Hid (P = cv T k i) ∧ Hid (Q = 10 ^ i) ∧ p = .int .u64 (P : Int) ∧ q = .int .u64 (Q : Int) ∧ iv = .int .i64 (i : Int)) (fun _ _ iv => n - (intOf iv).toNat)
        case atStart => exact ⟨0, 0, 1, Nat.zero_le _, Lib.hid rfl, Lib.hid rfl, rfl, rfl, rfl⟩
        case round =>
          obtain ⟨i, P, Q, hi, HPe, HQe, rfl, rfl, rfl⟩ := hrel
          by_cases hlt : i < n
          · have hP := HPe.out
            have hQ := HQe.out
            obtain ⟨d, hd⟩ : ∃ z, z = dgt T (k + i) := ⟨_, rfl⟩
            have hit : i < t.size := by omega
            obtain ⟨hd9, hbyte⟩ := HTB.out i hit
            rw [← hd] at hd9 hbyte
            have hPQ : P < Q := by rw [hP, hQ]; exact cv_lt T k i fun j hj => (HTB.out j (by omega)).1
            have hQb : Q ≤ 100000000000000000 := by
              rw [hQ, show (100000000000000000 : Nat) = 10 ^ 17 by decide]
              exact Nat.pow_le_pow_right (by omega) (by omega)
            obtain ⟨P10, hP10⟩ : ∃ z, z = P * 10 := ⟨_, rfl⟩
            obtain ⟨P1, hP1⟩ : ∃ z, z = P10 + d := ⟨_, rfl⟩
            obtain ⟨Q1, hQ1⟩ : ∃ z, z = Q * 10 := ⟨_, rfl⟩
            have HP1 : Hid (P1 = cv T k (i + 1)) := Lib.hid (by rw [hP1, hP10, hP, hd]; rfl)
            have HQ1 : Hid (Q1 = 10 ^ (i + 1)) := Lib.hid (by rw [hQ1, hQ, Nat.pow_succ])
            have e1 : (P : Int) * 10 = (P10 : Int) := by omega
            have e2 : (P10 : Int) + (d : Int) = (P1 : Int) := by omega
            have e3 : (Q : Int) * 10 = (Q1 : Int) := by omega
            have w1 : IntKind.u64.wrap (P10 : Int) = (P10 : Int) := u64_of_nat P10 (by omega)
            have w2 : IntKind.u64.wrap (P1 : Int) = (P1 : Int) := u64_of_nat P1 (by omega)
            have w3 : IntKind.u64.wrap (Q1 : Int) = (Q1 : Int) := u64_of_nat Q1 (by omega)
            have hb2 : ((t[i]'hit).toNat : Int) = 48 + (d : Int) := by omega
            have e5 : (48 : Int) + (d : Int) - 48 = (d : Int) := by omega
            have d256 : (d : Int) % 256 = (d : Int) := by omega
            have wd : IntKind.u64.wrap (d : Int) = (d : Int) := u64_of_nat d (by omega)
            have w8 : IntKind.u8.wrap (d : Int) = (d : Int) := by unfold IntKind.wrap; simp [IntKind.signed, IntKind.bits] <;> omega
            have hlt2 : (i : Int) < (n : Int) := by omega
            have hP1b : P1 < 18446744073709551616 := by omega
            have hQ1b : Q1 < 18446744073709551616 := by omega
            clear hP hQ hd hP10 hP1 hQ1 hbyte hPQ
            go_wp2_with fail
            exact ⟨⟨i + 1, P1, Q1, by omega, HP1, HQ1, by go_num, by go_num, by go_num⟩, by simp [intOf]; omega⟩
          · have e : i = n := by omega
            subst e
            obtain ⟨A, hA⟩ : ∃ z, z = pv T k := ⟨_, rfl⟩
            obtain ⟨B, hB⟩ : ∃ z, z = A * Q := ⟨_, rfl⟩
            obtain ⟨C, hC⟩ : ∃ z, z = pv T (k + i) := ⟨_, rfl⟩
            have hPe := HPe.out
            have hQe := HQe.out
            have hBC : B + P = C := by rw [hC, cv_add T k i, hB, hA, hQe, hPe]
            have hQb : Q ≤ 1000000000000000000 := by rw [hQe]; exact pow10_le hn18
            have hPQ : P < Q := by rw [hPe, hQe]; exact cv_lt T k i fun j hj => (HTB.out j (by omega)).1
            have hkiN : k + i ≤ 1000 := by have := HNT.out; omega
            have hdig : ∀ j, j < k + i → dgt T j ≤ 9 := fun j hj => (HDG.out j (by have := HNT.out; omega)).1
            have sC : (mag C).size ≤ 1000 := by rw [hC]; exact sz_pv T (k + i) 1000 hkiN hdig
            have sB : (mag B).size ≤ 1000 := Nat.le_trans (size_mag_mono B C (by omega)) sC
            have sA : (mag A).size ≤ 1000 := by rw [hA]; exact sz_pv T k 1000 (by omega) fun j hj => hdig j (by omega)
            have q64 : (18446744073709551616 : Nat) = 256 ^ 8 := by decide
            have sQ : (mag Q).size ≤ 8 := size_mag_le Q 8 (by rw [← q64]; omega)
            have sP : (mag P).size ≤ 8 := size_mag_le P 8 (by rw [← q64]; omega)
            have HM1 : Hid (∀ w, Calls Tryd.prog 61 #[.int .u64 (Q : Int)] w fun e w' => e = .returned (.string (mag Q)) ∧ Below w.heap.size w w') := Lib.hid fun w => magnitude_c Q w (by omega)
            have HM2 : Hid (∀ w, Calls Tryd.prog 61 #[.int .u64 (P : Int)] w fun e w' => e = .returned (.string (mag P)) ∧ Below w.heap.size w w') := Lib.hid fun w => magnitude_c P w (by omega)
            have HMU : Hid (∀ w, Calls Tryd.prog 50 #[.string (mag A), .string (mag Q)] w fun e w' => e = .returned (.string (mag B)) ∧ Below w.heap.size w w') := Lib.hid fun w => by rw [hB]; exact mul_c A Q w (by omega) (by omega)
            have HAD : Hid (∀ w, Calls Tryd.prog 55 #[.string (mag B), .string (mag P)] w fun e w' => e = .returned (.string (mag C)) ∧ Below w.heap.size w w') := Lib.hid fun w => by rw [← hBC]; exact add_c B P w (by omega) (by omega)
            have HCe := Lib.hid hC
            have hit : (i : Int) ≤ (t.size : Int) := by omega
            rw [← hA]
            clear hA hB hC hPe hQe hBC hQb hPQ hkiN hdig sC sB sA q64 sQ sP
            go_wp2_with fail
            ((first | (with_reducible refine wp_region_steady_plus (by kernel_rfl) (by kernel_rfl) ?_) | refine wp_region_steady (by kernel_rfl) (by kernel_rfl) ?_); repeat go_big_quiet_step (first | (go_at_call 61; first | (with_reducible refine Calls.steady (HM1.out _)) | (with_reducible refine Calls.steady (HM2.out _))) | (go_at_call 50; refine Calls.steady (HMU.out _)) | (go_at_call 55; refine Calls.steady (HAD.out _)))); (refine wpQuiet_nil ?_; rintro _ ⟨u, rfl⟩)
            go_wp2_with fail
            refine ⟨⟨t.extract i t.size, k + i, _, rfl, Lib.hid ?_, ?_, by rw [HCe.out], rfl⟩, ?_⟩
            · have e := Ht.out
              have hkT : k ≤ T.size := by have := HNT.out; omega
              subst e
              exact ext_ext T k i hkT
            · rw [ByteArray.size_extract]; omega
            · show (t.extract i t.size).size < t.size
              rw [ByteArray.size_extract]; omega
  · clear hN
    go_enter Tryd.func44, Tryd.ntmps44
    go_wp2_with fail
    (refine (HC.out _).mono ?_; rintro e w' ⟨rfl, rfl⟩)
    go_wp2_with fail
    (go_wp2_with fail; refine (HT.out _).mono ?_; rintro e w' ⟨rfl, hb⟩; (first | (with_reducible (have hb2 := World.plus_of_below ((World.below_plus _ _).trans (hb.mono (World.size_plus _ _)))); obtain ⟨u, rfl⟩ := hb2) | (obtain ⟨u, rfl⟩ := World.plus_of_below hb)); clear hb)
    go_wp2_with fail
    obtain ⟨V, hV⟩ : ∃ z, z = (w.alloc (.cells #[.bool false, .string ⟨#[]⟩] 23)).plus u := ⟨_, rfl⟩
    rw [← hV]
    have q2 : V.heap[w.heap.size]? = some (.cells #[.bool false, .string ⟨#[]⟩] 23 (0, 0)) := by rw [hV]; (repeat' (first | (with_reducible exact heap_at _ _ _ (by first | (simp [go_sem]; done) | omega)) | (with_reducible assumption) | (with_reducible exact World.heap_row_same _ _ _ _ (by first | assumption | omega | (simp [go_sem]; done) | (simp [go_sem]; omega))) | (rw [World.heap_row_other _ _ _ _ _ (by first | assumption | omega)]) | (rw [World.heap_plus _ _ _ (by first | assumption | omega | (simp [go_sem]; done) | (simp [go_sem]; omega))]) | (rw [heap_alloc_old _ _ (by first | assumption | omega | (simp [go_sem]; done) | (simp [go_sem]; omega))])))
    have hbw : Below w.heap.size w V := by rw [hV]; (repeat' (first | (with_reducible exact Below.refl _ _) | (with_reducible assumption) | (with_reducible refine Below.plus0 ?_ _) | (with_reducible refine Below.row ?_ ?_ _ _) | (with_reducible refine Below.alloc0 ?_ _) | (with_reducible refine Below.plus ?_ ?_ _) | (with_reducible refine Below.alloc ?_ ?_ _) | (with_reducible refine Below.drew ?_) | (with_reducible refine Below.drewN ?_ _) | (simp [go_sem]; done) | (simp [go_sem]; omega)))
    obtain ⟨b2, hb2⟩ : ∃ b, b = w.heap.size := ⟨_, rfl⟩
    rw [← hb2] at q2
    try simp only [← hb2]
    have y2 : w.heap.size ≤ b2 := by first | omega | (rw [hb2]; first | exact Nat.le_refl _ | (simp [go_sem]; omega) | (have := hbw.size; simp [go_sem] at *; omega))
    have z2 : b2 < V.heap.size := (Array.getElem?_eq_some_iff.1 q2).1
    have c20 : V.cell? ⟨b2, 0, none⟩ = some (.bool false) := (cell_at q2).trans rfl
    have c21 : V.cell? ⟨b2, 1, none⟩ = some (.string ⟨#[]⟩) := (cell_at q2).trans rfl
    clear hV hb2
    have HIN : Hid ((⟨#[]⟩ : ByteArray) = mag (pv T 0)) := Lib.hid rfl
    rw [HIN.out]
    go_loopw [4, 6] (fun tv mv wr => ∃ (t : ByteArray) (k : Nat) (u' : World), tv = .string t ∧ Hid (t = T.extract k T.size) ∧ t.size + k = N ∧ mv = .string (mag (pv T k)) ∧ wr = V.plus u') (fun tv _ _ => bsz tv)
    case atStart =>
      obtain ⟨u', hu⟩ := World.plus_of_below (Below.refl V.heap.size V)
      exact ⟨T, 0, u', rfl, Lib.hid (ext_zero T).symm, by rw [HNT.out]; rfl, rfl, hu⟩
    case round =>
      obtain ⟨t, k, u', rfl, Ht, hk, rfl, rfl⟩ := hrel
      by_cases ht0 : t.size = 0
      · have hkN : k = N := by omega
        subst hkN
        have h5 : (t.size : Int) = 0 := by omega
        clear ht0 hk
        go_wp2_with fail
        (go_wp2_with fail; refine (HM.out _).mono ?_; rintro e w' ⟨rfl, hb⟩; (first | (with_reducible (have hb2 := World.plus_of_below ((World.below_plus _ _).trans (hb.mono (World.size_plus _ _)))); obtain ⟨u, rfl⟩ := hb2) | (obtain ⟨u, rfl⟩ := World.plus_of_below hb)); clear hb)
        obtain ⟨V2, hV2⟩ : ∃ z, z = V.plus u := ⟨_, rfl⟩
        rw [← hV2]
        replace q2 : V2.heap[b2]? = some (.cells #[.bool false, .string ⟨#[]⟩] 23 (0, 0)) := by rw [hV2]; (repeat' (first | (with_reducible exact heap_at _ _ _ (by first | (simp [go_sem]; done) | omega)) | (with_reducible assumption) | (with_reducible exact World.heap_row_same _ _ _ _ (by first | assumption | omega | (simp [go_sem]; done) | (simp [go_sem]; omega))) | (rw [World.heap_row_other _ _ _ _ _ (by first | assumption | omega)]) | (rw [World.heap_plus _ _ _ (by first | assumption | omega | (simp [go_sem]; done) | (simp [go_sem]; omega))]) | (rw [heap_alloc_old _ _ (by first | assumption | omega | (simp [go_sem]; done) | (simp [go_sem]; omega))])))
        have hbw : Below w.heap.size w V2 := by rw [hV2]; (repeat' (first | (with_reducible exact Below.refl _ _) | (with_reducible assumption) | (with_reducible refine Below.plus0 ?_ _) | (with_reducible refine Below.row ?_ ?_ _ _) | (with_reducible refine Below.alloc0 ?_ _) | (with_reducible refine Below.plus ?_ ?_ _) | (with_reducible refine Below.alloc ?_ ?_ _) | (with_reducible refine Below.drew ?_) | (with_reducible refine Below.drewN ?_ _) | (simp [go_sem]; done) | (simp [go_sem]; omega)))
        have z2 : b2 < V2.heap.size := (Array.getElem?_eq_some_iff.1 q2).1
        have c20 : V2.cell? ⟨b2, 0, none⟩ = some (.bool false) := (cell_at q2).trans rfl
        have c21 : V2.cell? ⟨b2, 1, none⟩ = some (.string ⟨#[]⟩) := (cell_at q2).trans rfl
        clear hV2 
        have e2 := World.row_self V2 _ _ _ q2
        have eW : (V2).row b2 23 #[.bool false, .string ⟨#[]⟩] = V2 := by rw [e2]
        rw [← eW]
        clear eW e2
        go_wp2_with fail
        refine bodyPost_ret (by simp [results, Tryd.results44, go_sem, z2]; rfl) rfl ?_
        exact ⟨rfl, by (repeat' (first | (with_reducible exact Below.refl _ _) | (with_reducible assumption) | (with_reducible refine Below.plus0 ?_ _) | (with_reducible refine Below.row ?_ ?_ _ _) | (with_reducible refine Below.alloc0 ?_ _) | (with_reducible refine Below.plus ?_ ?_ _) | (with_reducible refine Below.alloc ?_ ?_ _) | (with_reducible refine Below.drew ?_) | (with_reducible refine Below.drewN ?_ _) | (simp [go_sem]; done) | (simp [go_sem]; omega)))⟩
      · obtain ⟨n, hn⟩ : ∃ n, n = min t.size 18 := ⟨_, rfl⟩
        have hmin : min (t.size : Int) 18 = (n : Int) := by omega
        have hn0 : 0 < n := by omega
        have hn18 : n ≤ 18 := by omega
        have hnt : n ≤ t.size := by omega
        have ht5 : (0 : Int) < (t.size : Int) := by omega
        have HTB : Hid (∀ i (h : i < t.size), dgt T (k + i) ≤ 9 ∧ (t[i]'h).toNat = 48 + dgt T (k + i)) := Lib.hid fun i h => by
          have e := Ht.out
          have hki : k + i < T.size := by have := HNT.out; omega
          subst e
          rw [ext_get T k i h hki]
          exact HDG.out (k + i) hki
        have htN : t.size ≤ 1000 := by have := HNT.out; omega
        have HNM := Lib.hid hn
        clear hn
        go_wp2_with fail
        go_loop [8, 9, 54] (fun p q iv => ∃ i P Q : Nat, i ≤ n ∧ Hid (P = cv T k i) ∧ Hid (Q = 10 ^ i) ∧ p = .int .u64 (P : Int) ∧ q = .int .u64 (Q : Int) ∧ iv = .int .i64 (i : Int)) (fun _ _ iv => n - (intOf iv).toNat)
        case atStart => exact ⟨0, 0, 1, Nat.zero_le _, Lib.hid rfl, Lib.hid rfl, rfl, rfl, rfl⟩
        case round =>
          obtain ⟨i, P, Q, hi, HPe, HQe, rfl, rfl, rfl⟩ := hrel
          by_cases hlt : i < n
          · have hP := HPe.out
            have hQ := HQe.out
            obtain ⟨d, hd⟩ : ∃ z, z = dgt T (k + i) := ⟨_, rfl⟩
            have hit : i < t.size := by omega
            obtain ⟨hd9, hbyte⟩ := HTB.out i hit
            rw [← hd] at hd9 hbyte
            have hPQ : P < Q := by rw [hP, hQ]; exact cv_lt T k i fun j hj => (HTB.out j (by omega)).1
            have hQb : Q ≤ 100000000000000000 := by
              rw [hQ, show (100000000000000000 : Nat) = 10 ^ 17 by decide]
              exact Nat.pow_le_pow_right (by omega) (by omega)
            obtain ⟨P10, hP10⟩ : ∃ z, z = P * 10 := ⟨_, rfl⟩
            obtain ⟨P1, hP1⟩ : ∃ z, z = P10 + d := ⟨_, rfl⟩
            obtain ⟨Q1, hQ1⟩ : ∃ z, z = Q * 10 := ⟨_, rfl⟩
            have HP1 : Hid (P1 = cv T k (i + 1)) := Lib.hid (by rw [hP1, hP10, hP, hd]; rfl)
            have HQ1 : Hid (Q1 = 10 ^ (i + 1)) := Lib.hid (by rw [hQ1, hQ, Nat.pow_succ])
            have e1 : (P : Int) * 10 = (P10 : Int) := by omega
            have e2 : (P10 : Int) + (d : Int) = (P1 : Int) := by omega
            have e3 : (Q : Int) * 10 = (Q1 : Int) := by omega
            have w1 : IntKind.u64.wrap (P10 : Int) = (P10 : Int) := u64_of_nat P10 (by omega)
            have w2 : IntKind.u64.wrap (P1 : Int) = (P1 : Int) := u64_of_nat P1 (by omega)
            have w3 : IntKind.u64.wrap (Q1 : Int) = (Q1 : Int) := u64_of_nat Q1 (by omega)
            have hb2 : ((t[i]'hit).toNat : Int) = 48 + (d : Int) := by omega
            have e5 : (48 : Int) + (d : Int) - 48 = (d : Int) := by omega
            have d256 : (d : Int) % 256 = (d : Int) := by omega
            have wd : IntKind.u64.wrap (d : Int) = (d : Int) := u64_of_nat d (by omega)
            have w8 : IntKind.u8.wrap (d : Int) = (d : Int) := by unfold IntKind.wrap; simp [IntKind.signed, IntKind.bits] <;> omega
            have hlt2 : (i : Int) < (n : Int) := by omega
            have hP1b : P1 < 18446744073709551616 := by omega
            have hQ1b : Q1 < 18446744073709551616 := by omega
            clear hP hQ hd hP10 hP1 hQ1 hbyte hPQ
            go_wp2_with fail
            exact ⟨⟨i + 1, P1, Q1, by omega, HP1, HQ1, by go_num, by go_num, by go_num⟩, by simp [intOf]; omega⟩
          · have e : i = n := by omega
            subst e
            obtain ⟨A, hA⟩ : ∃ z, z = pv T k := ⟨_, rfl⟩
            obtain ⟨B, hB⟩ : ∃ z, z = A * Q := ⟨_, rfl⟩
            obtain ⟨C, hC⟩ : ∃ z, z = pv T (k + i) := ⟨_, rfl⟩
            have hPe := HPe.out
            have hQe := HQe.out
            have hBC : B + P = C := by rw [hC, cv_add T k i, hB, hA, hQe, hPe]
            have hQb : Q ≤ 1000000000000000000 := by rw [hQe]; exact pow10_le hn18
            have hPQ : P < Q := by rw [hPe, hQe]; exact cv_lt T k i fun j hj => (HTB.out j (by omega)).1
            have hkiN : k + i ≤ 1000 := by have := HNT.out; omega
            have hdig : ∀ j, j < k + i → dgt T j ≤ 9 := fun j hj => (HDG.out j (by have := HNT.out; omega)).1
            have sC : (mag C).size ≤ 1000 := by rw [hC]; exact sz_pv T (k + i) 1000 hkiN hdig
            have sB : (mag B).size ≤ 1000 := Nat.le_trans (size_mag_mono B C (by omega)) sC
            have sA : (mag A).size ≤ 1000 := by rw [hA]; exact sz_pv T k 1000 (by omega) fun j hj => hdig j (by omega)
            have q64 : (18446744073709551616 : Nat) = 256 ^ 8 := by decide
            have sQ : (mag Q).size ≤ 8 := size_mag_le Q 8 (by rw [← q64]; omega)
            have sP : (mag P).size ≤ 8 := size_mag_le P 8 (by rw [← q64]; omega)
            have HM1 : Hid (∀ w, Calls Tryd.prog 61 #[.int .u64 (Q : Int)] w fun e w' => e = .returned (.string (mag Q)) ∧ Below w.heap.size w w') := Lib.hid fun w => magnitude_c Q w (by omega)
            have HM2 : Hid (∀ w, Calls Tryd.prog 61 #[.int .u64 (P : Int)] w fun e w' => e = .returned (.string (mag P)) ∧ Below w.heap.size w w') := Lib.hid fun w => magnitude_c P w (by omega)
            have HMU : Hid (∀ w, Calls Tryd.prog 50 #[.string (mag A), .string (mag Q)] w fun e w' => e = .returned (.string (mag B)) ∧ Below w.heap.size w w') := Lib.hid fun w => by rw [hB]; exact mul_c A Q w (by omega) (by omega)
            have HAD : Hid (∀ w, Calls Tryd.prog 55 #[.string (mag B), .string (mag P)] w fun e w' => e = .returned (.string (mag C)) ∧ Below w.heap.size w w') := Lib.hid fun w => by rw [← hBC]; exact add_c B P w (by omega) (by omega)
            have HCe := Lib.hid hC
            have hit : (i : Int) ≤ (t.size : Int) := by omega
            rw [← hA]
            clear hA hB hC hPe hQe hBC hQb hPQ hkiN hdig sC sB sA q64 sQ sP
            go_wp2_with fail
            ((first | (with_reducible refine wp_region_steady_plus (by kernel_rfl) (by kernel_rfl) ?_) | refine wp_region_steady (by kernel_rfl) (by kernel_rfl) ?_); repeat go_big_quiet_step (first | (go_at_call 61; first | (with_reducible refine Calls.steady (HM1.out _)) | (with_reducible refine Calls.steady (HM2.out _))) | (go_at_call 50; refine Calls.steady (HMU.out _)) | (go_at_call 55; refine Calls.steady (HAD.out _)))); (refine wpQuiet_nil ?_; rintro _ ⟨u, rfl⟩)
            go_wp2_with fail
            refine ⟨⟨t.extract i t.size, k + i, _, rfl, Lib.hid ?_, ?_, by rw [HCe.out], rfl⟩, ?_⟩
            · have e := Ht.out
              have hkT : k ≤ T.size := by have := HNT.out; omega
              subst e
              exact ext_ext T k i hkT
            · rw [ByteArray.size_extract]; omega
            · show (t.extract i t.size).size < t.size
              rw [ByteArray.size_extract]; omega
end Go.Proofs.YtkoodpbcfdblbaaDoor
