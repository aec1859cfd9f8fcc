import Derived.Test.YtkoodpbcfdblbaaDoorIntN
import Derived.Test.YtkoodpbcfdblbaaDoorRefJ
import Derived.Test.YtkoodpbcfdblbaaDoorLawJ
set_option linter.unusedSimpArgs false
set_option linter.unusedVariables false
namespace Go.Proofs.YtkoodpbcfdblbaaDoor
open Go Go.RowKit
open Vi
theorem cv_congr {s t : ByteArray} {k : Nat} : ∀ n, (∀ i, i < n → dgt s (k + i) = dgt t (k + i)) → cv s k n = cv t k n
  | 0, _ => rfl
  | n + 1, h => by rw [cv, cv, cv_congr n fun i hi => h i (by omega), h n (by omega)]
theorem pv_snoc (l : List UInt8) (b : UInt8) : pv ⟨(l ++ [b]).toArray⟩ (l.length + 1) = pv ⟨l.toArray⟩ l.length * 10 + (b.toNat - 48) := by
  rw [pv_succ]
  have h1 : pv ⟨(l ++ [b]).toArray⟩ l.length = pv ⟨l.toArray⟩ l.length := cv_congr l.length fun i hi => by
    unfold dgt
    show ((l ++ [b]).getD (0 + i) 0).toNat - 48 = (l.getD (0 + i) 0).toNat - 48
    rw [List.getD_eq_getElem?_getD, List.getD_eq_getElem?_getD, List.getElem?_append_left (by omega)]
  have h2 : dgt ⟨(l ++ [b]).toArray⟩ l.length = b.toNat - 48 := by
    unfold dgt
    show ((l ++ [b]).getD l.length 0).toNat - 48 = _
    rw [List.getD_eq_getElem?_getD, List.getElem?_append_right (Nat.le_refl _), Nat.sub_self]
    rfl
  rw [h1, h2]
theorem dig_byte (d : Nat) (h : d < 10) : (UInt8.ofNat (48 + d)).toNat = 48 + d := by
  rw [UInt8.toNat_ofNat']; omega
theorem pv_decS (n : Nat) : pv ⟨(decS n).toArray⟩ (decS n).length = n := by
  induction n using Nat.strongRecOn with
  | _ n ih =>
    by_cases h : n = 0
    · subst h; rfl
    · rw [decS_pos n (by omega), List.length_append, List.length_singleton, pv_snoc, ih (n / 10) (by omega), dig_byte _ (by omega)]
      omega
theorem allD_decS (n : Nat) : AllD ⟨(decS n).toArray⟩ := by
  intro b hb
  have hb2 : b ∈ decS n := by simpa using hb
  unfold decS at hb2
  rw [List.mem_reverse, List.mem_map] at hb2
  obtain ⟨d, hd, rfl⟩ := hb2
  have h10 := dig_lt 10 (by omega) n d hd
  unfold isD
  rw [dig_byte d h10]
  simp; omega
theorem decS_first (n : Nat) (h : 0 < n) : ∃ b l, decS n = b :: l ∧ b.toNat ≠ 48 ∧ b.toNat ≠ 45 := by
  cases hl : decS n with
  | nil => rw [decS_pos n h] at hl; simp at hl
  | cons b l =>
    refine ⟨b, l, rfl, ?_⟩
    have h1 : (decS n).head? = some b := by rw [hl]; rfl
    unfold decS at h1
    rw [List.head?_reverse, List.getLast?_map] at h1
    have h2 := dig_getLast 10 (by omega) n
    cases hg : (dig 10 n).getLast? with
    | none => rw [hg] at h1; cases h1
    | some d =>
      rw [hg] at h1 h2
      simp only [Option.map_some, Option.some.injEq] at h1
      have hd : d ∈ dig 10 n := List.mem_of_getLast? hg
      have h10 := dig_lt 10 (by omega) n d hd
      have hd0 : d ≠ 0 := fun e => h2 (by rw [e])
      rw [← h1, dig_byte d h10]
      omega
theorem pneg_cons (b : UInt8) (l : List UInt8) : pneg ⟨(b :: l).toArray⟩ = (b == 45) := by
  unfold pneg Lib.hasPrefix
  show List.isPrefixOf [45] (b :: l) = _
  simp only [List.isPrefixOf, Bool.and_true]
  by_cases h : b = 45
  · subst h; rfl
  · rw [beq_eq_false_iff_ne.2 (Ne.symm h), beq_eq_false_iff_ne.2 h]
theorem allD_zero : AllD ⟨[48].toArray⟩ := by
  intro b h
  have : b = 48 := by simpa using h
  subst this; rfl
theorem pbody_neg (l : List UInt8) : pbody ⟨(45 :: l).toArray⟩ = ⟨l.toArray⟩ := by
  unfold pbody Lib.trimPrefix
  have h := pneg_cons 45 l
  unfold pneg at h
  rw [h]
  rfl
theorem pbody_pos (b : UInt8) (l : List UInt8) (hb : b ≠ 45) : pbody ⟨(b :: l).toArray⟩ = ⟨(b :: l).toArray⟩ := by
  unfold pbody Lib.trimPrefix
  have h := pneg_cons b l
  unfold pneg at h
  rw [h, show (b == 45) = false by simpa using hb]
  rfl
theorem size_list (l : List UInt8) : (⟨l.toArray⟩ : ByteArray).size = l.length := rfl
theorem ne_list (b : UInt8) (l : List UInt8) : (⟨(b :: l).toArray⟩ : ByteArray).toList.isEmpty = false := by rw [toList_data]; rfl
theorem Parse_print (a : Int) (w : World) (hl : (decS a.natAbs).length ≤ 1000) : Calls Tryd.prog 44 #[.string (printS a)] w fun e w' => e = .returned (.tuple #[.agg #[.bool (sg a), .string (mg a)], .int .i64 0]) ∧ Below w.heap.size w w' := by
  by_cases h0 : a = 0
  · subst h0
    have e : printS 0 = ⟨[48].toArray⟩ := rfl
    have hb : pbody ⟨[48].toArray⟩ = ⟨[48].toArray⟩ := pbody_pos 48 [] (by decide)
    have hn : pneg ⟨[48].toArray⟩ = false := pneg_cons 48 []
    rw [e]
    exact Parse_ok _ (ne_list 48 []) (by rw [hb]; decide) (by rw [hb]; decide) (.inr ⟨by rw [hb]; rfl, hn⟩) (by rw [hb]; exact allD_zero) 0 (by rw [hn, hb]; rfl) w
  · obtain ⟨b, l, hbl, h48, h45⟩ := decS_first a.natAbs (by omega)
    have hpv := pv_decS a.natAbs
    have had := allD_decS a.natAbs
    rw [hbl] at hpv had hl
    have hb45 : b ≠ 45 := fun e => h45 (by rw [e]; rfl)
    by_cases hneg : a < 0
    · have e : printS a = ⟨(45 :: b :: l).toArray⟩ := by unfold printS; rw [if_neg h0, if_pos hneg, hbl]
      have hb := pbody_neg (b :: l)
      have hn := pneg_cons 45 (b :: l)
      rw [e]
      refine Parse_ok _ (ne_list 45 _) (by rw [hb, size_list]; simp) (by rw [hb, size_list]; exact hl) (.inl ?_) (by rw [hb]; exact had) a ?_ w
      · simp only [hb]; exact h48
      · rw [hn, hb, size_list, hpv]
        simp only [beq_self_eq_true, if_true]; omega
    · have e : printS a = ⟨(b :: l).toArray⟩ := by unfold printS; rw [if_neg h0, if_neg hneg, hbl]
      have hb := pbody_pos b l hb45
      have hn := pneg_cons b l
      rw [e]
      refine Parse_ok _ (ne_list b _) (by rw [hb, size_list]; simp) (by rw [hb, size_list]; exact hl) (.inl ?_) (by rw [hb]; exact had) a ?_ w
      · simp only [hb]; exact h48
      · rw [hn, hb, size_list, hpv, show (b == 45) = false by simpa using hb45]
        simp only [Bool.false_eq_true, if_false]; omega
set_option maxRecDepth 100000 in
set_option maxHeartbeats 1600000 in
theorem IntegerPrints_c (ba : Bool) (sa : ByteArray) (w : World) (ha : sa.size ≤ 9223372036854775807) :
    Calls Tryd.prog 12 #[.agg #[.bool ba, .string sa]] w fun e w' => e = .returned (.bool true) ∧ Below w.heap.size w w' := by
  obtain ⟨a, ea⟩ : ∃ x, x = canI ba sa 24 := ⟨_, rfl⟩
  have la0 := ea ▸ canI_lt ba sa 24
  have la := mg_size a 24 la0
  have ina : Hid (∀ w, Calls Tryd.prog 29 #[.agg #[.bool ba, .string sa], .int .i64 24] w fun e w' => e = .returned (.agg #[.bool (sg a), .string (mg a)]) ∧ Below w.heap.size w w') := Lib.hid fun w => canK_e ba sa 24 a ea w ha (by omega)
  have hdl : (decS a.natAbs).length ≤ 3 * 24 := decS_len a.natAbs 24 la
  have h1 := Lib.hid fun w => Print_c a w (by omega)
  have h2 := Lib.hid fun w => rPrint_c a w (by omega)
  have h3 := Lib.hid fun w => Parse_print a w (by omega)
  generalize printS a = p at *
  clear ea la0 la hdl ha
  go_enter Tryd.func12, Tryd.ntmps12
  go_wp2_with fail
  (go_wp2_with fail; refine (ina.out _).mono ?_; rintro e w' ⟨rfl, hb⟩; (first | (with_reducible (have hb2 := World.plus_of_below ((World.below_plus _ _).trans (hb.mono (World.size_plus _ _)))); obtain ⟨u, rfl⟩ := hb2) | (obtain ⟨u, rfl⟩ := World.plus_of_below hb)); clear hb)
  go_wp2_with fail
  (go_wp2_with fail; refine (h1.out _).mono ?_; rintro e w' ⟨rfl, hb⟩; (first | (with_reducible (have hb2 := World.plus_of_below ((World.below_plus _ _).trans (hb.mono (World.size_plus _ _)))); obtain ⟨u, rfl⟩ := hb2) | (obtain ⟨u, rfl⟩ := World.plus_of_below hb)); clear hb)
  go_wp2_with fail
  (go_wp2_with fail; refine (h3.out _).mono ?_; rintro e w' ⟨rfl, hb⟩; (first | (with_reducible (have hb2 := World.plus_of_below ((World.below_plus _ _).trans (hb.mono (World.size_plus _ _)))); obtain ⟨u, rfl⟩ := hb2) | (obtain ⟨u, rfl⟩ := World.plus_of_below hb)); clear hb)
  go_wp2_with fail
  (go_wp2_with fail; refine (known_c _).mono ?_; rintro e w' ⟨rfl, hb⟩; obtain ⟨u, rfl⟩ := World.plus_of_below hb; clear hb)
  go_wp2_with fail
  (go_wp2_with fail; refine (h2.out _).mono ?_; rintro e w' ⟨rfl, hb⟩; obtain ⟨u, rfl⟩ := World.plus_of_below hb; clear hb)
  go_wp2_with fail
  go_ret
  exact ⟨rfl, by (repeat' (first | (with_reducible exact Below.refl _ _) | (with_reducible assumption) | (with_reducible refine Below.plus0 ?_ _) | (with_reducible refine Below.alloc0 ?_ _) | (with_reducible refine Below.plus ?_ ?_ _) | (with_reducible refine Below.alloc ?_ ?_ _) | (with_reducible refine Below.drew ?_) | (with_reducible refine Below.drewN ?_ _) | (simp [go_sem]; done) | (simp [go_sem]; omega)))⟩
end Go.Proofs.YtkoodpbcfdblbaaDoor
