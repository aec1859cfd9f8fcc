import Derived.Test.YthdaimoankaciaaGreatDoorQp
import Derived.Lib.TrimByte
/- No program in sight: what is printed of a fraction is read as this fraction. -/
set_option linter.unusedSimpArgs false
set_option linter.unusedVariables false
namespace Go.Proofs.YthdaimoankaciaaGreatDoor
open Go Go.RowKit Go.Sy
open Vi
theorem cv_congr2 {s t : ByteArray} {k : Nat} : ∀ n, (∀ i, i < n → dgt s (k + i) = dgt t (k + i)) → cv s k n = cv t k n
 | 0, _ => rfl
 | n + 1, h => by rw [cv, cv, cv_congr2 n fun i hi => h i (by omega), h n (by omega)]
theorem pv_snoc2 (l : List UInt8) (b : UInt8) : pv ⟨(l ++ [b]).toArray⟩ (l.length + 1) = pv ⟨l.toArray⟩ l.length * 10 + (b.toNat - 48) := by
 rw [pv_succ]
 have h1 : pv ⟨(l ++ [b]).toArray⟩ l.length = pv ⟨l.toArray⟩ l.length := cv_congr2 l.length fun i hi => by
  unfold dgt
  show ((l ++ [b]).getD (0 + i) 0).toNat - 48 = (l.getD (0 + i) 0).toNat - 48
  rw [List.getD_eq_getElem?_getD, List.getD_eq_getElem?_getD, List.getElem?_append_left (by omega)]
 have h2 : dgt ⟨(l ++ [b]).toArray⟩ l.length = b.toNat - 48 := by
  unfold dgt
  show ((l ++ [b]).getD l.length 0).toNat - 48 = _
  rw [List.getD_eq_getElem?_getD, List.getElem?_append_right (Nat.le_refl _), Nat.sub_self]
  rfl
 rw [h1, h2]
theorem dig_byte2 (d : Nat) (h : d < 10) : (UInt8.ofNat (48 + d)).toNat = 48 + d := by
 rw [UInt8.toNat_ofNat']; omega
theorem pv_decS2 (n : Nat) : pv ⟨(decS n).toArray⟩ (decS n).length = n := by
 induction n using Nat.strongRecOn with
 | _ n ih =>
  by_cases h : n = 0
  ·subst h; rfl
  ·rw [decS_pos n (by omega), List.length_append, List.length_singleton, pv_snoc2, ih (n / 10) (by omega), dig_byte2 _ (by omega)]
   omega
theorem all_decS (n : Nat) : (decS n).all isD = true := by
 rw [List.all_eq_true]
 intro b hb
 unfold decS at hb
 rw [List.mem_reverse, List.mem_map] at hb
 obtain ⟨d, hd, rfl⟩ := hb
 have h10 := dig_lt 10 (by omega) n d hd
 unfold isD
 rw [dig_byte2 d h10]
 simp; omega
def dqL (X : Nat) : List UInt8 := if X = 0 then [48] else decS X
theorem dqL_all (X : Nat) : (dqL X).all isD = true := by
 unfold dqL; split
 ·decide
 ·exact all_decS X
theorem dqL_ne (X : Nat) : 0 < (dqL X).length := by
 unfold dqL; split
 ·decide
 ·rw [decS_pos X (by omega), List.length_append]; show 0 < _ + 1; omega
theorem dqL_pv (X : Nat) : pv ⟨(dqL X).toArray⟩ (dqL X).length = X := by
 unfold dqL; split
 ·rename_i h; rw [h]; decide
 ·exact pv_decS2 X
theorem isD_ne {b : UInt8} (h : isD b = true) (c : UInt8) (hc : c.toNat < 48) : b ≠ c := by
 rintro rfl
 unfold isD at h
 simp at h
 omega
def prL (p : Rat) : List UInt8 := (if p.num < 0 then [45] else []) ++ dqL p.num.natAbs ++ (if dn p = 0 then [] else 47 :: dqL (dn p).natAbs)
theorem printS_list (z : Int) : printS z = ⟨((if z < 0 then [45] else []) ++ dqL z.natAbs).toArray⟩ := by
 unfold printS dqL
 by_cases h0 : z = 0
 ·subst h0; rfl
 ·have ha : ¬ z.natAbs = 0 := by omega
  rw [if_neg h0, if_neg ha]
  by_cases hn : z < 0
  ·rw [if_pos hn, if_pos hn]; rfl
  ·rw [if_neg hn, if_neg hn]; rfl
theorem app_mk (a b : List UInt8) : (⟨a.toArray⟩ : ByteArray) ++ ⟨b.toArray⟩ = ⟨(a ++ b).toArray⟩ := by
 apply ByteArray.ext
 rw [ByteArray.data_append]
 simp
theorem printQ_list (p : Rat) : printQ p = ⟨(prL p).toArray⟩ := by
 unfold printQ prL
 by_cases h : dn p = 0
 ·rw [if_pos h, if_pos h, printS_list, List.append_nil]
 ·have := dn_nonneg p
  rw [if_neg h, if_neg h, printS_list, printS_list, if_neg (show ¬ dn p < 0 by omega)]
  rw [show (⟨#[47]⟩ : ByteArray) = ⟨([47] : List UInt8).toArray⟩ from rfl, app_mk, app_mk]
  simp
theorem indexByte_no {l : List UInt8} {c : UInt8} (h : ∀ b ∈ l, b ≠ c) : Lib.indexByte l c = -1 := by
 induction l with
 | nil => rfl
 | cons a l ih =>
  unfold Lib.indexByte
  rw [ih fun b hb => h b (List.mem_cons_of_mem _ hb)]
  have : (a == c) = false := by simpa using h a List.mem_cons_self
  rw [this]; rfl
theorem indexByte_app {l : List UInt8} {c : UInt8} (h : ∀ b ∈ l, b ≠ c) (r : List UInt8) : Lib.indexByte (l ++ c :: r) c = l.length := by
 induction l with
 | nil => show Lib.indexByte (c :: r) c = 0; unfold Lib.indexByte; simp
 | cons a l ih =>
  show Lib.indexByte (a :: (l ++ c :: r)) c = _
  unfold Lib.indexByte
  rw [ih fun b hb => h b (List.mem_cons_of_mem _ hb)]
  have : (a == c) = false := by simpa using h a List.mem_cons_self
  rw [this]
  have e : ((l.length : Int) == -1) = false := by rw [beq_eq_false_iff_ne]; omega
  simp [e]
theorem okD_list {l : List UInt8} (h : l.all isD = true) (h0 : 0 < l.length) : okD ⟨l.toArray⟩ = true := by
 unfold okD
 show (l.all isD && decide (0 < l.length)) = true
 rw [h, decide_eq_true h0]; rfl
theorem qneg_yes (l : List UInt8) : qneg ⟨(45 :: l).toArray⟩ = true ∧ qrest ⟨(45 :: l).toArray⟩ = ⟨l.toArray⟩ := by
 have h : Lib.hasPrefix (45 :: l) [45] = true := by simp [Lib.hasPrefix]
 refine ⟨h, ?_⟩
 unfold qrest Lib.trimPrefix
 show (⟨(if Lib.hasPrefix (45 :: l) [45] then (45 :: l).drop 1 else 45 :: l).toArray⟩ : ByteArray) = _
 rw [h]; rfl
theorem qneg_no {l : List UInt8} (h0 : l.head? ≠ some 45) : qneg ⟨l.toArray⟩ = false ∧ qrest ⟨l.toArray⟩ = ⟨l.toArray⟩ := by
 have h : Lib.hasPrefix l [45] = false := by
  cases l with
  | nil => rfl
  | cons a l =>
   have : a ≠ 45 := fun e => h0 (by rw [e]; rfl)
   show ((45 : UInt8) == a && ([] : List UInt8).isPrefixOf l) = false
   rw [show ((45 : UInt8) == a) = false by simpa using this.symm]; rfl
 refine ⟨h, ?_⟩
 unfold qrest Lib.trimPrefix
 show (⟨(if Lib.hasPrefix l [45] then l.drop 1 else l).toArray⟩ : ByteArray) = _
 rw [h]; rfl
theorem cut_no {a : List UInt8} (ha : a.all isD = true) : cutH ⟨a.toArray⟩ = false ∧ cutA ⟨a.toArray⟩ = ⟨a.toArray⟩ := by
 have h : cutI ⟨a.toArray⟩ = -1 := indexByte_no fun b hb => isD_ne (List.all_eq_true.1 ha b hb) 47 (by decide)
 unfold cutH cutA
 rw [h]
 exact ⟨by decide, if_pos rfl⟩
theorem cut_yes {a : List UInt8} (ha : a.all isD = true) (b : List UInt8) : cutH ⟨(a ++ 47 :: b).toArray⟩ = true ∧ cutA ⟨(a ++ 47 :: b).toArray⟩ = ⟨a.toArray⟩ ∧ cutB ⟨(a ++ 47 :: b).toArray⟩ = ⟨b.toArray⟩ := by
 have h : cutI ⟨(a ++ 47 :: b).toArray⟩ = a.length := indexByte_app (fun b hb => isD_ne (List.all_eq_true.1 ha b hb) 47 (by decide)) b
 have hne : ¬ (a.length : Int) = -1 := by omega
 unfold cutH cutA cutB
 rw [h, if_neg hne, if_neg hne]
 refine ⟨by simp, ?_, ?_⟩
 ·rw [Lib.extract_mk]
  simp
 ·rw [Lib.extract_mk]
  have e : (⟨(a ++ 47 :: b).toArray⟩ : ByteArray).size = a.length + 1 + b.length := by
   show (a ++ 47 :: b).length = _
   rw [List.length_append, List.length_cons]; omega
  rw [e]
  simp only [Int.toNat_natCast]
  congr 2
  rw [List.take_of_length_le (by rw [List.length_drop, List.length_append, List.length_cons]; omega), List.drop_append]
  simp
theorem parse_print (p : Rat) (hl : (printQ p).size ≤ 4096) : parseQ (printQ p) = (p, 0) := by
 have ha := dqL_all p.num.natAbs
 have hn := dqL_ne p.num.natAbs
 have hv := dqL_pv p.num.natAbs
 have hb := dqL_all (dn p).natAbs
 have hm := dqL_ne (dn p).natAbs
 have hw := dqL_pv (dn p).natAbs
 have hd := dn_nonneg p
 obtain ⟨t, ht⟩ : ∃ t, t = dqL p.num.natAbs ++ (if dn p = 0 then [] else 47 :: dqL (dn p).natAbs) := ⟨_, rfl⟩
 have hq : qneg (printQ p) = decide (p.num < 0) ∧ qrest (printQ p) = ⟨t.toArray⟩ := by
  rw [printQ_list]
  unfold prL
  rw [List.append_assoc, ← ht]
  by_cases h : p.num < 0
  ·rw [if_pos h, decide_eq_true h]; exact qneg_yes t
  ·rw [if_neg h, decide_eq_false h]
   refine qneg_no ?_
   show t.head? ≠ some 45
   rw [ht]
   generalize dqL p.num.natAbs = a at *
   cases a with
   | nil => simp at hn
   | cons x a =>
    have := isD_ne (List.all_eq_true.1 ha x List.mem_cons_self) 45 (by decide)
    simpa using this
 obtain ⟨q1, q2⟩ := hq
 have hc : okD (cutA ⟨t.toArray⟩) = true ∧ (cutA ⟨t.toArray⟩) = ⟨(dqL p.num.natAbs).toArray⟩ ∧ (cutH ⟨t.toArray⟩ = !decide (dn p = 0)) ∧ (dn p ≠ 0 → cutB ⟨t.toArray⟩ = ⟨(dqL (dn p).natAbs).toArray⟩) := by
  rw [ht]
  by_cases h : dn p = 0
  ·rw [if_pos h, List.append_nil, decide_eq_true h]
   obtain ⟨c1, c2⟩ := cut_no ha
   exact ⟨by rw [c2]; exact okD_list ha hn, c2, c1, fun h2 => absurd h h2⟩
  ·rw [if_neg h, decide_eq_false h]
   obtain ⟨c1, c2, c3⟩ := cut_yes ha (dqL (dn p).natAbs)
   exact ⟨by rw [c2]; exact okD_list ha hn, c2, c1, fun _ => c3⟩
 obtain ⟨c1, c2, c3, c4⟩ := hc
 unfold parseQ
 rw [if_neg (by omega), q1, q2, c1, c3]
 have nv : pv (cutA ⟨t.toArray⟩) (cutA ⟨t.toArray⟩).size = p.num.natAbs := by rw [c2]; exact hv
 rw [nv]
 have num : (if decide (p.num < 0) then -((p.num.natAbs : Nat) : Int) else ((p.num.natAbs : Nat) : Int)) = p.num := by
  by_cases h : p.num < 0
  ·rw [decide_eq_true h, if_pos rfl]; omega
  ·rw [decide_eq_false h, if_neg (by simp)]; omega
 rw [num]
 by_cases h : dn p = 0
 ·have h1 : p.den = 1 := by
    unfold dn at h
    split at h
    ·assumption
    ·have := p.den_nz; omega
  rw [decide_eq_true h]
  simp only [Bool.not_true, Bool.false_or, Bool.false_and, Bool.false_eq_true, if_false]
  rw [if_neg (by decide)]
  have := Rat.num_divInt_den p
  rw [h1] at this
  exact Prod.ext this rfl
 ·rw [decide_eq_false h, c4 h]
  have h1 : dn p = (p.den : Int) := by
   unfold dn
   split
   ·rename_i e; exact absurd (by unfold dn; rw [if_pos e]) h
   ·rfl
  have dv : pv ⟨(dqL (dn p).natAbs).toArray⟩ (⟨(dqL (dn p).natAbs).toArray⟩ : ByteArray).size = p.den := by
   have : pv ⟨(dqL (dn p).natAbs).toArray⟩ (⟨(dqL (dn p).natAbs).toArray⟩ : ByteArray).size = (dn p).natAbs := hw
   rw [this, h1]; rfl
  rw [okD_list hb hm, dv]
  simp only [Bool.not_true, Bool.not_false, Bool.false_or, Bool.and_false, Bool.false_eq_true, if_false, if_true]
  rw [if_neg p.den_nz]
  exact Prod.ext (Rat.num_divInt_den p) rfl
end Go.Proofs.YthdaimoankaciaaGreatDoor
