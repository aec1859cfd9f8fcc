import Derived.Test.YthdaimoankaciaaGreatDoorQs
import Derived.Test.YthdaimoankaciaaGreatDoorIntM
import Derived.Test.YthdaimoankaciaaGreatDoorDigs
/- What chapter 2's laws share: valid, den, short; Print. -/
set_option linter.unusedSimpArgs false
set_option linter.unusedVariables false
namespace Go.Proofs.YthdaimoankaciaaGreatDoor
open Go Go.RowKit Go.Sy
open Vi
theorem printS_size (x : Int) (h : (mg x).size ≤ 1048576) : (printS x).size ≤ 4194304 := by
 have h1 : (decS x.natAbs).length ≤ 3 * 1048576 := decS_len _ _ h
 unfold printS
 split
 ·decide
 ·split
  ·show (45 :: decS x.natAbs).length ≤ _
   rw [List.length_cons]; omega
  ·show (decS x.natAbs).length ≤ _
   omega
theorem iPrint (x : Int) (h : (mg x).size ≤ 1048576) : Sp Tryz.prog 125 [] [iV x] (.string (printS x)) [] := Sp.of (fun xs w => Tryz.call125 xs w) (by kernel_rfl) (by kernel_rfl) (fun w => Print_c x w h)
def printQ (p : Rat) : ByteArray := if dn p = 0 then printS p.num else printS p.num ++ ⟨#[47]⟩ ++ printS (dn p)
theorem pPrint (p : Rat) (hp : Fits p) : Sp Tryz.prog 75 [] [rV p] (.string (printQ p)) [] := by
 have s1 := hp.mn
 have s2 := hp.md
 have h1 := iPrint p.num (by omega)
 have h2 := iPrint (dn p) (by omega)
 have z1 := printS_size p.num (by omega)
 have z2 := printS_size (dn p) (by omega)
 unfold printQ
 by_cases h : dn p = 0
 ·rw [if_pos h]
  exact walk (code := Tryz.f75.body.getD .skip) [x2 (binI0 (dn p) (b := true) (by rw [h]; rfl)), c h1] fol Tryz.func75 (by kernel_rfl) (fun xs w => Tryz.call75 xs w) (by kernel_rfl)
 ·rw [if_neg h]
  exact walk (code := Tryz.f75.body.getD .skip) [x2 (binI0 (dn p) (b := false) (by simpa using h)), c h1, x2 (bin_cat (printS p.num) ⟨#[47]⟩ (by show (printS p.num).size + 1 ≤ _; omega)), c h2, x2 (bin_cat (printS p.num ++ ⟨#[47]⟩) (printS (dn p)) (by rw [ByteArray.size_append]; show (printS p.num).size + 1 + _ ≤ _; omega))] fol Tryz.func75 (by kernel_rfl) (fun xs w => Tryz.call75 xs w) (by kernel_rfl)
end Go.Proofs.YthdaimoankaciaaGreatDoor
set_option linter.unusedSimpArgs false
set_option linter.unusedVariables false
namespace Go.Proofs.YthdaimoankaciaaGreatDoor
open Go Go.RowKit Go.Sy
open Vi
def qneg (s : ByteArray) : Bool := Lib.hasPrefix s.data.toList [45]
def qrest (s : ByteArray) : ByteArray := ⟨(Lib.trimPrefix s.data.toList [45]).toArray⟩
def cutI (T : ByteArray) : Int := Lib.indexByte T.data.toList 47
def cutA (T : ByteArray) : ByteArray := if cutI T = -1 then T else T.extract 0 (cutI T).toNat
def cutB (T : ByteArray) : ByteArray := if cutI T = -1 then ⟨#[]⟩ else T.extract ((cutI T).toNat + 1) T.size
def cutH (T : ByteArray) : Bool := decide (cutI T ≠ -1)
def okD (s : ByteArray) : Bool := s.data.toList.all isD && decide (0 < s.size)
def parseQ (s : ByteArray) : Rat × Int :=
 if 4096 < s.size then (0, 28) else
 if !(okD (cutA (qrest s))) || (cutH (qrest s) && !(okD (cutB (qrest s)))) then (0, 15) else
 if (if cutH (qrest s) then pv (cutB (qrest s)) (cutB (qrest s)).size else 1) = 0 then (0, 6) else
 (Rat.divInt (if qneg s then -((pv (cutA (qrest s)) (cutA (qrest s)).size : Nat) : Int) else (pv (cutA (qrest s)) (cutA (qrest s)).size : Nat)) ((if cutH (qrest s) then pv (cutB (qrest s)) (cutB (qrest s)).size else 1 : Nat) : Int), 0)
theorem digS_iff (s : ByteArray) : DigS s ↔ s.data.toList.all isD = true := by
 rw [List.all_eq_true]
 unfold DigS
 constructor
 ·intro h b hb
  obtain ⟨i, hi, rfl⟩ := List.getElem_of_mem hb
  have hi2 : i < s.size := by simpa using hi
  have := h i hi2
  unfold isD
  simp only [Bool.and_eq_true, decide_eq_true_eq]
  exact this
 ·intro h i hi
  have h1 := h (s[i]'hi) (by
   have : s.data.toList[i]'(by simpa using hi) = s[i]'hi := rfl
   rw [← this]; exact List.getElem_mem _)
  unfold isD at h1
  simpa using h1
theorem trim_len (l p : List UInt8) : (Lib.trimPrefix l p).length ≤ l.length := by
 unfold Lib.trimPrefix
 split <;> simp
theorem qrest_size (s : ByteArray) : (qrest s).size ≤ s.size := by
 have h := trim_len s.data.toList [45]
 show (Lib.trimPrefix s.data.toList [45]).toArray.size ≤ s.data.size
 simpa using h
theorem cutI_lt (T : ByteArray) : cutI T ≠ -1 → ∃ i : Nat, cutI T = (i : Int) ∧ i < T.size := by
 intro h
 have h1 := Lib.indexByte_ge T.data.toList 47
 have e : cutI T = Lib.indexByte T.data.toList 47 := rfl
 refine ⟨(cutI T).toNat, by omega, ?_⟩
 have h2 := Lib.indexByte_some (l := T.data.toList) (c := 47) (o := (cutI T).toNat) (by rw [← e]; omega)
 have h3 := (List.getElem?_eq_some_iff.1 h2.1).1
 simpa using h3
theorem cutA_size (T : ByteArray) : (cutA T).size ≤ T.size := by
 unfold cutA
 split
 ·exact Nat.le_refl _
 ·rw [ByteArray.size_extract]; omega
theorem cutB_size (T : ByteArray) : (cutB T).size ≤ T.size := by
 unfold cutB
 split
 ·exact Nat.zero_le _
 ·rw [ByteArray.size_extract]; omega
theorem Cut_c (T : ByteArray) (hT : T.size ≤ 4294967296) (w : World) : Calls Tryz.prog 127 #[.string T, .string ⟨#[47]⟩] w fun e w' => e = .returned (.tuple #[.string (cutA T), .string (cutB T), .bool (cutH T)]) ∧ Below w.heap.size w w' := by
 unfold cutA cutB cutH
 by_cases h : cutI T = -1
 ·rw [if_pos h, if_pos h, decide_eq_false (by simpa using h)]
  exact cut1_no T h w
 ·rw [if_neg h, if_neg h, decide_eq_true h]
  obtain ⟨i, h1, h2⟩ := cutI_lt T h
  have e : (cutI T).toNat = i := by omega
  rw [e]
  exact cut1_yes T i h1 h2 hT w
def dvl (s : ByteArray) : Int := if s.data.toList.all isD then ((pv s s.size : Nat) : Int) else 0
theorem qDigits_c2 (s : ByteArray) (hs : s.size ≤ 4096) (w : World) : Calls Tryz.prog 128 #[.string s] w fun z w' => z = .returned (.tuple #[.agg #[.bool (sg (dvl s)), .string (mg (dvl s))], .bool (okD s)]) ∧ Below w.heap.size w w' := by
 refine qDigits_c s hs (dvl s) (okD s) ?_ w
 unfold dvl okD
 by_cases h : s.data.toList.all isD = true
 ·exact .inl ⟨(digS_iff s).2 h, by rw [if_pos h], by rw [h]; simp⟩
 ·exact .inr ⟨fun h2 => h ((digS_iff s).1 h2), by rw [if_neg h], by simp [h]⟩
theorem dvl_ok (s : ByteArray) (h : okD s = true) : dvl s = ((pv s s.size : Nat) : Int) := by
 unfold okD at h
 simp only [Bool.and_eq_true] at h
 unfold dvl
 rw [if_pos h.1]
theorem pv_size (s : ByteArray) (h : okD s = true) (hs : s.size ≤ 4096) : (mg ((pv s s.size : Nat) : Int)).size ≤ 4096 := by
 unfold okD at h
 simp only [Bool.and_eq_true] at h
 have hd := (digS_iff s).2 h.1
 rw [mg_nat]
 refine Nat.le_trans (size_mag_le _ s.size (Nat.lt_of_lt_of_le (pv_lt s s.size (fun i hi => ?_)) (Nat.pow_le_pow_left (by decide : 10 ≤ 256) s.size))) hs
 have h1 := hd i hi
 exact (dgt_le s i hi (by unfold isD; simp; omega)).1
theorem pDigits (s : ByteArray) (hs : s.size ≤ 4096) : Sp Tryz.prog 128 [] [.string s] (.tuple #[iV (dvl s), .bool (okD s)]) [] := Sp.of (fun xs w => Tryz.call128 xs w) (by kernel_rfl) (by kernel_rfl) (fun w => qDigits_c2 s hs w)
theorem lCut (T : ByteArray) (hT : T.size ≤ 4294967296) : Sp Tryz.prog 127 [] [.string T, .string ⟨#[47]⟩] (.tuple #[.string (cutA T), .string (cutB T), .bool (cutH T)]) [] := Sp.of (fun xs w => Tryz.call127 xs w) (by kernel_rfl) (by kernel_rfl) (fun w => Cut_c T hT w)
theorem lCutPrefix (s : ByteArray) : Sp Tryz.prog 126 [] [.string s, .string ⟨#[45]⟩] (.tuple #[.string (qrest s), .bool (qneg s)]) [] := Sp.of (fun xs w => Tryz.call126 xs w) (by kernel_rfl) (by kernel_rfl) (fun w => (Tryz.strings_CutPrefix s ⟨#[45]⟩ w).mono fun e w' h => ⟨h.1, by rw [h.2]; exact Below.refl _ _⟩)
theorem pMakeN (n : Int) (d : Nat) (hn : (mg n).size ≤ 5000) (hd : (mg (d : Int)).size ≤ 5000) : Sp Tryz.prog 118 [] [iV n, iV d] (.tuple #[rV (if d = 0 then (0, 6) else (Rat.divInt n d, 0) : Rat × Int).1, nV (if d = 0 then (0, 6) else (Rat.divInt n d, 0) : Rat × Int).2]) [] := by
 by_cases h : d = 0
 ·subst h
  simp only [if_true]
  rw [rV0]
  exact pMake0 n
 ·rw [if_neg h]
  exact pMake n d (by omega) (by omega) (by omega)
theorem neg_size (n : Nat) : (mg (-(n : Int))).size = (mg (n : Int)).size := by rw [mg_nd, mg_nd, Int.natAbs_neg]
theorem pParse (s : ByteArray) : Sp Tryz.prog 76 [] [.string s] (.tuple #[rV (parseQ s).1, nV (parseQ s).2]) [] := by
 unfold parseQ
 by_cases hl : 4096 < s.size
 ·rw [if_pos hl, rV0]
  have l2 : decide ((s.size : Int) > 4096) = true := decide_eq_true (by omega)
  exact walk (code := Tryz.f76.body.getD .skip) [L, eb l2] fol Tryz.func76 (by kernel_rfl) (fun xs w => Tryz.call76 xs w) (by kernel_rfl)
 ·rw [if_neg hl]
  have l2 : decide ((s.size : Int) > 4096) = false := decide_eq_false (by omega)
  have hT := qrest_size s
  have H1 := lCutPrefix s
  obtain ⟨T, eT⟩ : ∃ T, T = qrest s := ⟨_, rfl⟩
  rw [← eT] at hT H1 ⊢
  have hA := cutA_size T
  have hB := cutB_size T
  have H2 := lCut T (by omega)
  have H3 := pDigits (cutA T) (by omega)
  have H4 := pOne
  have H5 := pDigits (cutB T) (by omega)
  have one5 : (mg ((1 : Nat) : Int)).size ≤ 5000 := by rw [mg_nd, show ((1 : Nat) : Int).natAbs = 1 from rfl, nd_small 1 (by omega) (by omega)]; omega
  cases e1 : okD (cutA T) <;> rw [e1] at H3
  ·simp only [Bool.not_false, Bool.true_or, if_true]
   rw [rV0]
   cases e2 : cutH T <;> rw [e2] at H2
   ·exact walk (code := Tryz.f76.body.getD .skip) [L, eb l2, c H1, c H2, c H3, c H4] fol Tryz.func76 (by kernel_rfl) (fun xs w => Tryz.call76 xs w) (by kernel_rfl)
   ·cases e4 : okD (cutB T) <;> rw [e4] at H5 <;> exact walk (code := Tryz.f76.body.getD .skip) [L, eb l2, c H1, c H2, c H3, c H4, c H5] fol Tryz.func76 (by kernel_rfl) (fun xs w => Tryz.call76 xs w) (by kernel_rfl)
  ·have v1 := dvl_ok _ e1
   have z1 := pv_size _ e1 (by omega)
   rw [v1] at H3
   obtain ⟨N, hN⟩ : ∃ D, D = pv (cutA T) (cutA T).size := ⟨_, rfl⟩
   rw [← hN] at H3 z1 ⊢
   have z1' : (mg (-(N : Int))).size ≤ 5000 := by rw [neg_size]; omega
   cases e2 : cutH T <;> rw [e2] at H2
   ·simp only [Bool.not_true, Bool.false_or, Bool.false_and, Bool.false_eq_true, if_false]
    cases e3 : qneg s <;> rw [e3] at H1
    ·exact walk (code := Tryz.f76.body.getD .skip) [L, eb l2, c H1, c H2, c H3, c H4, c (pMakeN N 1 (by omega) one5)] fol Tryz.func76 (by kernel_rfl) (fun xs w => Tryz.call76 xs w) (by kernel_rfl)
    ·exact walk (code := Tryz.f76.body.getD .skip) [L, eb l2, c H1, c H2, c H3, c H4, c (iNegate N), c (pMakeN (-(N : Int)) 1 z1' one5)] fol Tryz.func76 (by kernel_rfl) (fun xs w => Tryz.call76 xs w) (by kernel_rfl)
   ·cases e4 : okD (cutB T) <;> rw [e4] at H5
    ·simp only [Bool.not_true, Bool.false_or, Bool.not_false, Bool.and_true, if_true]
     rw [rV0]
     exact walk (code := Tryz.f76.body.getD .skip) [L, eb l2, c H1, c H2, c H3, c H4, c H5] fol Tryz.func76 (by kernel_rfl) (fun xs w => Tryz.call76 xs w) (by kernel_rfl)
    ·have v2 := dvl_ok _ e4
     have z2 := pv_size _ e4 (by omega)
     rw [v2] at H5
     simp only [Bool.not_true, Bool.false_or, Bool.and_false, if_true, Bool.false_eq_true, if_false]
     obtain ⟨D, hD⟩ : ∃ D, D = pv (cutB T) (cutB T).size := ⟨_, rfl⟩
     rw [← hD] at H5 z2 ⊢
     cases e3 : qneg s <;> rw [e3] at H1
     ·exact walk (code := Tryz.f76.body.getD .skip) [L, eb l2, c H1, c H2, c H3, c H4, c H5, c (pMakeN N D (by omega) (by omega))] fol Tryz.func76 (by kernel_rfl) (fun xs w => Tryz.call76 xs w) (by kernel_rfl)
     ·exact walk (code := Tryz.f76.body.getD .skip) [L, eb l2, c H1, c H2, c H3, c H4, c H5, c (iNegate N), c (pMakeN (-(N : Int)) D z1' (by omega))] fol Tryz.func76 (by kernel_rfl) (fun xs w => Tryz.call76 xs w) (by kernel_rfl)
end Go.Proofs.YthdaimoankaciaaGreatDoor
set_option linter.unusedSimpArgs false
set_option linter.unusedVariables false
namespace Go.Proofs.YthdaimoankaciaaGreatDoor
open Go Go.RowKit Go.Sy
open Vi
theorem kn1 : Rat.divInt 6 (-4) = Rat.divInt (-3) 2 := by decide +kernel
theorem kn2 : parseQ ⟨#[45, 48, 54, 47, 52]⟩ = (Rat.divInt (-3) 2, 0) := by decide +kernel
theorem kn3 : printQ (Rat.divInt (-3) 2) = ⟨#[45, 51, 47, 50]⟩ := by decide +kernel
theorem kn4 : cmpQ (Rat.divInt (-3) 2) (Rat.divInt 3 2) = -1 := by decide +kernel
theorem kn5 : Best (Rat.divInt 1 3) (Rat.divInt 1 2) true true (Rat.divInt 2 5) := by
 refine ⟨⟨.inl (by decide +kernel), .inl (by decide +kernel)⟩, fun r hr => ?_⟩
 have h1 : Rat.divInt 1 3 < r := by
  rcases hr.1 with h | ⟨h, _⟩
  ·exact h
  ·cases h
 have h2 : r < Rat.divInt 1 2 := by
  rcases hr.2 with h | ⟨h, _⟩
  ·exact h
  ·cases h
 have e1 : (Rat.divInt 1 3).num = 1 ∧ (Rat.divInt 1 3).den = 3 := by decide +kernel
 have e2 : (Rat.divInt 1 2).num = 1 ∧ (Rat.divInt 1 2).den = 2 := by decide +kernel
 have e3 : (Rat.divInt 2 5).num = 2 ∧ (Rat.divInt 2 5).den = 5 := by decide +kernel
 rw [Rat.lt_iff, e1.1, e1.2] at h1
 rw [Rat.lt_iff, e2.1, e2.2] at h2
 rw [e3.1, e3.2]
 omega
theorem kn6 (q : Rat) (h0 : 0 ≤ q) (h : q * q = Rat.divInt 9 4) : q = Rat.divInt 3 2 := by
 obtain ⟨h1, h2⟩ := sq_parts q
 have e1 : (Rat.divInt 9 4).num = 9 ∧ (Rat.divInt 9 4).den = 4 := by decide +kernel
 have e2 : (Rat.divInt 3 2).num = 3 ∧ (Rat.divInt 3 2).den = 2 := by decide +kernel
 rw [h, e1.1] at h1
 rw [h, e1.2] at h2
 have hn : 0 ≤ q.num := Rat.num_nonneg.2 h0
 have hn3 : q.num = 3 := by
  have : q.num ≤ 3 := by
   apply Decidable.byContradiction
   intro hc
   have := Int.mul_le_mul (show 4 ≤ q.num by omega) (show 4 ≤ q.num by omega) (by omega) hn
   omega
  have hc : q.num = 0 ∨ q.num = 1 ∨ q.num = 2 ∨ q.num = 3 := by omega
  rcases hc with e | e | e | e <;> rw [e] at h1 <;> first | exact e | (exact absurd h1 (by decide))
 have hd2 : q.den = 2 := by
  have : q.den ≤ 2 := by
   apply Decidable.byContradiction
   intro hc
   have := Nat.mul_le_mul (show 3 ≤ q.den by omega) (show 3 ≤ q.den by omega)
   omega
  have hc : q.den = 0 ∨ q.den = 1 ∨ q.den = 2 := by omega
  rcases hc with e | e | e <;> rw [e] at h2 <;> first | exact e | (exact absurd h2 (by decide))
 exact Rat.ext (by rw [hn3, e2.1]) (by rw [hd2, e2.2])
theorem szk (q : Rat) (h1 : q.num.natAbs < 256) (h2 : q.den < 256) : Sz 1 q := ⟨by simpa using h1, by simpa using h2⟩
theorem strEq : (!((⟨#[45, 51, 47, 50]⟩ : ByteArray).toList == (⟨#[45, 51, 47, 50]⟩ : ByteArray).toList)) = false := by rw [beq_self_eq_true]; rfl
theorem vKnown : Sp Tryz.prog 69 [] [] (.bool true) [] := by
 have sx : Sz 1 (Rat.divInt 1 3) := szk _ (by decide +kernel) (by decide +kernel)
 have sy : Sz 1 (Rat.divInt 1 2) := szk _ (by decide +kernel) (by decide +kernel)
 have sz : Sz 1 (Rat.divInt 9 4) := szk _ (by decide +kernel) (by decide +kernel)
 have sa : Sz 1 (Rat.divInt (-3) 2) := szk _ (by decide +kernel) (by decide +kernel)
 have sc : Sz 1 (Rat.divInt 3 2) := szk _ (by decide +kernel) (by decide +kernel)
 obtain ⟨b, hb, hbc⟩ := pSimplestSome (Rat.divInt 1 3) (Rat.divInt 1 2) true true (.inl (by decide +kernel)) 1 (by decide) sx sy
 have eb := best_unique _ _ _ _ _ _ hb kn5
 subst eb
 rcases pRoot (Rat.divInt 9 4) (sz.fits (by omega)) with ⟨q, q0, q1, hq⟩ | ⟨hno, _⟩
 ·have eq := kn6 q q0 q1
  subst eq
  have H1 := pFromInts 6 (-4) (by omega) (by omega) (by omega) (by omega) (by omega)
  rw [kn1] at H1
  have H2 := rOf 1 3 (by omega) (by omega) (by omega) (by omega) (by omega)
  have H3 := rOf 1 2 (by omega) (by omega) (by omega) (by omega) (by omega)
  have H4 := rOf 9 4 (by omega) (by omega) (by omega) (by omega) (by omega)
  have H5 := rOf (-3) 2 (by omega) (by omega) (by omega) (by omega) (by omega)
  have H6 := rOf 2 5 (by omega) (by omega) (by omega) (by omega) (by omega)
  have H8 := rOf 3 2 (by omega) (by omega) (by omega) (by omega) (by omega)
  have H7 := pParse ⟨#[45, 48, 54, 47, 52]⟩
  rw [kn2] at H7
  have H9 := pPrint (Rat.divInt (-3) 2) (sa.fits (by omega))
  rw [kn3] at H9
  have H12 := pCompare (Rat.divInt (-3) 2) (Rat.divInt 3 2) (sa.fits (by omega)) (sc.fits (by omega))
  rw [kn4] at H12
  generalize Rat.divInt 1 3 = q13 at *
  generalize Rat.divInt 1 2 = q12 at *
  generalize Rat.divInt 9 4 = q94 at *
  generalize Rat.divInt (-3) 2 = q32 at *
  generalize Rat.divInt 2 5 = q25 at *
  generalize Rat.divInt 3 2 = p32 at *
  exact walk (code := Tryz.f69.body.getD .skip) [c H1, c H2, c H3, c hbc, c H4, c hq, c H7, c H5, x2 (binR1 q32 q32 (b := true) (by simp)), c H9, c H6, x2 (binR1 q25 q25 (b := true) (by simp)), c H8, x2 (binR1 p32 p32 (b := true) (by simp)), L, x2 (binR1 q32 q32 (b := true) (by simp)), c H12] fol Tryz.func69 (by kernel_rfl) (fun xs w => Tryz.call69 xs w) (by kernel_rfl)
 ·exact absurd (by decide +kernel) (hno (Rat.divInt 3 2))
def FracOk (n d u v : Int) : Prop := (-9223372036854775808 ≤ n ∧ n ≤ 9223372036854775807) ∧ (-9223372036854775808 ≤ d ∧ d ≤ 9223372036854775807) ∧ (0 ≤ u ∧ u ≤ 255) ∧ (0 ≤ v ∧ v ≤ 255)
theorem vFrac (n d u v : Int) (h : FracOk n d u v) : ∃ q : Rat, Sz 16 q ∧ Sp Tryz.prog 74 [] [.agg #[.int .i64 n, .int .i64 d, .int .u8 u, .int .u8 v]] (rV q) [] := by
 obtain ⟨⟨n1, n2⟩, ⟨d1, d2⟩, ⟨u1, u2⟩, v1, v2⟩ := h
 have hc := vRat n d u.toNat v.toNat n1 n2 d1 d2 (by omega) (by omega)
 unfold bV at hc
 rw [show ((u.toNat : Nat) : Int) = u by omega, show ((v.toNat : Nat) : Int) = v by omega] at hc
 refine ⟨_, ?_, hc⟩
 unfold fracQ
 have sn := s64 n n1 n2
 have se := s64 (if d = 0 then 1 else d) (by split <;> omega) (by split <;> omega)
 have z1 := sz256 n (u.toNat % 9) sn (by omega)
 have z2 := sz256 (if d = 0 then 1 else d) (v.toNat % 9) se (by omega)
 rw [mg_nd] at z1 z2
 refine Sz.of _ _ 16 (z256 _ (by split <;> omega) _) ?_ ?_
 ·exact Nat.lt_of_lt_of_le (lt_pow_nd 256 (by omega) _) (Nat.pow_le_pow_right (by omega) z1)
 ·exact Nat.lt_of_lt_of_le (lt_pow_nd 256 (by omega) _) (Nat.pow_le_pow_right (by omega) z2)
end Go.Proofs.YthdaimoankaciaaGreatDoor
