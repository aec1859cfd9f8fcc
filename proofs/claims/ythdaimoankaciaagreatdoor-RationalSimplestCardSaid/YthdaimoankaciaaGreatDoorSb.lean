import Derived.Test.YthdaimoankaciaaGreatDoorSa
import Derived.Test.YthdaimoankaciaaGreatDoorFz
/- The reference's search of the simplest fraction. -/
set_option linter.unusedSimpArgs false
set_option linter.unusedVariables false
namespace Go.Proofs.YthdaimoankaciaaGreatDoor
open Go Go.RowKit Go.Sy
open Vi
theorem dvOne (n : Int) : Rat.divInt n 1 = (n : Rat) := by rw [Rat.divInt_eq_div]; show (n : Rat) / 1 = n; grind
theorem floor_hs (q : Rat) (k : Nat) [h : HasSz q (k + 1)] : HasSz ((q.floor : Int) : Rat) (k + 1) := by
 refine int_hs q.floor k ?_
 have h1 := h.sz.1
 have h2 := Int.natAbs_ediv_le_natAbs q.num (q.den : Int)
 rw [← floor_of] at h2
 omega
def z4 : List Value := [.bool false, .string ⟨#[]⟩, .bool false, .string ⟨#[]⟩]
theorem rC_zero : rC 0 = z4 := by
 unfold rC z4
 rw [show (0 : Rat).num = 0 from rfl, show dn 0 = 0 from rfl, sg0, mg0]
def stO (a b : Rat) (oa ob : Bool) (d : Nat) : St := ⟨78, 0, [(3, nV 600), (4, ptr 0 0), (5, ptr 1 0), (6, ptr 2 0), (8, ptr 3 0), (10, nV d)], junk, [(0, blk 25 (rC a)), (1, blk 25 (rC b)), (2, blk 87 [.bool oa, .bool ob]), (3, blk 25 z4)], 4⟩
structure RoundC (a b D L L1 H H1 x0 x1 x2 x3 x4 : Rat) (d : Nat) : Prop where
 of : Sp Tryz.prog 43 [] [nV d, nV 1] (rV D) []
 one : Sp Tryz.prog 43 [] [nV 1, nV 1] (rV 1) []
 ma : ∃ t, Sp Tryz.prog 88 [] [rV a, rV D] (rV t) [] ∧ Sp Tryz.prog 115 [] [rV t] (rV L) []
 mb : ∃ t, Sp Tryz.prog 88 [] [rV b, rV D] (rV t) [] ∧ Sp Tryz.prog 115 [] [rV t] (rV H) []
 add : Sp Tryz.prog 91 [] [rV L, rV 1] (rV L1) []
 sub : Sp Tryz.prog 89 [] [rV H, rV 1] (rV H1) []
 d0 : Sp Tryz.prog 87 [] [rZ, rV D] (rV x0) []
 d1 : Sp Tryz.prog 87 [] [rV L, rV D] (rV x1) []
 d2 : Sp Tryz.prog 87 [] [rV L1, rV D] (rV x2) []
 d3 : Sp Tryz.prog 87 [] [rV H, rV D] (rV x3) []
 d4 : Sp Tryz.prog 87 [] [rV H1, rV D] (rV x4) []
theorem roundC (a b : Rat) (d : Nat) (hd : 0 < d) (h6 : d ≤ 600) [ha : HasSz a 2] [hb : HasSz b 2] :
    RoundC a b ((d : Int) : Rat) (((a * ((d : Int) : Rat)).floor : Int) : Rat) (((a * ((d : Int) : Rat)).floor + 1 : Int) : Rat) (((b * ((d : Int) : Rat)).floor : Int) : Rat) (((b * ((d : Int) : Rat)).floor - 1 : Int) : Rat)
     0 (Rat.divInt (a * ((d : Int) : Rat)).floor d) (Rat.divInt ((a * ((d : Int) : Rat)).floor + 1) d) (Rat.divInt (b * ((d : Int) : Rat)).floor d) (Rat.divInt ((b * ((d : Int) : Rat)).floor - 1) d) d ∧
    HasSz (Rat.divInt (a * ((d : Int) : Rat)).floor d) 8 ∧ HasSz (Rat.divInt ((a * ((d : Int) : Rat)).floor + 1) d) 8 ∧ HasSz (Rat.divInt (b * ((d : Int) : Rat)).floor d) 8 ∧ HasSz (Rat.divInt ((b * ((d : Int) : Rat)).floor - 1) d) 8 := by
 haveI zD : HasSz ((d : Int) : Rat) (1 + 1) := int_hs (d : Int) 1 (by rw [Int.natAbs_natCast]; have : (256 : Nat) ^ (1 + 1) = 65536 := by decide
                                                                      omega)
 have hD : ((d : Int) : Rat) ≠ 0 := by
  have : (0 : Rat) < ((d : Int) : Rat) := by exact_mod_cast hd
  grind
 have key : ∀ c : Rat, HasSz c 2 → HasSz (((c * ((d : Int) : Rat)).floor : Int) : Rat) (3 + 1) := fun c hc => by
  haveI := hc
  haveI : HasSz (c * ((d : Int) : Rat)) (3 + 1) := (inferInstance : HasSz (c * ((d : Int) : Rat)) (2 + (1 + 1)))
  exact floor_hs _ 3
 haveI zL := key a ha
 haveI zH := key b hb
 have one : ((1 : Int) : Rat) = 1 := rfl
 have eL : (((a * ((d : Int) : Rat)).floor + 1 : Int) : Rat) = (((a * ((d : Int) : Rat)).floor : Int) : Rat) + 1 := by rw [Rat.intCast_add, one]
 have eH : (((b * ((d : Int) : Rat)).floor - 1 : Int) : Rat) = (((b * ((d : Int) : Rat)).floor : Int) : Rat) - 1 := by rw [Rat.intCast_sub, one]
 haveI zL1 : HasSz (((a * ((d : Int) : Rat)).floor + 1 : Int) : Rat) 6 := by rw [eL]; exact (inferInstance : HasSz ((((a * ((d : Int) : Rat)).floor : Int) : Rat) + 1) (3 + 1 + 1 + 1))
 haveI zH1 : HasSz (((b * ((d : Int) : Rat)).floor - 1 : Int) : Rat) 6 := by rw [eH]; exact (inferInstance : HasSz ((((b * ((d : Int) : Rat)).floor : Int) : Rat) - 1) (3 + 1 + 1 + 1))
 refine ⟨⟨?_, rOne, ⟨_, rMul a _ fz fz, rFloor _ fz⟩, ⟨_, rMul b _ fz fz, rFloor _ fz⟩, ?_, ?_, ?_, ?_, ?_, ?_, ?_⟩, ?_, ?_, ?_, ?_⟩
 ·have := rOf (d : Int) 1 (by omega) (by omega) (by omega) (by omega) (by omega)
  rw [dvOne] at this
  exact this
 ·rw [eL]; exact rAdd _ 1 fz fz
 ·rw [eH]; exact rSub _ 1 fz fz
 ·have := rDiv 0 ((d : Int) : Rat) hD fz fz
  rw [rV0, show (0 : Rat) / ((d : Int) : Rat) = 0 by rw [Rat.div_def, Rat.zero_mul]] at this
  exact this
 ·rw [← div_nat]; exact rDiv _ _ hD fz fz
 ·rw [← div_nat]; exact rDiv _ _ hD fz fz
 ·rw [← div_nat]; exact rDiv _ _ hD fz fz
 ·rw [← div_nat]; exact rDiv _ _ hD fz fz
 ·rw [← div_nat]; exact hs_mono (hs_div _ _ _ _ hD) (by omega)
 ·rw [← div_nat]; exact hs_mono (hs_div _ _ _ _ hD) (by omega)
 ·rw [← div_nat]; exact hs_mono (hs_div _ _ _ _ hD) (by omega)
 ·rw [← div_nat]; exact hs_mono (hs_div _ _ _ _ hD) (by omega)
theorem out_round (a b D L L1 H H1 x0 x1 x2 x3 x4 : Rat) (oa ob : Bool) (d : Nat) (h6 : d < 600) (C : RoundC a b D L L1 H H1 x0 x1 x2 x3 x4 d)
    (w0 : Sp Tryz.prog 73 [] [rV x0, rV a, rV b, .bool oa, .bool ob] (.bool false) []) (w1 : Sp Tryz.prog 73 [] [rV x1, rV a, rV b, .bool oa, .bool ob] (.bool false) []) (w2 : Sp Tryz.prog 73 [] [rV x2, rV a, rV b, .bool oa, .bool ob] (.bool false) []) (w3 : Sp Tryz.prog 73 [] [rV x3, rV a, rV b, .bool oa, .bool ob] (.bool false) []) (w4 : Sp Tryz.prog 73 [] [rV x4, rV a, rV b, .bool oa, .bool ob] (.bool false) []) :
    CodeOk Tryz.prog (nthLoop 0 (Tryz.f72.body.getD .skip)) (stO a b oa ob d) .normal (stO a b oa ob (d + 1)) := by
 obtain ⟨of, one, ⟨t1, ma, fa⟩, ⟨t2, mb, fb⟩, add, sub, d0, d1, d2, d3, d4⟩ := C
 have c1 : decide ((d : Int) ≤ 600) = true := decide_eq_true (by omega)
 have wr : IntKind.i64.wrap ((d : Int) + 1) = ((d + 1 : Nat) : Int) := by rw [w64 (by omega) (by omega)]; omega
 clear h6
 unfold stO rC z4
 generalize (1 : Rat) = one' at *
 exact piece [(0, 0), (1, 1), (2, 2), (3, 3)] [eb c1, c of, c ma, c fa, c mb, c fb, c one, c add, c one, c sub, c d0, c w0, c d1, c w1, c d2, c w2, c d3, c w3, c d4, c w4, Sy.L, Sy.L, Sy.L, Go.Sy.e (congrArg (Value.int IntKind.i64) wr)] fol (by kernel_rfl)
def stI (a b D n1 n2 n3 n4 best : Rat) (oa ob found : Bool) (d i : Nat) : St := ⟨78, 0, [(3, nV 600), (4, ptr 0 0), (5, ptr 1 0), (6, ptr 2 0), (8, ptr 3 0), (10, nV d), (11, ptr 4 0), (14, ptr 7 0), (15, .bool found), (43, row 8 5), (44, nV 5), (45, nV i)], junk, [(0, blk 25 (rC a)), (1, blk 25 (rC b)), (2, blk 87 [.bool oa, .bool ob]), (3, blk 25 z4), (4, blk 25 (rC D)), (7, blk 25 (rC best)), (8, rws 5 (z4 ++ rC n1 ++ rC n2 ++ rC n3 ++ rC n4))], 9⟩
theorem sg_less {x y : Rat} {b : Bool} (h : decide (x < y) = b) : decide (cmpQ x y < 0) = b := cmpQ_lss h
theorem in_round0 (a b D n1 n2 n3 n4 x : Rat) (oa ob : Bool) (d : Nat) (s : Rat × Bool) (w : Bool) (h1 : HasSz x 8) (h2 : HasSz s.1 8)
    (dv : Sp Tryz.prog 87 [] [rZ, rV D] (rV x) []) (wi : Sp Tryz.prog 73 [] [rV x, rV a, rV b, .bool oa, .bool ob] (.bool w) []) :
    CodeOk Tryz.prog (nthLoop 1 (Tryz.f72.body.getD .skip)) (stI a b D n1 n2 n3 n4 s.1 oa ob s.2 d 0) .normal (stI a b D n1 n2 n3 n4 (fs w x s).1 oa ob (fs w x s).2 d 1) := by
 obtain ⟨y, f⟩ := s
 dsimp only at h2 ⊢
 unfold fs
 have c1 : decide ((0 : Int) < 5) = true := by decide
 cases w
 ·rw [if_neg (by simp)]
  clear h1 h2
  unfold stI rC z4
  exact piece [(0, 0), (1, 1), (2, 2), (3, 3), (4, 4), (7, 7), (8, 8)] [c dv, c wi] fol (by kernel_rfl)
 rw [if_pos rfl]
 cases f
 ·rw [if_pos (.inl rfl)]
  clear h1 h2
  unfold stI rC z4
  exact piece [(0, 0), (1, 1), (2, 2), (3, 3), (4, 4), (7, 7), (8, 8)] [c dv, c wi] fol (by kernel_rfl)
 have M1 := rMul x x fz fz
 have M2 := rMul y y fz fz
 have C := rCompare (x * x) (y * y) fz fz
 by_cases hl : x * x < y * y
 ·have e := sg_less (decide_eq_true hl)
  rw [if_pos (.inr hl)]
  clear h1 h2 hl
  generalize cmpQ (x * x) (y * y) = c at *
  generalize x * x = xx at *
  generalize y * y = yy at *
  unfold stI rC z4
  exact piece [(0, 0), (1, 1), (2, 2), (3, 3), (4, 4), (7, 7), (8, 8)] [Sy.c dv, Sy.c wi, Sy.c M1, Sy.c M2, Sy.c C, eb e] fol (by kernel_rfl)
 ·have e := sg_less (decide_eq_false hl)
  rw [if_neg (by rintro (h | h); cases h; exact hl h)]
  clear h1 h2 hl
  generalize cmpQ (x * x) (y * y) = c at *
  generalize x * x = xx at *
  generalize y * y = yy at *
  unfold stI rC z4
  exact piece [(0, 0), (1, 1), (2, 2), (3, 3), (4, 4), (7, 7), (8, 8)] [Sy.c dv, Sy.c wi, Sy.c M1, Sy.c M2, Sy.c C, eb e] fol (by kernel_rfl)
theorem in_round1 (a b D n1 n2 n3 n4 x : Rat) (oa ob : Bool) (d : Nat) (s : Rat × Bool) (w : Bool) (h1 : HasSz x 8) (h2 : HasSz s.1 8)
    (dv : Sp Tryz.prog 87 [] [rV n1, rV D] (rV x) []) (wi : Sp Tryz.prog 73 [] [rV x, rV a, rV b, .bool oa, .bool ob] (.bool w) []) :
    CodeOk Tryz.prog (nthLoop 1 (Tryz.f72.body.getD .skip)) (stI a b D n1 n2 n3 n4 s.1 oa ob s.2 d 1) .normal (stI a b D n1 n2 n3 n4 (fs w x s).1 oa ob (fs w x s).2 d 2) := by
 obtain ⟨y, f⟩ := s
 dsimp only at h2 ⊢
 unfold fs
 have c1 : decide ((1 : Int) < 5) = true := by decide
 cases w
 ·rw [if_neg (by simp)]
  clear h1 h2
  unfold stI rC z4
  exact piece [(0, 0), (1, 1), (2, 2), (3, 3), (4, 4), (7, 7), (8, 8)] [c dv, c wi] fol (by kernel_rfl)
 rw [if_pos rfl]
 cases f
 ·rw [if_pos (.inl rfl)]
  clear h1 h2
  unfold stI rC z4
  exact piece [(0, 0), (1, 1), (2, 2), (3, 3), (4, 4), (7, 7), (8, 8)] [c dv, c wi] fol (by kernel_rfl)
 have M1 := rMul x x fz fz
 have M2 := rMul y y fz fz
 have C := rCompare (x * x) (y * y) fz fz
 by_cases hl : x * x < y * y
 ·have e := sg_less (decide_eq_true hl)
  rw [if_pos (.inr hl)]
  clear h1 h2 hl
  generalize cmpQ (x * x) (y * y) = c at *
  generalize x * x = xx at *
  generalize y * y = yy at *
  unfold stI rC z4
  exact piece [(0, 0), (1, 1), (2, 2), (3, 3), (4, 4), (7, 7), (8, 8)] [Sy.c dv, Sy.c wi, Sy.c M1, Sy.c M2, Sy.c C, eb e] fol (by kernel_rfl)
 ·have e := sg_less (decide_eq_false hl)
  rw [if_neg (by rintro (h | h); cases h; exact hl h)]
  clear h1 h2 hl
  generalize cmpQ (x * x) (y * y) = c at *
  generalize x * x = xx at *
  generalize y * y = yy at *
  unfold stI rC z4
  exact piece [(0, 0), (1, 1), (2, 2), (3, 3), (4, 4), (7, 7), (8, 8)] [Sy.c dv, Sy.c wi, Sy.c M1, Sy.c M2, Sy.c C, eb e] fol (by kernel_rfl)
theorem in_round2 (a b D n1 n2 n3 n4 x : Rat) (oa ob : Bool) (d : Nat) (s : Rat × Bool) (w : Bool) (h1 : HasSz x 8) (h2 : HasSz s.1 8)
    (dv : Sp Tryz.prog 87 [] [rV n2, rV D] (rV x) []) (wi : Sp Tryz.prog 73 [] [rV x, rV a, rV b, .bool oa, .bool ob] (.bool w) []) :
    CodeOk Tryz.prog (nthLoop 1 (Tryz.f72.body.getD .skip)) (stI a b D n1 n2 n3 n4 s.1 oa ob s.2 d 2) .normal (stI a b D n1 n2 n3 n4 (fs w x s).1 oa ob (fs w x s).2 d 3) := by
 obtain ⟨y, f⟩ := s
 dsimp only at h2 ⊢
 unfold fs
 have c1 : decide ((2 : Int) < 5) = true := by decide
 cases w
 ·rw [if_neg (by simp)]
  clear h1 h2
  unfold stI rC z4
  exact piece [(0, 0), (1, 1), (2, 2), (3, 3), (4, 4), (7, 7), (8, 8)] [c dv, c wi] fol (by kernel_rfl)
 rw [if_pos rfl]
 cases f
 ·rw [if_pos (.inl rfl)]
  clear h1 h2
  unfold stI rC z4
  exact piece [(0, 0), (1, 1), (2, 2), (3, 3), (4, 4), (7, 7), (8, 8)] [c dv, c wi] fol (by kernel_rfl)
 have M1 := rMul x x fz fz
 have M2 := rMul y y fz fz
 have C := rCompare (x * x) (y * y) fz fz
 by_cases hl : x * x < y * y
 ·have e := sg_less (decide_eq_true hl)
  rw [if_pos (.inr hl)]
  clear h1 h2 hl
  generalize cmpQ (x * x) (y * y) = c at *
  generalize x * x = xx at *
  generalize y * y = yy at *
  unfold stI rC z4
  exact piece [(0, 0), (1, 1), (2, 2), (3, 3), (4, 4), (7, 7), (8, 8)] [Sy.c dv, Sy.c wi, Sy.c M1, Sy.c M2, Sy.c C, eb e] fol (by kernel_rfl)
 ·have e := sg_less (decide_eq_false hl)
  rw [if_neg (by rintro (h | h); cases h; exact hl h)]
  clear h1 h2 hl
  generalize cmpQ (x * x) (y * y) = c at *
  generalize x * x = xx at *
  generalize y * y = yy at *
  unfold stI rC z4
  exact piece [(0, 0), (1, 1), (2, 2), (3, 3), (4, 4), (7, 7), (8, 8)] [Sy.c dv, Sy.c wi, Sy.c M1, Sy.c M2, Sy.c C, eb e] fol (by kernel_rfl)
theorem in_round3 (a b D n1 n2 n3 n4 x : Rat) (oa ob : Bool) (d : Nat) (s : Rat × Bool) (w : Bool) (h1 : HasSz x 8) (h2 : HasSz s.1 8)
    (dv : Sp Tryz.prog 87 [] [rV n3, rV D] (rV x) []) (wi : Sp Tryz.prog 73 [] [rV x, rV a, rV b, .bool oa, .bool ob] (.bool w) []) :
    CodeOk Tryz.prog (nthLoop 1 (Tryz.f72.body.getD .skip)) (stI a b D n1 n2 n3 n4 s.1 oa ob s.2 d 3) .normal (stI a b D n1 n2 n3 n4 (fs w x s).1 oa ob (fs w x s).2 d 4) := by
 obtain ⟨y, f⟩ := s
 dsimp only at h2 ⊢
 unfold fs
 have c1 : decide ((3 : Int) < 5) = true := by decide
 cases w
 ·rw [if_neg (by simp)]
  clear h1 h2
  unfold stI rC z4
  exact piece [(0, 0), (1, 1), (2, 2), (3, 3), (4, 4), (7, 7), (8, 8)] [c dv, c wi] fol (by kernel_rfl)
 rw [if_pos rfl]
 cases f
 ·rw [if_pos (.inl rfl)]
  clear h1 h2
  unfold stI rC z4
  exact piece [(0, 0), (1, 1), (2, 2), (3, 3), (4, 4), (7, 7), (8, 8)] [c dv, c wi] fol (by kernel_rfl)
 have M1 := rMul x x fz fz
 have M2 := rMul y y fz fz
 have C := rCompare (x * x) (y * y) fz fz
 by_cases hl : x * x < y * y
 ·have e := sg_less (decide_eq_true hl)
  rw [if_pos (.inr hl)]
  clear h1 h2 hl
  generalize cmpQ (x * x) (y * y) = c at *
  generalize x * x = xx at *
  generalize y * y = yy at *
  unfold stI rC z4
  exact piece [(0, 0), (1, 1), (2, 2), (3, 3), (4, 4), (7, 7), (8, 8)] [Sy.c dv, Sy.c wi, Sy.c M1, Sy.c M2, Sy.c C, eb e] fol (by kernel_rfl)
 ·have e := sg_less (decide_eq_false hl)
  rw [if_neg (by rintro (h | h); cases h; exact hl h)]
  clear h1 h2 hl
  generalize cmpQ (x * x) (y * y) = c at *
  generalize x * x = xx at *
  generalize y * y = yy at *
  unfold stI rC z4
  exact piece [(0, 0), (1, 1), (2, 2), (3, 3), (4, 4), (7, 7), (8, 8)] [Sy.c dv, Sy.c wi, Sy.c M1, Sy.c M2, Sy.c C, eb e] fol (by kernel_rfl)
theorem in_round4 (a b D n1 n2 n3 n4 x : Rat) (oa ob : Bool) (d : Nat) (s : Rat × Bool) (w : Bool) (h1 : HasSz x 8) (h2 : HasSz s.1 8)
    (dv : Sp Tryz.prog 87 [] [rV n4, rV D] (rV x) []) (wi : Sp Tryz.prog 73 [] [rV x, rV a, rV b, .bool oa, .bool ob] (.bool w) []) :
    CodeOk Tryz.prog (nthLoop 1 (Tryz.f72.body.getD .skip)) (stI a b D n1 n2 n3 n4 s.1 oa ob s.2 d 4) .normal (stI a b D n1 n2 n3 n4 (fs w x s).1 oa ob (fs w x s).2 d 5) := by
 obtain ⟨y, f⟩ := s
 dsimp only at h2 ⊢
 unfold fs
 have c1 : decide ((4 : Int) < 5) = true := by decide
 cases w
 ·rw [if_neg (by simp)]
  clear h1 h2
  unfold stI rC z4
  exact piece [(0, 0), (1, 1), (2, 2), (3, 3), (4, 4), (7, 7), (8, 8)] [c dv, c wi] fol (by kernel_rfl)
 rw [if_pos rfl]
 cases f
 ·rw [if_pos (.inl rfl)]
  clear h1 h2
  unfold stI rC z4
  exact piece [(0, 0), (1, 1), (2, 2), (3, 3), (4, 4), (7, 7), (8, 8)] [c dv, c wi] fol (by kernel_rfl)
 have M1 := rMul x x fz fz
 have M2 := rMul y y fz fz
 have C := rCompare (x * x) (y * y) fz fz
 by_cases hl : x * x < y * y
 ·have e := sg_less (decide_eq_true hl)
  rw [if_pos (.inr hl)]
  clear h1 h2 hl
  generalize cmpQ (x * x) (y * y) = c at *
  generalize x * x = xx at *
  generalize y * y = yy at *
  unfold stI rC z4
  exact piece [(0, 0), (1, 1), (2, 2), (3, 3), (4, 4), (7, 7), (8, 8)] [Sy.c dv, Sy.c wi, Sy.c M1, Sy.c M2, Sy.c C, eb e] fol (by kernel_rfl)
 ·have e := sg_less (decide_eq_false hl)
  rw [if_neg (by rintro (h | h); cases h; exact hl h)]
  clear h1 h2 hl
  generalize cmpQ (x * x) (y * y) = c at *
  generalize x * x = xx at *
  generalize y * y = yy at *
  unfold stI rC z4
  exact piece [(0, 0), (1, 1), (2, 2), (3, 3), (4, 4), (7, 7), (8, 8)] [Sy.c dv, Sy.c wi, Sy.c M1, Sy.c M2, Sy.c C, eb e] fol (by kernel_rfl)
theorem in_end (a b D n1 n2 n3 n4 best : Rat) (oa ob found : Bool) (d : Nat) : CodeOk Tryz.prog (nthLoop 1 (Tryz.f72.body.getD .skip)) (stI a b D n1 n2 n3 n4 best oa ob found d 5) (.exit 2) (stI a b D n1 n2 n3 n4 best oa ob found d 5) := by
 have c1 : decide ((5 : Int) < 5) = false := by decide
 unfold stI rC z4
 exact piece [(0, 0), (1, 1), (2, 2), (3, 3), (4, 4), (7, 7), (8, 8)] [] fol (by kernel_rfl)
def stR (q : Rat) : St := ⟨78, 0, [(8, ptr 3 0), (9, .bool true)], junk, [(3, blk 25 (rC q))], 4⟩
theorem last_round (a b D L L1 H H1 x0 x1 x2 x3 x4 q : Rat) (oa ob : Bool) (d : Nat) (h6 : d ≤ 600) (C : RoundC a b D L L1 H H1 x0 x1 x2 x3 x4 d)
    (hl : RoundsOk Tryz.prog (nthLoop 1 (Tryz.f72.body.getD .skip)) (stI a b D L L1 H H1 0 oa ob false d 0) (.exit 2) (stI a b D L L1 H H1 q oa ob true d 5)) :
    CodeOk Tryz.prog (nthLoop 0 (Tryz.f72.body.getD .skip)) (stO a b oa ob d) .ret (stR q) := by
 obtain ⟨of, one, ⟨t1, ma, fa⟩, ⟨t2, mb, fb⟩, add, sub, d0, d1, d2, d3, d4⟩ := C
 have c1 : decide ((d : Int) ≤ 600) = true := decide_eq_true (by omega)
 have hl := hl.loop
 clear h6
 unfold stI at hl
 rw [rC_zero] at hl
 unfold stO stR
 unfold rC z4 at *
 generalize (1 : Rat) = one' at *
 exact piece [(3, 3)] [eb c1, c of, c ma, c fa, c mb, c fb, c one, c add, c one, c sub, lp [(0, 0), (1, 1), (2, 2), (3, 3), (4, 4), (7, 7), (8, 8)] hl] fol (by kernel_rfl)
theorem rSimp (a b q : Rat) (oa ob : Bool) [ha : HasSz a 2] [hb : HasSz b 2] (hB : Best a b oa ob q) (hq : q.den ≤ 600) : Sp Tryz.prog 72 [] [rV a, rV b, .agg #[.bool oa, .bool ob], nV 600] (.tuple #[rV q, .bool true]) [] := by
 have fa : Fits a := fz
 have fb : Fits b := fz
 have hd0 : 0 < q.den := by have := q.den_nz; omega
 have wOf : ∀ x : Rat, HasSz x 8 → Sp Tryz.prog 73 [] [rV x, rV a, rV b, .bool oa, .bool ob] (.bool (within x a b oa ob)) [] := fun x hx => rWithin x a b oa ob fz fa fb
 have no : ∀ d, 0 < d → d < q.den → ∀ n : Int, within (Rat.divInt n d) a b oa ob = false := fun d h0 hlt n => by
  have := none_below hB d h0 hlt n
  rw [← within_iff] at this
  simpa using this
 have z0 : HasSz (0 : Rat) 8 := hs_mono (inferInstance : HasSz (0 : Rat) 1) (by omega)
 have key : ∀ m d, 0 < d → d + m = q.den → RoundsOk Tryz.prog (nthLoop 0 (Tryz.f72.body.getD .skip)) (stO a b oa ob d) .ret (stR q) := by
  intro m
  induction m with
  | zero =>
   intro d h0 hd
   obtain rfl : d = q.den := by omega
   obtain ⟨C, z1, z2, z3, z4'⟩ := roundC a b q.den h0 hq
   have tr := tried hB
   have den : ∀ n : Int, (Rat.divInt n q.den).den ≤ q.den := fun n => (divInt_small n q.den (by omega)).1
   have eq : q = Rat.divInt q.num q.den := (Rat.num_divInt_den q).symm
   have W0 := wOf 0 z0
   have W1 := wOf _ z1
   have W2 := wOf _ z2
   have W3 := wOf _ z3
   have W4 := wOf _ z4'
   have f0 : Fnd (InI a b oa ob) [] ((0 : Rat), false) := .inl ⟨rfl, fun x hx => by cases hx⟩
   have f1 := f0.step (within_iff 0 a b oa ob)
   have f2 := f1.step (within_iff (Rat.divInt (a * ((q.den : Int) : Rat)).floor q.den) a b oa ob)
   have f3 := f2.step (within_iff (Rat.divInt ((a * ((q.den : Int) : Rat)).floor + 1) q.den) a b oa ob)
   have f4 := f3.step (within_iff (Rat.divInt (b * ((q.den : Int) : Rat)).floor q.den) a b oa ob)
   have f5 := f4.step (within_iff (Rat.divInt ((b * ((q.den : Int) : Rat)).floor - 1) q.den) a b oa ob)
   have hqm : q ∈ ((((([] : List Rat) ++ [0]) ++ [Rat.divInt (a * ((q.den : Int) : Rat)).floor q.den]) ++ [Rat.divInt ((a * ((q.den : Int) : Rat)).floor + 1) q.den]) ++ [Rat.divInt (b * ((q.den : Int) : Rat)).floor q.den]) ++ [Rat.divInt ((b * ((q.den : Int) : Rat)).floor - 1) q.den] := by
    rcases tr with h | h | h | h | h
    ·have : q = 0 := Rat.num_eq_zero.1 h
     rw [this]; simp
    ·have : q = Rat.divInt (a * ((q.den : Int) : Rat)).floor q.den := by rw [← h]; exact eq
     simp [← this]
    ·have : q = Rat.divInt ((a * ((q.den : Int) : Rat)).floor + 1) q.den := by rw [← h]; exact eq
     simp [← this]
    ·have : q = Rat.divInt (b * ((q.den : Int) : Rat)).floor q.den := by rw [← h]; exact eq
     simp [← this]
    ·have : q = Rat.divInt ((b * ((q.den : Int) : Rat)).floor - 1) q.den := by rw [← h]; exact eq
     simp [← this]
   have fin := found_best hB (fun x hx => by
    simp only [List.mem_append, List.mem_singleton, List.not_mem_nil, false_or] at hx
    rcases hx with (((rfl | rfl) | rfl) | rfl) | rfl
    ·exact hd0
    ·exact den _
    ·exact den _
    ·exact den _
    ·exact den _) hqm f5
   have s1 : ∀ (w : Bool) (x : Rat) (s : Rat × Bool), HasSz x 8 → HasSz s.1 8 → HasSz (fs w x s).1 8 := fun w x s hx hs => by
    unfold fs
    split
    ·split
     ·exact hx
     ·exact hs
    ·exact hs
   have r0 := in_round0 a b ((q.den : Int) : Rat) (((a * ((q.den : Int) : Rat)).floor : Int) : Rat) (((a * ((q.den : Int) : Rat)).floor + 1 : Int) : Rat) (((b * ((q.den : Int) : Rat)).floor : Int) : Rat) (((b * ((q.den : Int) : Rat)).floor - 1 : Int) : Rat) _ oa ob q.den ((0 : Rat), false) _ z0 z0 C.d0 W0
   have y1 := s1 (within 0 a b oa ob) 0 ((0 : Rat), false) z0 z0
   have r1 := in_round1 a b ((q.den : Int) : Rat) (((a * ((q.den : Int) : Rat)).floor : Int) : Rat) (((a * ((q.den : Int) : Rat)).floor + 1 : Int) : Rat) (((b * ((q.den : Int) : Rat)).floor : Int) : Rat) (((b * ((q.den : Int) : Rat)).floor - 1 : Int) : Rat) _ oa ob q.den _ _ z1 y1 C.d1 W1
   have y2 := s1 (within (Rat.divInt (a * ((q.den : Int) : Rat)).floor q.den) a b oa ob) _ _ z1 y1
   have r2 := in_round2 a b ((q.den : Int) : Rat) (((a * ((q.den : Int) : Rat)).floor : Int) : Rat) (((a * ((q.den : Int) : Rat)).floor + 1 : Int) : Rat) (((b * ((q.den : Int) : Rat)).floor : Int) : Rat) (((b * ((q.den : Int) : Rat)).floor - 1 : Int) : Rat) _ oa ob q.den _ _ z2 y2 C.d2 W2
   have y3 := s1 (within (Rat.divInt ((a * ((q.den : Int) : Rat)).floor + 1) q.den) a b oa ob) _ _ z2 y2
   have r3 := in_round3 a b ((q.den : Int) : Rat) (((a * ((q.den : Int) : Rat)).floor : Int) : Rat) (((a * ((q.den : Int) : Rat)).floor + 1 : Int) : Rat) (((b * ((q.den : Int) : Rat)).floor : Int) : Rat) (((b * ((q.den : Int) : Rat)).floor - 1 : Int) : Rat) _ oa ob q.den _ _ z3 y3 C.d3 W3
   have y4 := s1 (within (Rat.divInt (b * ((q.den : Int) : Rat)).floor q.den) a b oa ob) _ _ z3 y3
   have r4 := in_round4 a b ((q.den : Int) : Rat) (((a * ((q.den : Int) : Rat)).floor : Int) : Rat) (((a * ((q.den : Int) : Rat)).floor + 1 : Int) : Rat) (((b * ((q.den : Int) : Rat)).floor : Int) : Rat) (((b * ((q.den : Int) : Rat)).floor - 1 : Int) : Rat) _ oa ob q.den _ _ z4' y4 C.d4 W4
   rw [fin] at r4
   have hl := RoundsOk.more r0 (RoundsOk.more r1 (RoundsOk.more r2 (RoundsOk.more r3 (RoundsOk.more r4 (RoundsOk.out (by simp) (in_end a b ((q.den : Int) : Rat) _ _ _ _ q oa ob true q.den))))))
   exact .out (by simp) (last_round a b _ _ _ _ _ _ _ _ _ _ q oa ob q.den hq C hl)
  | succ m ih =>
   intro d h0 hd
   obtain ⟨C, z1, z2, z3, z4'⟩ := roundC a b d h0 (by omega)
   have W0 := wOf 0 z0
   have W1 := wOf _ z1
   have W2 := wOf _ z2
   have W3 := wOf _ z3
   have W4 := wOf _ z4'
   rw [no d h0 (by omega)] at W1 W2 W3 W4
   have e0 : (0 : Rat) = Rat.divInt 0 d := by rw [Rat.zero_divInt]
   rw [e0, no d h0 (by omega), ← e0] at W0
   exact .more (out_round a b _ _ _ _ _ _ _ _ _ _ oa ob d (by omega) C W0 W1 W2 W3 W4) (ih (d + 1) (by omega) (by omega))
 have hl := (key (q.den - 1) 1 (by omega) (by omega)).loop
 unfold stO stR rC z4 at hl
 clear key wOf no hB hq fa fb
 exact walk (code := Tryz.f72.body.getD .skip) [lp [(0, 0), (1, 1), (2, 2), (3, 3)] hl] fol Tryz.func72 (by kernel_rfl) (fun xs w => Tryz.call72 xs w) (by kernel_rfl)
end Go.Proofs.YthdaimoankaciaaGreatDoor
