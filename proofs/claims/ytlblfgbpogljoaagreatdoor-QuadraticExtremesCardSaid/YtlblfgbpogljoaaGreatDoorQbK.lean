/- Part 11 of the proof; what it holds is said text by text. -/
import Derived.Test.YtlblfgbpogljoaaGreatDoorQbJ
import Derived.Test.YtlblfgbpogljoaaGreatDoorQbI
set_option linter.unusedSimpArgs false
set_option linter.unusedVariables false
section
/- The package quadratic: roots, parts of an interval. -/
namespace Go.Proofs.YtlblfgbpogljoaaGreatDoor
open Go Go.RowKit Go.Sy
open Vi
def pcC (p : Iv × Int) : List Value := [.bool (sg p.1.F.p.num), .string (mg p.1.F.p.num), .bool (sg (dn p.1.F.p)), .string (mg (dn p.1.F.p)), .bool (sg p.1.F.r.num), .string (mg p.1.F.r.num), .bool (sg (dn p.1.F.r)), .string (mg (dn p.1.F.r)), .bool p.1.F.neg,
 .bool (sg p.1.T.p.num), .string (mg p.1.T.p.num), .bool (sg (dn p.1.T.p)), .string (mg (dn p.1.T.p)), .bool (sg p.1.T.r.num), .string (mg p.1.T.r.num), .bool (sg (dn p.1.T.r)), .string (mg (dn p.1.T.r)), .bool p.1.T.neg, .bool p.1.oF, .bool p.1.oT, nV p.2]
def pcV (p : Iv × Int) : Value := .agg ⟨pcC p⟩
def pcs : List (Iv × Int) → List Value
 | [] => []
 | p :: l => pcC p ++ pcs l
theorem uRootsN (a b c : Rat) (R : Sp Tryz.prog 108 [] [qV a b c] (.tuple #[.slice none 0 0, nV 0]) []) : Sp Tryz.prog 39 [] [qV a b c] (.tuple #[.slice none 0 0, nV 0]) [] := by
 exact walk (code := Tryz.f39.body.getD .skip) [Sy.c R] fol Tryz.func39 (by kernel_rfl) (fun xs w => Tryz.call39 xs w) (by kernel_rfl)
theorem uRoots1 (a b c : Rat) (x : Rl) (R : Sp Tryz.prog 108 [] [qV a b c] (.tuple #[row 0 1, nV 0]) [(1, rlC x)]) : Sp Tryz.prog 39 [] [qV a b c] (.tuple #[row 0 1, nV 0]) [(1, rlC x)] := by
 obtain ⟨xp, xr, xn⟩ := x
 exact walk (code := Tryz.f39.body.getD .skip) [cr R] fol Tryz.func39 (by kernel_rfl) (fun xs w => Tryz.call39 xs w) (by kernel_rfl)
theorem uRoots2 (a b c : Rat) (x y : Rl) (R : Sp Tryz.prog 108 [] [qV a b c] (.tuple #[row 0 2, nV 0]) [(2, rlC x ++ rlC y)]) : Sp Tryz.prog 39 [] [qV a b c] (.tuple #[row 0 2, nV 0]) [(2, rlC x ++ rlC y)] := by
 obtain ⟨xp, xr, xn⟩ := x
 obtain ⟨yp, yr, yn⟩ := y
 exact walk (code := Tryz.f39.body.getD .skip) [cr R] fol Tryz.func39 (by kernel_rfl) (fun xs w => Tryz.call39 xs w) (by kernel_rfl)
def rlsC : List Rl → List Value
 | [] => []
 | x :: l => rlC x ++ rlsC l
def RootsSp (a b c : Rat) : List Rl → Prop
 | [] => Sp Tryz.prog 39 [] [qV a b c] (.tuple #[.slice none 0 0, nV 0]) []
 | l => Sp Tryz.prog 39 [] [qV a b c] (.tuple #[row 0 l.length, nV 0]) [(l.length, rlsC l)]
theorem uRoots (a b c : Rat) (l : List Rl) (h : IsRoots a b c l) {i j k : Nat} [HasSz a i] [HasSz b j] [HasSz c k] (hs : i + j + k ≤ 300 := by first | omega | decide) : RootsSp a b c l := by
 cases h with
 | const h => exact uRootsN _ _ _ (qRootsNone a h)
 | lin h => exact uRoots1 _ _ _ _ (qRootsLin a b h (by omega))
 | no hc eh ed hd => exact uRootsN _ _ _ ((qRootsQ a b c _ _ hc eh ed hs).1 hd)
 | one hc eh ed hd => exact uRoots1 _ _ _ _ ((qRootsQ a b c _ _ hc eh ed hs).2.1 hd)
 | two hc eh ed hd => exact uRoots2 _ _ _ _ _ ((qRootsQ a b c _ _ hc eh ed hs).2.2 hd)
theorem uSignAtR (a b c r : Rat) {i j k l : Nat} [HasSz a i] [HasSz b j] [HasSz c k] [hl : HasSz r l] (hs : i + j + k + l ≤ 690 := by first | omega | decide) : Sp Tryz.prog 37 [] [qV a b c, rlV (Rl.rat r)] (nV (sgR (qval a b c (RR.ofRat r)))) [] := by
 haveI y1 : HasSz (Rl.rat r).p l := hl
 haveI y2 : HasSz (Rl.rat r).r 1 := (inferInstance : HasSz (0 : Rat) 1)
 have A := uAt a b c (Rl.rat r) Rat.le_refl
 have e := atQ_val (a := a) (b := b) (c := c) (Rl.rat_ok r)
 rw [Rl.rat_val] at e
 rw [atQ_rat] at A e
 haveI y3 : HasSz (Rl.rat (evQ a b c r)).p _ := evQ_hs a b c r
 haveI y4 : HasSz (Rl.rat (evQ a b c r)).r 1 := (inferInstance : HasSz (0 : Rat) 1)
 have S := qSgnR (Rl.rat (evQ a b c r)) Rat.le_refl
 rw [e] at S
 clear e y1 y2 y3 y4 hl hs
 generalize sgR (qval a b c (RR.ofRat r)) = s at *
 generalize Rl.rat (evQ a b c r) = v at *
 generalize Rl.rat r = x at *
 obtain ⟨xp, xr, xn⟩ := x
 obtain ⟨vp, vr, vn⟩ := v
 exact walk (code := Tryz.f37.body.getD .skip) [Sy.c A, Sy.c S] fol Tryz.func37 (by kernel_rfl) (fun xs w => Tryz.call37 xs w) (by kernel_rfl)
theorem upart_lt (a b c : Rat) (F T : Rl) (oF oT : Bool) (s : Int) [ha : HasSz a 2] [hb : HasSz b 2] [hc : HasSz c 2] [h1 : HasSz F.p 8] [h2 : HasSz F.r 8] [h3 : HasSz T.p 8] [h4 : HasSz T.r 8] (hF : F.Ok) (hT : T.Ok) (hlt : F.val < T.val)
    (hm : ∀ M : RR, F.val < M → M < T.val → sgR (qval a b c M) = s) : Sp Tryz.prog 111 [] [qV a b c, ivV F T oF oT] (pcV (⟨F, T, oF, oT⟩, s)) [] := by
 obtain ⟨q, hb, hz, R⟩ := qSimpAll F T hF hT hlt
 have C2 := qCmp F T hF.nonneg hT.nonneg
 have hc : decide (Rl.cmp F T ≥ 0) = false := by
  have := of_decide_eq_true ((cmp_lss F T).2 hlt)
  exact decide_eq_false (by omega)
 have B := qBetween F T q _ hc C2 R
 have S := uSignAtR a b c q
 rw [hm _ hb.1.1 hb.1.2] at S
 exact upart a b c F T oF oT q s B S
theorem upart_eq (a b c : Rat) (F T : Rl) (oF oT : Bool) [ha : HasSz a 2] [hb : HasSz b 2] [hc : HasSz c 2] [h1 : HasSz F.p 8] [h2 : HasSz F.r 8] [h3 : HasSz T.p 8] [h4 : HasSz T.r 8] (hF : F.Ok) (hT : T.Ok) (he : F.val = T.val) :
    Sp Tryz.prog 111 [] [qV a b c, ivV F T oF oT] (pcV (⟨F, T, oF, oT⟩, sgR (qval a b c F.val))) [] := by
 have C2 := qCmp F T hF.nonneg hT.nonneg
 have hc : decide (Rl.cmp F T ≥ 0) = true := by
  have := (Rl.cmp_eq0 hF hT).2 (Rl.inj hF hT he)
  exact decide_eq_true (by omega)
 have B := qBetweenNo F T _ hc C2
 have S := uSignAt a b c F hF.nonneg
 rw [atQ_val hF] at S
 exact upart1 a b c F T oF oT _ B S
theorem upart_mid {a b c : Rat} {l : List Rl} (hl : IsRoots a b c l) [ha : HasSz a 2] [hb : HasSz b 2] [hc : HasSz c 2] {inn : Iv} {rs : List Rl} {r f : Rl} {o : Bool} [h1 : HasSz f.p 8] [h2 : HasSz f.r 8] [h3 : HasSz r.p 8] [h4 : HasSz r.r 8] (hf : f.Ok) (hr : r.Ok)
    (h : Rest inn l (r :: rs) f o) (hs : (r :: rs).Pairwise (fun x y => x.val < y.val)) (hi : inn.has r.val) (hlt : f.val < r.val) :
    Sp Tryz.prog 111 [] [qV a b c, ivV f r o true] (pcV (⟨f, r, o, true⟩, sBt (qval a b c) (sgQ c) f r)) [] :=
 upart_lt a b c f r o true _ hf hr hlt fun M g1 g2 => hl.sgs.mid _ _ _ g1 g2 (h.none_before hs hi)
theorem upart_end {a b c : Rat} {l : List Rl} (hl : IsRoots a b c l) [ha : HasSz a 2] [hb : HasSz b 2] [hc : HasSz c 2] {inn : Iv} {f : Rl} {o : Bool} [h1 : HasSz f.p 8] [h2 : HasSz f.r 8] [h3 : HasSz inn.T.p 8] [h4 : HasSz inn.T.r 8] (hf : f.Ok) (hT : inn.T.Ok)
    (h : Rest inn l [] f o) (hi : Iv.full ⟨f, inn.T, o, inn.oT⟩) :
    Sp Tryz.prog 111 [] [qV a b c, ivV f inn.T o inn.oT] (pcV (⟨f, inn.T, o, inn.oT⟩, sBt (qval a b c) (sgQ c) f inn.T)) [] := by
 rcases hi with hlt | ⟨he, ho, ht⟩
 ·exact upart_lt a b c f inn.T o inn.oT _ hf hT hlt fun M g1 g2 => hl.sgs.mid _ _ _ g1 g2 h.none_end
 ·have he : f.val = inn.T.val := he
  have ho : o = false := ho
  have ht : inn.oT = false := ht
  have n0 : sgR (qval a b c f.val) ≠ 0 := fun e => by
   obtain ⟨x, hx, hxv⟩ := hl.sgs.only _ e
   rcases h.seen x hx with k | k | ⟨_, k⟩ | k | ⟨_, k⟩
   ·cases k
   ·rw [hxv] at k; exact RR.lt_irrefl _ k
   ·rw [ho] at k; cases k
   ·rw [hxv, he] at k; exact RR.lt_irrefl _ k
   ·rw [ht] at k; cases k
  have e : sBt (qval a b c) (sgQ c) f inn.T = sgR (qval a b c f.val) := btwS_left n0
  rw [e]
  exact upart_eq a b c f inn.T o inn.oT hf hT he
theorem inC_iff {F T t : Rl} {oF oT : Bool} (hF : F.Ok) (hT : T.Ok) (ht : t.Ok) : inC (Rl.cmp F t) (Rl.cmp t T) oF oT = true ↔ Iv.has ⟨F, T, oF, oT⟩ t.val := by
 have v : ∀ {x y : Rl}, x.Ok → y.Ok → (Rl.cmp x y = 0 ↔ x.val = y.val) := fun {x y} hx hy => ⟨fun h => by rw [(Rl.cmp_eq0 hx hy).1 h], fun h => (Rl.cmp_eq0 hx hy).2 (Rl.inj hx hy h)⟩
 unfold inC Iv.has
 simp only [Bool.and_eq_true, Bool.or_eq_true, cmp_lss, decide_eq_true_iff (p := Rl.cmp F t = 0), decide_eq_true_iff (p := Rl.cmp t T = 0), v hF ht, v ht hT, Bool.not_eq_true']
 constructor
 ·rintro ⟨h1, h2⟩
  exact ⟨h1.imp id fun h => ⟨h.2, h.1⟩, h2.imp id fun h => ⟨h.2, h.1⟩⟩
 ·rintro ⟨h1, h2⟩
  exact ⟨h1.imp id fun h => ⟨h.2, h.1⟩, h2.imp id fun h => ⟨h.2, h.1⟩⟩
theorem inC_yes {F T t : Rl} {oF oT : Bool} (hF : F.Ok) (hT : T.Ok) (ht : t.Ok) (h : Iv.has ⟨F, T, oF, oT⟩ t.val) : inC (Rl.cmp F t) (Rl.cmp t T) oF oT = true := (inC_iff hF hT ht).2 h
theorem inC_no {F T t : Rl} {oF oT : Bool} (hF : F.Ok) (hT : T.Ok) (ht : t.Ok) (h : ¬ Iv.has ⟨F, T, oF, oT⟩ t.val) : inC (Rl.cmp F t) (Rl.cmp t T) oF oT = false := by
 have := mt (inC_iff hF hT ht).1 h
 simpa using this
theorem faC_iff {F T : Rl} {oF oT : Bool} (hF : F.Ok) (hT : T.Ok) : (Iv.full ⟨F, T, oF, oT⟩ → faC (Rl.cmp F T) oF oT = 0) ∧ (¬ Iv.full ⟨F, T, oF, oT⟩ → faC (Rl.cmp F T) oF oT = 10) := by
 unfold faC Iv.full
 rcases cmp_cases F T with ⟨e, h⟩ | ⟨e, h⟩ | ⟨e, h⟩ <;> rw [e]
 ·exact ⟨fun _ => by rw [if_neg (by decide), if_neg (by decide)], fun g => absurd (.inl h) g⟩
 ·rw [if_neg (by decide), if_pos rfl]
  refine ⟨?_, ?_⟩
  ·rintro (g | ⟨_, g1, g2⟩)
   ·exact absurd (show F.val < T.val from g) (by rw [h]; exact RR.lt_irrefl _)
   ·have g1 : oF = false := g1
    have g2 : oT = false := g2
    rw [g1, g2]; rfl
  ·intro g
   cases oF
   ·cases oT
    ·exact absurd (.inr ⟨h, rfl, rfl⟩) g
    ·rfl
   ·rfl
 ·rw [if_pos (by decide)]
  refine ⟨?_, fun _ => rfl⟩
  rintro (g | ⟨g, _⟩)
  ·exact absurd (RR.lt_trans h g) (RR.lt_irrefl _)
  ·have g : F.val = T.val := g
   exact absurd h (by rw [g]; exact RR.lt_irrefl _)
theorem cmp_lssF {x y : Rl} (h : ¬ x.val < y.val) : decide (Rl.cmp x y < 0) = false := by
 have := mt (cmp_lss x y).1 h
 simpa using this
end Go.Proofs.YtlblfgbpogljoaaGreatDoor

end
section
/- The package quadratic: the walks of Signs. -/
namespace Go.Proofs.YtlblfgbpogljoaaGreatDoor
open Go Go.RowKit Go.Sy
open Vi
section
variable (a b c : Rat) (F T : Rl) (oF oT : Bool) (H : Sp Tryz.prog 109 [] [ivV F T oF oT] (nV 0) [])
include H
section
variable (R : Sp Tryz.prog 39 [] [qV a b c] (.tuple #[.slice none 0 0, nV 0]) [])
include R
theorem sg_0f (se : Int)
    (PE : Sp Tryz.prog 111 [] [qV a b c, ivV F T oF oT] (pcV (⟨F, T, oF, oT⟩, se)) []) :
    Sp Tryz.prog 44 [] [qV a b c, ivV F T oF oT] (.tuple #[row 0 1, nV 0]) [(1, pcs [(⟨F, T, oF, oT⟩, se)])] := by
 obtain ⟨Fp, Fr, Fn⟩ := F
 obtain ⟨Tp, Tr, Tn⟩ := T
 exact walk (code := Tryz.f44.body.getD .skip) [Sy.c H, Sy.c R, Sy.c H, Sy.c PE] fol Tryz.func44 (by kernel_rfl) (fun xs w => Tryz.call44 xs w) (by kernel_rfl)
end
section
variable (r1 : Rl) (R : Sp Tryz.prog 39 [] [qV a b c] (.tuple #[row 0 1, nV 0]) [(1, rlsC [r1])])
include R
theorem sg_1nf (se : Int)
    (C1 : Sp Tryz.prog 110 [] [ivV F T oF oT, rlV r1] (.bool false) [])
    (E : Sp Tryz.prog 109 [] [ivV F T oF oT] (nV 0) [])
    (PE : Sp Tryz.prog 111 [] [qV a b c, ivV F T oF oT] (pcV (⟨F, T, oF, oT⟩, se)) []) :
    Sp Tryz.prog 44 [] [qV a b c, ivV F T oF oT] (.tuple #[row 0 1, nV 0]) [(1, pcs [(⟨F, T, oF, oT⟩, se)])] := by
 obtain ⟨Fp, Fr, Fn⟩ := F
 obtain ⟨Tp, Tr, Tn⟩ := T
 obtain ⟨r1p, r1r, r1n⟩ := r1
 exact walk (code := Tryz.f44.body.getD .skip) [Sy.c H, cr R, Sy.c C1, Sy.c H, Sy.c PE] fol Tryz.func44 (by kernel_rfl) (fun xs w => Tryz.call44 xs w) (by kernel_rfl)
theorem sg_1lf (s1 se k1 : Int)
    (C1 : Sp Tryz.prog 110 [] [ivV F T oF oT, rlV r1] (.bool true) [])
    (K1 : Sp Tryz.prog 27 [] [rlV F, rlV r1] (nV k1) []) (e1 : decide (k1 < 0) = true)
    (P1 : Sp Tryz.prog 111 [] [qV a b c, ivV F r1 oF true] (pcV (⟨F, r1, oF, true⟩, s1)) [])
    (E : Sp Tryz.prog 109 [] [ivV r1 T true oT] (nV 0) [])
    (PE : Sp Tryz.prog 111 [] [qV a b c, ivV r1 T true oT] (pcV (⟨r1, T, true, oT⟩, se)) []) :
    Sp Tryz.prog 44 [] [qV a b c, ivV F T oF oT] (.tuple #[row 0 3, nV 0]) [(3, pcs [(⟨F, r1, oF, true⟩, s1), (⟨r1, r1, false, false⟩, 0), (⟨r1, T, true, oT⟩, se)])] := by
 obtain ⟨Fp, Fr, Fn⟩ := F
 obtain ⟨Tp, Tr, Tn⟩ := T
 obtain ⟨r1p, r1r, r1n⟩ := r1
 exact walk (code := Tryz.f44.body.getD .skip) [Sy.c H, cr R, Sy.c C1, Sy.c K1, eb e1, Sy.c P1, Sy.c E, Sy.c PE] fol Tryz.func44 (by kernel_rfl) (fun xs w => Tryz.call44 xs w) (by kernel_rfl)
theorem sg_1lx (s1 k1 : Int)
    (C1 : Sp Tryz.prog 110 [] [ivV F T oF oT, rlV r1] (.bool true) [])
    (K1 : Sp Tryz.prog 27 [] [rlV F, rlV r1] (nV k1) []) (e1 : decide (k1 < 0) = true)
    (P1 : Sp Tryz.prog 111 [] [qV a b c, ivV F r1 oF true] (pcV (⟨F, r1, oF, true⟩, s1)) [])
    (E : Sp Tryz.prog 109 [] [ivV r1 T true oT] (nV 10) []) :
    Sp Tryz.prog 44 [] [qV a b c, ivV F T oF oT] (.tuple #[row 0 2, nV 0]) [(2, pcs [(⟨F, r1, oF, true⟩, s1), (⟨r1, r1, false, false⟩, 0)])] := by
 obtain ⟨Fp, Fr, Fn⟩ := F
 obtain ⟨Tp, Tr, Tn⟩ := T
 obtain ⟨r1p, r1r, r1n⟩ := r1
 exact walk (code := Tryz.f44.body.getD .skip) [Sy.c H, cr R, Sy.c C1, Sy.c K1, eb e1, Sy.c P1, Sy.c E] fol Tryz.func44 (by kernel_rfl) (fun xs w => Tryz.call44 xs w) (by kernel_rfl)
theorem sg_1ef (se k1 : Int)
    (C1 : Sp Tryz.prog 110 [] [ivV F T oF oT, rlV r1] (.bool true) [])
    (K1 : Sp Tryz.prog 27 [] [rlV F, rlV r1] (nV k1) []) (e1 : decide (k1 < 0) = false)
    (E : Sp Tryz.prog 109 [] [ivV r1 T true oT] (nV 0) [])
    (PE : Sp Tryz.prog 111 [] [qV a b c, ivV r1 T true oT] (pcV (⟨r1, T, true, oT⟩, se)) []) :
    Sp Tryz.prog 44 [] [qV a b c, ivV F T oF oT] (.tuple #[row 0 2, nV 0]) [(2, pcs [(⟨r1, r1, false, false⟩, 0), (⟨r1, T, true, oT⟩, se)])] := by
 obtain ⟨Fp, Fr, Fn⟩ := F
 obtain ⟨Tp, Tr, Tn⟩ := T
 obtain ⟨r1p, r1r, r1n⟩ := r1
 exact walk (code := Tryz.f44.body.getD .skip) [Sy.c H, cr R, Sy.c C1, Sy.c K1, eb e1, Sy.c E, Sy.c PE] fol Tryz.func44 (by kernel_rfl) (fun xs w => Tryz.call44 xs w) (by kernel_rfl)
theorem sg_1ex (k1 : Int)
    (C1 : Sp Tryz.prog 110 [] [ivV F T oF oT, rlV r1] (.bool true) [])
    (K1 : Sp Tryz.prog 27 [] [rlV F, rlV r1] (nV k1) []) (e1 : decide (k1 < 0) = false)
    (E : Sp Tryz.prog 109 [] [ivV r1 T true oT] (nV 10) []) :
    Sp Tryz.prog 44 [] [qV a b c, ivV F T oF oT] (.tuple #[row 0 1, nV 0]) [(1, pcs [(⟨r1, r1, false, false⟩, 0)])] := by
 obtain ⟨Fp, Fr, Fn⟩ := F
 obtain ⟨Tp, Tr, Tn⟩ := T
 obtain ⟨r1p, r1r, r1n⟩ := r1
 exact walk (code := Tryz.f44.body.getD .skip) [Sy.c H, cr R, Sy.c C1, Sy.c K1, eb e1, Sy.c E] fol Tryz.func44 (by kernel_rfl) (fun xs w => Tryz.call44 xs w) (by kernel_rfl)
end
section
variable (r1 r2 : Rl) (R : Sp Tryz.prog 39 [] [qV a b c] (.tuple #[row 0 2, nV 0]) [(2, rlsC [r1, r2])])
include R
theorem sg_2nnf (se : Int)
    (C1 : Sp Tryz.prog 110 [] [ivV F T oF oT, rlV r1] (.bool false) [])
    (C2 : Sp Tryz.prog 110 [] [ivV F T oF oT, rlV r2] (.bool false) [])
    (E : Sp Tryz.prog 109 [] [ivV F T oF oT] (nV 0) [])
    (PE : Sp Tryz.prog 111 [] [qV a b c, ivV F T oF oT] (pcV (⟨F, T, oF, oT⟩, se)) []) :
    Sp Tryz.prog 44 [] [qV a b c, ivV F T oF oT] (.tuple #[row 0 1, nV 0]) [(1, pcs [(⟨F, T, oF, oT⟩, se)])] := by
 obtain ⟨Fp, Fr, Fn⟩ := F
 obtain ⟨Tp, Tr, Tn⟩ := T
 obtain ⟨r1p, r1r, r1n⟩ := r1
 obtain ⟨r2p, r2r, r2n⟩ := r2
 exact walk (code := Tryz.f44.body.getD .skip) [Sy.c H, cr R, Sy.c C1, Sy.c C2, Sy.c H, Sy.c PE] fol Tryz.func44 (by kernel_rfl) (fun xs w => Tryz.call44 xs w) (by kernel_rfl)
theorem sg_2nlf (s2 se k2 : Int)
    (C1 : Sp Tryz.prog 110 [] [ivV F T oF oT, rlV r1] (.bool false) [])
    (C2 : Sp Tryz.prog 110 [] [ivV F T oF oT, rlV r2] (.bool true) [])
    (K2 : Sp Tryz.prog 27 [] [rlV F, rlV r2] (nV k2) []) (e2 : decide (k2 < 0) = true)
    (P2 : Sp Tryz.prog 111 [] [qV a b c, ivV F r2 oF true] (pcV (⟨F, r2, oF, true⟩, s2)) [])
    (E : Sp Tryz.prog 109 [] [ivV r2 T true oT] (nV 0) [])
    (PE : Sp Tryz.prog 111 [] [qV a b c, ivV r2 T true oT] (pcV (⟨r2, T, true, oT⟩, se)) []) :
    Sp Tryz.prog 44 [] [qV a b c, ivV F T oF oT] (.tuple #[row 0 3, nV 0]) [(3, pcs [(⟨F, r2, oF, true⟩, s2), (⟨r2, r2, false, false⟩, 0), (⟨r2, T, true, oT⟩, se)])] := by
 obtain ⟨Fp, Fr, Fn⟩ := F
 obtain ⟨Tp, Tr, Tn⟩ := T
 obtain ⟨r1p, r1r, r1n⟩ := r1
 obtain ⟨r2p, r2r, r2n⟩ := r2
 exact walk (code := Tryz.f44.body.getD .skip) [Sy.c H, cr R, Sy.c C1, Sy.c C2, Sy.c K2, eb e2, Sy.c P2, Sy.c E, Sy.c PE] fol Tryz.func44 (by kernel_rfl) (fun xs w => Tryz.call44 xs w) (by kernel_rfl)
theorem sg_2nlx (s2 k2 : Int)
    (C1 : Sp Tryz.prog 110 [] [ivV F T oF oT, rlV r1] (.bool false) [])
    (C2 : Sp Tryz.prog 110 [] [ivV F T oF oT, rlV r2] (.bool true) [])
    (K2 : Sp Tryz.prog 27 [] [rlV F, rlV r2] (nV k2) []) (e2 : decide (k2 < 0) = true)
    (P2 : Sp Tryz.prog 111 [] [qV a b c, ivV F r2 oF true] (pcV (⟨F, r2, oF, true⟩, s2)) [])
    (E : Sp Tryz.prog 109 [] [ivV r2 T true oT] (nV 10) []) :
    Sp Tryz.prog 44 [] [qV a b c, ivV F T oF oT] (.tuple #[row 0 2, nV 0]) [(2, pcs [(⟨F, r2, oF, true⟩, s2), (⟨r2, r2, false, false⟩, 0)])] := by
 obtain ⟨Fp, Fr, Fn⟩ := F
 obtain ⟨Tp, Tr, Tn⟩ := T
 obtain ⟨r1p, r1r, r1n⟩ := r1
 obtain ⟨r2p, r2r, r2n⟩ := r2
 exact walk (code := Tryz.f44.body.getD .skip) [Sy.c H, cr R, Sy.c C1, Sy.c C2, Sy.c K2, eb e2, Sy.c P2, Sy.c E] fol Tryz.func44 (by kernel_rfl) (fun xs w => Tryz.call44 xs w) (by kernel_rfl)
theorem sg_2nef (se k2 : Int)
    (C1 : Sp Tryz.prog 110 [] [ivV F T oF oT, rlV r1] (.bool false) [])
    (C2 : Sp Tryz.prog 110 [] [ivV F T oF oT, rlV r2] (.bool true) [])
    (K2 : Sp Tryz.prog 27 [] [rlV F, rlV r2] (nV k2) []) (e2 : decide (k2 < 0) = false)
    (E : Sp Tryz.prog 109 [] [ivV r2 T true oT] (nV 0) [])
    (PE : Sp Tryz.prog 111 [] [qV a b c, ivV r2 T true oT] (pcV (⟨r2, T, true, oT⟩, se)) []) :
    Sp Tryz.prog 44 [] [qV a b c, ivV F T oF oT] (.tuple #[row 0 2, nV 0]) [(2, pcs [(⟨r2, r2, false, false⟩, 0), (⟨r2, T, true, oT⟩, se)])] := by
 obtain ⟨Fp, Fr, Fn⟩ := F
 obtain ⟨Tp, Tr, Tn⟩ := T
 obtain ⟨r1p, r1r, r1n⟩ := r1
 obtain ⟨r2p, r2r, r2n⟩ := r2
 exact walk (code := Tryz.f44.body.getD .skip) [Sy.c H, cr R, Sy.c C1, Sy.c C2, Sy.c K2, eb e2, Sy.c E, Sy.c PE] fol Tryz.func44 (by kernel_rfl) (fun xs w => Tryz.call44 xs w) (by kernel_rfl)
theorem sg_2nex (k2 : Int)
    (C1 : Sp Tryz.prog 110 [] [ivV F T oF oT, rlV r1] (.bool false) [])
    (C2 : Sp Tryz.prog 110 [] [ivV F T oF oT, rlV r2] (.bool true) [])
    (K2 : Sp Tryz.prog 27 [] [rlV F, rlV r2] (nV k2) []) (e2 : decide (k2 < 0) = false)
    (E : Sp Tryz.prog 109 [] [ivV r2 T true oT] (nV 10) []) :
    Sp Tryz.prog 44 [] [qV a b c, ivV F T oF oT] (.tuple #[row 0 1, nV 0]) [(1, pcs [(⟨r2, r2, false, false⟩, 0)])] := by
 obtain ⟨Fp, Fr, Fn⟩ := F
 obtain ⟨Tp, Tr, Tn⟩ := T
 obtain ⟨r1p, r1r, r1n⟩ := r1
 obtain ⟨r2p, r2r, r2n⟩ := r2
 exact walk (code := Tryz.f44.body.getD .skip) [Sy.c H, cr R, Sy.c C1, Sy.c C2, Sy.c K2, eb e2, Sy.c E] fol Tryz.func44 (by kernel_rfl) (fun xs w => Tryz.call44 xs w) (by kernel_rfl)
theorem sg_2lnf (s1 se k1 : Int)
    (C1 : Sp Tryz.prog 110 [] [ivV F T oF oT, rlV r1] (.bool true) [])
    (K1 : Sp Tryz.prog 27 [] [rlV F, rlV r1] (nV k1) []) (e1 : decide (k1 < 0) = true)
    (P1 : Sp Tryz.prog 111 [] [qV a b c, ivV F r1 oF true] (pcV (⟨F, r1, oF, true⟩, s1)) [])
    (C2 : Sp Tryz.prog 110 [] [ivV F T oF oT, rlV r2] (.bool false) [])
    (E : Sp Tryz.prog 109 [] [ivV r1 T true oT] (nV 0) [])
    (PE : Sp Tryz.prog 111 [] [qV a b c, ivV r1 T true oT] (pcV (⟨r1, T, true, oT⟩, se)) []) :
    Sp Tryz.prog 44 [] [qV a b c, ivV F T oF oT] (.tuple #[row 0 3, nV 0]) [(3, pcs [(⟨F, r1, oF, true⟩, s1), (⟨r1, r1, false, false⟩, 0), (⟨r1, T, true, oT⟩, se)])] := by
 obtain ⟨Fp, Fr, Fn⟩ := F
 obtain ⟨Tp, Tr, Tn⟩ := T
 obtain ⟨r1p, r1r, r1n⟩ := r1
 obtain ⟨r2p, r2r, r2n⟩ := r2
 exact walk (code := Tryz.f44.body.getD .skip) [Sy.c H, cr R, Sy.c C1, Sy.c K1, eb e1, Sy.c P1, Sy.c C2, Sy.c E, Sy.c PE] fol Tryz.func44 (by kernel_rfl) (fun xs w => Tryz.call44 xs w) (by kernel_rfl)
theorem sg_2lnx (s1 k1 : Int)
    (C1 : Sp Tryz.prog 110 [] [ivV F T oF oT, rlV r1] (.bool true) [])
    (K1 : Sp Tryz.prog 27 [] [rlV F, rlV r1] (nV k1) []) (e1 : decide (k1 < 0) = true)
    (P1 : Sp Tryz.prog 111 [] [qV a b c, ivV F r1 oF true] (pcV (⟨F, r1, oF, true⟩, s1)) [])
    (C2 : Sp Tryz.prog 110 [] [ivV F T oF oT, rlV r2] (.bool false) [])
    (E : Sp Tryz.prog 109 [] [ivV r1 T true oT] (nV 10) []) :
    Sp Tryz.prog 44 [] [qV a b c, ivV F T oF oT] (.tuple #[row 0 2, nV 0]) [(2, pcs [(⟨F, r1, oF, true⟩, s1), (⟨r1, r1, false, false⟩, 0)])] := by
 obtain ⟨Fp, Fr, Fn⟩ := F
 obtain ⟨Tp, Tr, Tn⟩ := T
 obtain ⟨r1p, r1r, r1n⟩ := r1
 obtain ⟨r2p, r2r, r2n⟩ := r2
 exact walk (code := Tryz.f44.body.getD .skip) [Sy.c H, cr R, Sy.c C1, Sy.c K1, eb e1, Sy.c P1, Sy.c C2, Sy.c E] fol Tryz.func44 (by kernel_rfl) (fun xs w => Tryz.call44 xs w) (by kernel_rfl)
theorem sg_2llf (s1 s2 se k1 k2 : Int)
    (C1 : Sp Tryz.prog 110 [] [ivV F T oF oT, rlV r1] (.bool true) [])
    (K1 : Sp Tryz.prog 27 [] [rlV F, rlV r1] (nV k1) []) (e1 : decide (k1 < 0) = true)
    (P1 : Sp Tryz.prog 111 [] [qV a b c, ivV F r1 oF true] (pcV (⟨F, r1, oF, true⟩, s1)) [])
    (C2 : Sp Tryz.prog 110 [] [ivV F T oF oT, rlV r2] (.bool true) [])
    (K2 : Sp Tryz.prog 27 [] [rlV r1, rlV r2] (nV k2) []) (e2 : decide (k2 < 0) = true)
    (P2 : Sp Tryz.prog 111 [] [qV a b c, ivV r1 r2 true true] (pcV (⟨r1, r2, true, true⟩, s2)) [])
    (E : Sp Tryz.prog 109 [] [ivV r2 T true oT] (nV 0) [])
    (PE : Sp Tryz.prog 111 [] [qV a b c, ivV r2 T true oT] (pcV (⟨r2, T, true, oT⟩, se)) []) :
    Sp Tryz.prog 44 [] [qV a b c, ivV F T oF oT] (.tuple #[row 0 5, nV 0]) [(5, pcs [(⟨F, r1, oF, true⟩, s1), (⟨r1, r1, false, false⟩, 0), (⟨r1, r2, true, true⟩, s2), (⟨r2, r2, false, false⟩, 0), (⟨r2, T, true, oT⟩, se)])] := by
 obtain ⟨Fp, Fr, Fn⟩ := F
 obtain ⟨Tp, Tr, Tn⟩ := T
 obtain ⟨r1p, r1r, r1n⟩ := r1
 obtain ⟨r2p, r2r, r2n⟩ := r2
 exact walk (code := Tryz.f44.body.getD .skip) [Sy.c H, cr R, Sy.c C1, Sy.c K1, eb e1, Sy.c P1, Sy.c C2, Sy.c K2, eb e2, Sy.c P2, Sy.c E, Sy.c PE] fol Tryz.func44 (by kernel_rfl) (fun xs w => Tryz.call44 xs w) (by kernel_rfl)
theorem sg_2llx (s1 s2 k1 k2 : Int)
    (C1 : Sp Tryz.prog 110 [] [ivV F T oF oT, rlV r1] (.bool true) [])
    (K1 : Sp Tryz.prog 27 [] [rlV F, rlV r1] (nV k1) []) (e1 : decide (k1 < 0) = true)
    (P1 : Sp Tryz.prog 111 [] [qV a b c, ivV F r1 oF true] (pcV (⟨F, r1, oF, true⟩, s1)) [])
    (C2 : Sp Tryz.prog 110 [] [ivV F T oF oT, rlV r2] (.bool true) [])
    (K2 : Sp Tryz.prog 27 [] [rlV r1, rlV r2] (nV k2) []) (e2 : decide (k2 < 0) = true)
    (P2 : Sp Tryz.prog 111 [] [qV a b c, ivV r1 r2 true true] (pcV (⟨r1, r2, true, true⟩, s2)) [])
    (E : Sp Tryz.prog 109 [] [ivV r2 T true oT] (nV 10) []) :
    Sp Tryz.prog 44 [] [qV a b c, ivV F T oF oT] (.tuple #[row 0 4, nV 0]) [(4, pcs [(⟨F, r1, oF, true⟩, s1), (⟨r1, r1, false, false⟩, 0), (⟨r1, r2, true, true⟩, s2), (⟨r2, r2, false, false⟩, 0)])] := by
 obtain ⟨Fp, Fr, Fn⟩ := F
 obtain ⟨Tp, Tr, Tn⟩ := T
 obtain ⟨r1p, r1r, r1n⟩ := r1
 obtain ⟨r2p, r2r, r2n⟩ := r2
 exact walk (code := Tryz.f44.body.getD .skip) [Sy.c H, cr R, Sy.c C1, Sy.c K1, eb e1, Sy.c P1, Sy.c C2, Sy.c K2, eb e2, Sy.c P2, Sy.c E] fol Tryz.func44 (by kernel_rfl) (fun xs w => Tryz.call44 xs w) (by kernel_rfl)
theorem sg_2enf (se k1 : Int)
    (C1 : Sp Tryz.prog 110 [] [ivV F T oF oT, rlV r1] (.bool true) [])
    (K1 : Sp Tryz.prog 27 [] [rlV F, rlV r1] (nV k1) []) (e1 : decide (k1 < 0) = false)
    (C2 : Sp Tryz.prog 110 [] [ivV F T oF oT, rlV r2] (.bool false) [])
    (E : Sp Tryz.prog 109 [] [ivV r1 T true oT] (nV 0) [])
    (PE : Sp Tryz.prog 111 [] [qV a b c, ivV r1 T true oT] (pcV (⟨r1, T, true, oT⟩, se)) []) :
    Sp Tryz.prog 44 [] [qV a b c, ivV F T oF oT] (.tuple #[row 0 2, nV 0]) [(2, pcs [(⟨r1, r1, false, false⟩, 0), (⟨r1, T, true, oT⟩, se)])] := by
 obtain ⟨Fp, Fr, Fn⟩ := F
 obtain ⟨Tp, Tr, Tn⟩ := T
 obtain ⟨r1p, r1r, r1n⟩ := r1
 obtain ⟨r2p, r2r, r2n⟩ := r2
 exact walk (code := Tryz.f44.body.getD .skip) [Sy.c H, cr R, Sy.c C1, Sy.c K1, eb e1, Sy.c C2, Sy.c E, Sy.c PE] fol Tryz.func44 (by kernel_rfl) (fun xs w => Tryz.call44 xs w) (by kernel_rfl)
theorem sg_2enx (k1 : Int)
    (C1 : Sp Tryz.prog 110 [] [ivV F T oF oT, rlV r1] (.bool true) [])
    (K1 : Sp Tryz.prog 27 [] [rlV F, rlV r1] (nV k1) []) (e1 : decide (k1 < 0) = false)
    (C2 : Sp Tryz.prog 110 [] [ivV F T oF oT, rlV r2] (.bool false) [])
    (E : Sp Tryz.prog 109 [] [ivV r1 T true oT] (nV 10) []) :
    Sp Tryz.prog 44 [] [qV a b c, ivV F T oF oT] (.tuple #[row 0 1, nV 0]) [(1, pcs [(⟨r1, r1, false, false⟩, 0)])] := by
 obtain ⟨Fp, Fr, Fn⟩ := F
 obtain ⟨Tp, Tr, Tn⟩ := T
 obtain ⟨r1p, r1r, r1n⟩ := r1
 obtain ⟨r2p, r2r, r2n⟩ := r2
 exact walk (code := Tryz.f44.body.getD .skip) [Sy.c H, cr R, Sy.c C1, Sy.c K1, eb e1, Sy.c C2, Sy.c E] fol Tryz.func44 (by kernel_rfl) (fun xs w => Tryz.call44 xs w) (by kernel_rfl)
theorem sg_2elf (s2 se k1 k2 : Int)
    (C1 : Sp Tryz.prog 110 [] [ivV F T oF oT, rlV r1] (.bool true) [])
    (K1 : Sp Tryz.prog 27 [] [rlV F, rlV r1] (nV k1) []) (e1 : decide (k1 < 0) = false)
    (C2 : Sp Tryz.prog 110 [] [ivV F T oF oT, rlV r2] (.bool true) [])
    (K2 : Sp Tryz.prog 27 [] [rlV r1, rlV r2] (nV k2) []) (e2 : decide (k2 < 0) = true)
    (P2 : Sp Tryz.prog 111 [] [qV a b c, ivV r1 r2 true true] (pcV (⟨r1, r2, true, true⟩, s2)) [])
    (E : Sp Tryz.prog 109 [] [ivV r2 T true oT] (nV 0) [])
    (PE : Sp Tryz.prog 111 [] [qV a b c, ivV r2 T true oT] (pcV (⟨r2, T, true, oT⟩, se)) []) :
    Sp Tryz.prog 44 [] [qV a b c, ivV F T oF oT] (.tuple #[row 0 4, nV 0]) [(4, pcs [(⟨r1, r1, false, false⟩, 0), (⟨r1, r2, true, true⟩, s2), (⟨r2, r2, false, false⟩, 0), (⟨r2, T, true, oT⟩, se)])] := by
 obtain ⟨Fp, Fr, Fn⟩ := F
 obtain ⟨Tp, Tr, Tn⟩ := T
 obtain ⟨r1p, r1r, r1n⟩ := r1
 obtain ⟨r2p, r2r, r2n⟩ := r2
 exact walk (code := Tryz.f44.body.getD .skip) [Sy.c H, cr R, Sy.c C1, Sy.c K1, eb e1, Sy.c C2, Sy.c K2, eb e2, Sy.c P2, Sy.c E, Sy.c PE] fol Tryz.func44 (by kernel_rfl) (fun xs w => Tryz.call44 xs w) (by kernel_rfl)
theorem sg_2elx (s2 k1 k2 : Int)
    (C1 : Sp Tryz.prog 110 [] [ivV F T oF oT, rlV r1] (.bool true) [])
    (K1 : Sp Tryz.prog 27 [] [rlV F, rlV r1] (nV k1) []) (e1 : decide (k1 < 0) = false)
    (C2 : Sp Tryz.prog 110 [] [ivV F T oF oT, rlV r2] (.bool true) [])
    (K2 : Sp Tryz.prog 27 [] [rlV r1, rlV r2] (nV k2) []) (e2 : decide (k2 < 0) = true)
    (P2 : Sp Tryz.prog 111 [] [qV a b c, ivV r1 r2 true true] (pcV (⟨r1, r2, true, true⟩, s2)) [])
    (E : Sp Tryz.prog 109 [] [ivV r2 T true oT] (nV 10) []) :
    Sp Tryz.prog 44 [] [qV a b c, ivV F T oF oT] (.tuple #[row 0 3, nV 0]) [(3, pcs [(⟨r1, r1, false, false⟩, 0), (⟨r1, r2, true, true⟩, s2), (⟨r2, r2, false, false⟩, 0)])] := by
 obtain ⟨Fp, Fr, Fn⟩ := F
 obtain ⟨Tp, Tr, Tn⟩ := T
 obtain ⟨r1p, r1r, r1n⟩ := r1
 obtain ⟨r2p, r2r, r2n⟩ := r2
 exact walk (code := Tryz.f44.body.getD .skip) [Sy.c H, cr R, Sy.c C1, Sy.c K1, eb e1, Sy.c C2, Sy.c K2, eb e2, Sy.c P2, Sy.c E] fol Tryz.func44 (by kernel_rfl) (fun xs w => Tryz.call44 xs w) (by kernel_rfl)
end
end
end Go.Proofs.YtlblfgbpogljoaaGreatDoor

end
section
/- Reference 04: the sign between two instants; roots. -/
namespace Go.Proofs.YtlblfgbpogljoaaGreatDoor
open Go Go.RowKit Go.Sy
open Vi
end Go.Proofs.YtlblfgbpogljoaaGreatDoor

end
section
/- Reference 04: the walks of Parts. -/
namespace Go.Proofs.YtlblfgbpogljoaaGreatDoor
open Go Go.RowKit Go.Sy
open Vi
section
variable (a b c : Rat) (F T : Rl) (oF oT : Bool) (d : Int) (D : Sp Tryz.prog 40 [] [qV a b c] (nV d) []) (ed : decide (d < 0) = false)
include D ed
section
variable (R : Sp Tryz.prog 41 [] [qV a b c] (.slice none 0 0) [])
include R
end
section
variable (r1 : Rl) (R : Sp Tryz.prog 41 [] [qV a b c] (row 0 1) [(1, rlsC [r1])])
include R
end
section
variable (r1 r2 : Rl) (R : Sp Tryz.prog 41 [] [qV a b c] (row 0 2) [(2, rlsC [r1, r2])])
include R
end
end
end Go.Proofs.YtlblfgbpogljoaaGreatDoor

end
section
/- Signs and the reference's Parts give the parts. -/
namespace Go.Proofs.YtlblfgbpogljoaaGreatDoor
open Go Go.RowKit Go.Sy
open Vi
theorem uSigns {a b c : Rat} {l : List Rl} (hl : IsRoots a b c l) [ha : HasSz a 2] [hb : HasSz b 2] [hc : HasSz c 2] (hz : ∀ x ∈ l, HasSz x.p 8 ∧ HasSz x.r 8) (inn : Iv) [h1 : HasSz inn.F.p 8] [h2 : HasSz inn.F.r 8] [h3 : HasSz inn.T.p 8] [h4 : HasSz inn.T.r 8] (hF : inn.F.Ok) (hT : inn.T.Ok) (hi : inn.full) :
    Sp Tryz.prog 44 [] [qV a b c, ivV inn.F inn.T inn.oF inn.oT] (.tuple #[row 0 (parts inn (sBt (qval a b c) (sgQ c)) l inn.F inn.oF).length, nV 0]) [((parts inn (sBt (qval a b c) (sgQ c)) l inn.F inn.oF).length, pcs (parts inn (sBt (qval a b c) (sgQ c)) l inn.F inn.oF))] := by
 have ok := hl.ok
 have so := hl.sorted
 have R0 := Rest.start inn l
 have H := ucheck inn.F inn.T inn.oF inn.oT hF hT
 rw [(faC_iff hF hT).1 hi] at H
 have R := uRoots a b c l hl
 have hlen := hl.len
 rcases l with _ | ⟨r1, _ | ⟨r2, _ | ⟨r3, l⟩⟩⟩
 ·clear hlen
  have hx : Iv.full ⟨inn.F, inn.T, inn.oF, inn.oT⟩ := hi
  have PE := upart_end hl hF hT R0 hx
  rw [parts_f hx]
  exact sg_0f (oF := inn.oF) (oT := inn.oT) (R := R) (H := H) (PE := PE)
 ·clear hlen
  have ok1 := ok r1 (by simp)
  obtain ⟨z1, y1⟩ := hz r1 (by simp)
  have C1 := ucontains inn.F inn.T r1 inn.oF inn.oT hF.nonneg hT.nonneg ok1.nonneg
  by_cases g1 : inn.has r1.val
  ·rw [inC_yes hF hT ok1 g1] at C1
   have K1 := qCmp inn.F r1 hF.nonneg ok1.nonneg
   have R1 := R0.take g1 g1.1
   by_cases m1 : inn.F.val < r1.val
   ·have e1 := (cmp_lss inn.F r1).2 m1
    have P1 := upart_mid hl hF ok1 R0 so g1 m1
    by_cases hx : Iv.full ⟨r1, inn.T, true, inn.oT⟩
    ·have E := ucheck r1 inn.T true inn.oT ok1 hT
     rw [(faC_iff ok1 hT).1 hx] at E
     have PE := upart_end hl ok1 hT R1 hx
     rw [parts_l g1 m1, parts_f hx]
     exact sg_1lf (oF := inn.oF) (oT := inn.oT) (R := R) (H := H) (C1 := C1) (K1 := K1) (e1 := e1) (P1 := P1) (E := E) (PE := PE)
    ·have E := ucheck r1 inn.T true inn.oT ok1 hT
     rw [(faC_iff ok1 hT).2 hx] at E
     rw [parts_l g1 m1, parts_x hx]
     exact sg_1lx (oF := inn.oF) (oT := inn.oT) (R := R) (H := H) (C1 := C1) (K1 := K1) (e1 := e1) (P1 := P1) (E := E)
   ·have e1 := cmp_lssF m1
    by_cases hx : Iv.full ⟨r1, inn.T, true, inn.oT⟩
    ·have E := ucheck r1 inn.T true inn.oT ok1 hT
     rw [(faC_iff ok1 hT).1 hx] at E
     have PE := upart_end hl ok1 hT R1 hx
     rw [parts_e g1 m1, parts_f hx]
     exact sg_1ef (oF := inn.oF) (oT := inn.oT) (R := R) (H := H) (C1 := C1) (K1 := K1) (e1 := e1) (E := E) (PE := PE)
    ·have E := ucheck r1 inn.T true inn.oT ok1 hT
     rw [(faC_iff ok1 hT).2 hx] at E
     rw [parts_e g1 m1, parts_x hx]
     exact sg_1ex (oF := inn.oF) (oT := inn.oT) (R := R) (H := H) (C1 := C1) (K1 := K1) (e1 := e1) (E := E)
  ·rw [inC_no hF hT ok1 g1] at C1
   have R1 := R0.skip g1
   have hx : Iv.full ⟨inn.F, inn.T, inn.oF, inn.oT⟩ := hi
   have PE := upart_end hl hF hT R1 hx
   have E := H
   rw [parts_n g1, parts_f hx]
   exact sg_1nf (oF := inn.oF) (oT := inn.oT) (R := R) (H := H) (C1 := C1) (E := E) (PE := PE)
 ·clear hlen
  have ok1 := ok r1 (by simp)
  obtain ⟨z1, y1⟩ := hz r1 (by simp)
  have ok2 := ok r2 (by simp)
  obtain ⟨z2, y2⟩ := hz r2 (by simp)
  have C1 := ucontains inn.F inn.T r1 inn.oF inn.oT hF.nonneg hT.nonneg ok1.nonneg
  by_cases g1 : inn.has r1.val
  ·rw [inC_yes hF hT ok1 g1] at C1
   have K1 := qCmp inn.F r1 hF.nonneg ok1.nonneg
   have R1 := R0.take g1 g1.1
   by_cases m1 : inn.F.val < r1.val
   ·have e1 := (cmp_lss inn.F r1).2 m1
    have P1 := upart_mid hl hF ok1 R0 so g1 m1
    have C2 := ucontains inn.F inn.T r2 inn.oF inn.oT hF.nonneg hT.nonneg ok2.nonneg
    by_cases g2 : inn.has r2.val
    ·rw [inC_yes hF hT ok2 g2] at C2
     have K2 := qCmp r1 r2 ok1.nonneg ok2.nonneg
     have m2 : r1.val < r2.val := (List.pairwise_cons.1 so).1 r2 (by simp)
     have R2 := R1.take g2 (.inl m2)
     have e2 := (cmp_lss r1 r2).2 m2
     have P2 := upart_mid hl ok1 ok2 R1 (List.pairwise_cons.1 so).2 g2 m2
     by_cases hx : Iv.full ⟨r2, inn.T, true, inn.oT⟩
     ·have E := ucheck r2 inn.T true inn.oT ok2 hT
      rw [(faC_iff ok2 hT).1 hx] at E
      have PE := upart_end hl ok2 hT R2 hx
      rw [parts_l g1 m1, parts_l g2 m2, parts_f hx]
      exact sg_2llf (oF := inn.oF) (oT := inn.oT) (R := R) (H := H) (C1 := C1) (K1 := K1) (e1 := e1) (P1 := P1) (C2 := C2) (K2 := K2) (e2 := e2) (P2 := P2) (E := E) (PE := PE)
     ·have E := ucheck r2 inn.T true inn.oT ok2 hT
      rw [(faC_iff ok2 hT).2 hx] at E
      rw [parts_l g1 m1, parts_l g2 m2, parts_x hx]
      exact sg_2llx (oF := inn.oF) (oT := inn.oT) (R := R) (H := H) (C1 := C1) (K1 := K1) (e1 := e1) (P1 := P1) (C2 := C2) (K2 := K2) (e2 := e2) (P2 := P2) (E := E)
    ·rw [inC_no hF hT ok2 g2] at C2
     have R2 := R1.skip g2
     by_cases hx : Iv.full ⟨r1, inn.T, true, inn.oT⟩
     ·have E := ucheck r1 inn.T true inn.oT ok1 hT
      rw [(faC_iff ok1 hT).1 hx] at E
      have PE := upart_end hl ok1 hT R2 hx
      rw [parts_l g1 m1, parts_n g2, parts_f hx]
      exact sg_2lnf (oF := inn.oF) (oT := inn.oT) (R := R) (H := H) (C1 := C1) (K1 := K1) (e1 := e1) (P1 := P1) (C2 := C2) (E := E) (PE := PE)
     ·have E := ucheck r1 inn.T true inn.oT ok1 hT
      rw [(faC_iff ok1 hT).2 hx] at E
      rw [parts_l g1 m1, parts_n g2, parts_x hx]
      exact sg_2lnx (oF := inn.oF) (oT := inn.oT) (R := R) (H := H) (C1 := C1) (K1 := K1) (e1 := e1) (P1 := P1) (C2 := C2) (E := E)
   ·have e1 := cmp_lssF m1
    have C2 := ucontains inn.F inn.T r2 inn.oF inn.oT hF.nonneg hT.nonneg ok2.nonneg
    by_cases g2 : inn.has r2.val
    ·rw [inC_yes hF hT ok2 g2] at C2
     have K2 := qCmp r1 r2 ok1.nonneg ok2.nonneg
     have m2 : r1.val < r2.val := (List.pairwise_cons.1 so).1 r2 (by simp)
     have R2 := R1.take g2 (.inl m2)
     have e2 := (cmp_lss r1 r2).2 m2
     have P2 := upart_mid hl ok1 ok2 R1 (List.pairwise_cons.1 so).2 g2 m2
     by_cases hx : Iv.full ⟨r2, inn.T, true, inn.oT⟩
     ·have E := ucheck r2 inn.T true inn.oT ok2 hT
      rw [(faC_iff ok2 hT).1 hx] at E
      have PE := upart_end hl ok2 hT R2 hx
      rw [parts_e g1 m1, parts_l g2 m2, parts_f hx]
      exact sg_2elf (oF := inn.oF) (oT := inn.oT) (R := R) (H := H) (C1 := C1) (K1 := K1) (e1 := e1) (C2 := C2) (K2 := K2) (e2 := e2) (P2 := P2) (E := E) (PE := PE)
     ·have E := ucheck r2 inn.T true inn.oT ok2 hT
      rw [(faC_iff ok2 hT).2 hx] at E
      rw [parts_e g1 m1, parts_l g2 m2, parts_x hx]
      exact sg_2elx (oF := inn.oF) (oT := inn.oT) (R := R) (H := H) (C1 := C1) (K1 := K1) (e1 := e1) (C2 := C2) (K2 := K2) (e2 := e2) (P2 := P2) (E := E)
    ·rw [inC_no hF hT ok2 g2] at C2
     have R2 := R1.skip g2
     by_cases hx : Iv.full ⟨r1, inn.T, true, inn.oT⟩
     ·have E := ucheck r1 inn.T true inn.oT ok1 hT
      rw [(faC_iff ok1 hT).1 hx] at E
      have PE := upart_end hl ok1 hT R2 hx
      rw [parts_e g1 m1, parts_n g2, parts_f hx]
      exact sg_2enf (oF := inn.oF) (oT := inn.oT) (R := R) (H := H) (C1 := C1) (K1 := K1) (e1 := e1) (C2 := C2) (E := E) (PE := PE)
     ·have E := ucheck r1 inn.T true inn.oT ok1 hT
      rw [(faC_iff ok1 hT).2 hx] at E
      rw [parts_e g1 m1, parts_n g2, parts_x hx]
      exact sg_2enx (oF := inn.oF) (oT := inn.oT) (R := R) (H := H) (C1 := C1) (K1 := K1) (e1 := e1) (C2 := C2) (E := E)
  ·rw [inC_no hF hT ok1 g1] at C1
   have R1 := R0.skip g1
   have C2 := ucontains inn.F inn.T r2 inn.oF inn.oT hF.nonneg hT.nonneg ok2.nonneg
   by_cases g2 : inn.has r2.val
   ·rw [inC_yes hF hT ok2 g2] at C2
    have K2 := qCmp inn.F r2 hF.nonneg ok2.nonneg
    have R2 := R1.take g2 g2.1
    by_cases m2 : inn.F.val < r2.val
    ·have e2 := (cmp_lss inn.F r2).2 m2
     have P2 := upart_mid hl hF ok2 R1 (List.pairwise_cons.1 so).2 g2 m2
     by_cases hx : Iv.full ⟨r2, inn.T, true, inn.oT⟩
     ·have E := ucheck r2 inn.T true inn.oT ok2 hT
      rw [(faC_iff ok2 hT).1 hx] at E
      have PE := upart_end hl ok2 hT R2 hx
      rw [parts_n g1, parts_l g2 m2, parts_f hx]
      exact sg_2nlf (oF := inn.oF) (oT := inn.oT) (R := R) (H := H) (C1 := C1) (C2 := C2) (K2 := K2) (e2 := e2) (P2 := P2) (E := E) (PE := PE)
     ·have E := ucheck r2 inn.T true inn.oT ok2 hT
      rw [(faC_iff ok2 hT).2 hx] at E
      rw [parts_n g1, parts_l g2 m2, parts_x hx]
      exact sg_2nlx (oF := inn.oF) (oT := inn.oT) (R := R) (H := H) (C1 := C1) (C2 := C2) (K2 := K2) (e2 := e2) (P2 := P2) (E := E)
    ·have e2 := cmp_lssF m2
     by_cases hx : Iv.full ⟨r2, inn.T, true, inn.oT⟩
     ·have E := ucheck r2 inn.T true inn.oT ok2 hT
      rw [(faC_iff ok2 hT).1 hx] at E
      have PE := upart_end hl ok2 hT R2 hx
      rw [parts_n g1, parts_e g2 m2, parts_f hx]
      exact sg_2nef (oF := inn.oF) (oT := inn.oT) (R := R) (H := H) (C1 := C1) (C2 := C2) (K2 := K2) (e2 := e2) (E := E) (PE := PE)
     ·have E := ucheck r2 inn.T true inn.oT ok2 hT
      rw [(faC_iff ok2 hT).2 hx] at E
      rw [parts_n g1, parts_e g2 m2, parts_x hx]
      exact sg_2nex (oF := inn.oF) (oT := inn.oT) (R := R) (H := H) (C1 := C1) (C2 := C2) (K2 := K2) (e2 := e2) (E := E)
   ·rw [inC_no hF hT ok2 g2] at C2
    have R2 := R1.skip g2
    have hx : Iv.full ⟨inn.F, inn.T, inn.oF, inn.oT⟩ := hi
    have PE := upart_end hl hF hT R2 hx
    have E := H
    rw [parts_n g1, parts_n g2, parts_f hx]
    exact sg_2nnf (oF := inn.oF) (oT := inn.oT) (R := R) (H := H) (C1 := C1) (C2 := C2) (E := E) (PE := PE)
 ·simp only [List.length_cons] at hlen
  omega
end Go.Proofs.YtlblfgbpogljoaaGreatDoor

end
section
/- Lists of intervals. -/
namespace Go.Proofs.YtlblfgbpogljoaaGreatDoor
open Go Go.RowKit Go.Sy
open Vi
def ivC (i : Iv) : List Value := [.bool (sg i.F.p.num), .string (mg i.F.p.num), .bool (sg (dn i.F.p)), .string (mg (dn i.F.p)), .bool (sg i.F.r.num), .string (mg i.F.r.num), .bool (sg (dn i.F.r)), .string (mg (dn i.F.r)), .bool i.F.neg,
 .bool (sg i.T.p.num), .string (mg i.T.p.num), .bool (sg (dn i.T.p)), .string (mg (dn i.T.p)), .bool (sg i.T.r.num), .string (mg i.T.r.num), .bool (sg (dn i.T.r)), .string (mg (dn i.T.r)), .bool i.T.neg, .bool i.oF, .bool i.oT]
def ivs : List Iv → List Value
 | [] => []
 | i :: l => ivC i ++ ivs l
end Go.Proofs.YtlblfgbpogljoaaGreatDoor

end
section
/- Chapter 4's laws about values, shifts, sums, and functions by their values. -/
namespace Go.Proofs.YtlblfgbpogljoaaGreatDoor
open Go Go.RowKit Go.Sy
open Vi
abbrev coV (n d : Int) : Value := .agg #[.int .i16 n, .int .u8 d]
abbrev fnV (n1 d1 n2 d2 n3 d3 : Int) : Value := .agg #[.int .i16 n1, .int .u8 d1, .int .i16 n2, .int .u8 d2, .int .i16 n3, .int .u8 d3]
abbrev tmV (n1 d1 n2 d2 : Int) (neg : Bool) : Value := .agg #[.int .i16 n1, .int .u8 d1, .int .i16 n2, .int .u8 d2, .bool neg]
theorem QuadraticValues_k (K : Sp Tryz.prog 32 [] [] (.bool true) []) (n1 d1 n2 d2 n3 d3 n4 d4 n5 d5 n6 d6 : Int) (neg : Bool) (h1 : Cn n1 d1) (h2 : Cn n2 d2) (h3 : Cn n3 d3) (h4 : Cn n4 d4) (h5 : Cn n5 d5) (h6 : Cn n6 d6) :
    Sp Tryz.prog 5 [] [fnV n1 d1 n2 d2 n3 d3, coV n4 d4, tmV n5 d5 n6 d6 neg] (.bool true) [] := by
 have Q := wQuad n1 d1 n2 d2 n3 d3 h1 h2 h3
 have W := wRat n4 d4 h4
 have X := wReal n5 d5 n6 d6 neg h5 h6
 have z1 := cf_hs h1
 have z2 := cf_hs h2
 have z3 := cf_hs h3
 have z4 := cf_hs h4
 have ok : (tmR n5 d5 n6 d6 neg).Ok := tmR_ok
 have z5 : HasSz (tmR n5 d5 n6 d6 neg).p 5 := tmR_hsp h5 h6
 have z6 : HasSz (tmR n5 d5 n6 d6 neg).r 2 := tmR_hsr h6
 clear h1 h2 h3 h4 h5 h6
 generalize cf n1 d1 = a at *
 generalize cf n2 d2 = b at *
 generalize cf n3 d3 = c at *
 generalize cf n4 d4 = r at *
 generalize tmR n5 d5 n6 d6 neg = x at *
 have E1 := uEval a b c r
 have E2 := vEval a b c r
 have A1 := uAt a b c x ok.nonneg
 have A2 := vAt a b c x ok
 have S1 := uSignAt a b c x ok.nonneg
 have S2 := vSignAt a b c x ok
 haveI y1 : HasSz (Rl.rat r).p 2 := z4
 haveI y2 : HasSz (Rl.rat r).r 1 := (inferInstance : HasSz (0 : Rat) 1)
 have A3 := uAt a b c (Rl.rat r) Rat.le_refl
 rw [atQ_rat] at A3
 have x1 := same (evQ a b c r)
 have x2 := sameL (atQ a b c x)
 have x3 := sameL (Rl.rat (evQ a b c r))
 unfold Rl.rat at A3 x3
 rw [rlV_rat] at A3 x3
 rw [rlV_rat] at A3
 clear ok z1 z2 z3 z4 z5 z6 y1 y2
 generalize sgR (atQ a b c x).val = s at *
 have e5 : decide (s = s) = true := decide_eq_true rfl
 generalize atQ a b c x = y at *
 generalize evQ a b c r = v at *
 obtain ⟨xp, xr, xn⟩ := x
 exact walk (code := Tryz.f5.body.getD .skip) [Sy.c Q, Sy.c W, Sy.c X, Sy.c K, Sy.c E1, Sy.c E2, Sy.x2 x1, Sy.c A1, Sy.c A2, Sy.x2 x2, Sy.c S1, Sy.c S2, eb e5, Sy.c A3, Sy.c E2, Sy.x2 x3] fol Tryz.func5 (by kernel_rfl) (fun xs w => Tryz.call5 xs w) (by kernel_rfl)
end Go.Proofs.YtlblfgbpogljoaaGreatDoor

end
section
/- Chapter 4: intervals of the laws; equality of intervals; Signs of what is 0 everywhere, or of no interval. -/
namespace Go.Proofs.YtlblfgbpogljoaaGreatDoor
open Go Go.RowKit Go.Sy
open Vi
theorem eqIv_run (d : Nat) (F T F' T' : Rl) (a b a' b' : Bool) (w : World) : (Op.equalIn (d + 5) 32 (ivV F T a b) (ivV F' T' a' b')).run Tryz.prog w = .ok ((open Classical in decide (F = F')) && ((open Classical in decide (T = T')) && ((a == a') && ((b == b') && true)))) w :=
 eqStruct (l := [(30, 0), (30, 9), (4, 18), (4, 19)]) (by kernel_rfl) (by kernel_rfl) (by kernel_rfl)
  (.cons (a := rlV F) (b := rlV F') (by kernel_rfl) (by kernel_rfl) (eqL_run d F F') (.cons (a := rlV T) (b := rlV T') (by kernel_rfl) (by kernel_rfl) (eqL_run d T T')
   (.cons (a := .bool a) (b := .bool a') (by kernel_rfl) (by kernel_rfl) (fun w => run_equalIn_bool w (d + 3) 4 a a' (by kernel_rfl))
    (.cons (a := .bool b) (b := .bool b') (by kernel_rfl) (by kernel_rfl) (fun w => run_equalIn_bool w (d + 3) 4 b b' (by kernel_rfl)) .nil)))) w
theorem sameI (F T : Rl) (a b : Bool) : Bin .eql 32 (ivV F T a b) (ivV F T a b) (.bool true) := by
 have h := binS (T := 32) (fun w => eqIv_run 9995 F T F T a b a b w) (by kernel_rfl)
 simp at h
 exact h
end Go.Proofs.YtlblfgbpogljoaaGreatDoor

end
section
/- The package quadratic: the rounds of extreme. -/
namespace Go.Proofs.YtlblfgbpogljoaaGreatDoor
open Go Go.RowKit Go.Sy
open Vi
def qC (a b c : Rat) : List Value := rC a ++ rC b ++ rC c
def exC (V A : Rl) (m : Bool) : List Value := rlC V ++ rlC A ++ [.bool m]
def exV (V A : Rl) (m : Bool) : Value := .agg ⟨exC V A m⟩
def exZ : List Value := [.bool false, .string ⟨#[]⟩, .bool false, .string ⟨#[]⟩, .bool false, .string ⟨#[]⟩, .bool false, .string ⟨#[]⟩, .bool false, .bool false, .string ⟨#[]⟩, .bool false, .string ⟨#[]⟩, .bool false, .string ⟨#[]⟩, .bool false, .string ⟨#[]⟩, .bool false, .bool false]
abbrev fcV (f : FuncId) : Value := .func (.func f) ⟨[]⟩ ⟨[]⟩
def stX (bf : FuncId) (a b c : Rat) (I : Iv) (n : Nat) (L : List Value) (i : Int) (V A : Rl) (m : Bool) : St :=
 ⟨119, 0, [(2, fcV bf), (3, ptr 0 0), (4, ptr 1 0), (6, ptr 2 0), (7, nV 0), (9, row 3 n), (13, ptr 4 0), (72, row 3 n), (73, nV n), (74, nV i)], junk,
  [(0, blk 67 (qC a b c)), (1, blk 32 (ivC I)), (2, blk 101 exZ), (3, Sy.own 30 9 n L), (4, blk 101 (exC V A m))], 5⟩
def stY (a b c : Rat) (I : Iv) (n : Nat) (L : List Value) (i : Int) (V A : Rl) (m : Bool) : St :=
 ⟨119, 0, [(3, ptr 0 0), (4, ptr 1 0), (6, ptr 2 0), (7, nV 0), (13, ptr 4 0), (95, row 3 n), (96, nV n), (97, nV i)], junk,
  [(0, blk 67 (qC a b c)), (1, blk 32 (ivC I)), (2, blk 101 exZ), (3, Sy.own 30 9 n L), (4, blk 101 (exC V A m))], 5⟩
theorem xa_20t (bf : FuncId) (a b c : Rat) (I : Iv) (t0 t1 V A v : Rl) (At : Sp Tryz.prog 35 [] [qV a b c, rlV t0] (rlV v) []) (B : Sp Tryz.prog bf [] [rlV v, rlV V] (.bool true) []) :
    CodeOk Tryz.prog (nthLoop 0 (Tryz.f114.body.getD .skip)) (stX bf a b c I 2 (rlC t0 ++ rlC t1) 0 V A false) .normal (stX bf a b c I 2 (rlC t0 ++ rlC t1) 1 v t0 false) := by
 unfold stX exC qC rC rlC ivC
 obtain ⟨t0p, t0r, t0n⟩ := t0
 obtain ⟨t1p, t1r, t1n⟩ := t1
 obtain ⟨Vp, Vr, Vn⟩ := V
 obtain ⟨Ap, Ar, An⟩ := A
 obtain ⟨vp, vr, vn⟩ := v
 obtain ⟨⟨p1, q1, n1⟩, ⟨u1, v1, m1⟩, o1, e1⟩ := I
 exact piece [(0, 0), (1, 1), (2, 2), (3, 3), (4, 4)] [Sy.c At, Sy.c B] fol (by kernel_rfl)
theorem xa_20f (bf : FuncId) (a b c : Rat) (I : Iv) (t0 t1 V A v : Rl) (At : Sp Tryz.prog 35 [] [qV a b c, rlV t0] (rlV v) []) (B : Sp Tryz.prog bf [] [rlV v, rlV V] (.bool false) []) :
    CodeOk Tryz.prog (nthLoop 0 (Tryz.f114.body.getD .skip)) (stX bf a b c I 2 (rlC t0 ++ rlC t1) 0 V A false) .normal (stX bf a b c I 2 (rlC t0 ++ rlC t1) 1 V A false) := by
 unfold stX exC qC rC rlC ivC
 obtain ⟨t0p, t0r, t0n⟩ := t0
 obtain ⟨t1p, t1r, t1n⟩ := t1
 obtain ⟨Vp, Vr, Vn⟩ := V
 obtain ⟨Ap, Ar, An⟩ := A
 obtain ⟨vp, vr, vn⟩ := v
 obtain ⟨⟨p1, q1, n1⟩, ⟨u1, v1, m1⟩, o1, e1⟩ := I
 exact piece [(0, 0), (1, 1), (2, 2), (3, 3), (4, 4)] [Sy.c At, Sy.c B] fol (by kernel_rfl)
theorem xa_21t (bf : FuncId) (a b c : Rat) (I : Iv) (t0 t1 V A v : Rl) (At : Sp Tryz.prog 35 [] [qV a b c, rlV t1] (rlV v) []) (B : Sp Tryz.prog bf [] [rlV v, rlV V] (.bool true) []) :
    CodeOk Tryz.prog (nthLoop 0 (Tryz.f114.body.getD .skip)) (stX bf a b c I 2 (rlC t0 ++ rlC t1) 1 V A false) .normal (stX bf a b c I 2 (rlC t0 ++ rlC t1) 2 v t1 false) := by
 unfold stX exC qC rC rlC ivC
 obtain ⟨t0p, t0r, t0n⟩ := t0
 obtain ⟨t1p, t1r, t1n⟩ := t1
 obtain ⟨Vp, Vr, Vn⟩ := V
 obtain ⟨Ap, Ar, An⟩ := A
 obtain ⟨vp, vr, vn⟩ := v
 obtain ⟨⟨p1, q1, n1⟩, ⟨u1, v1, m1⟩, o1, e1⟩ := I
 exact piece [(0, 0), (1, 1), (2, 2), (3, 3), (4, 4)] [Sy.c At, Sy.c B] fol (by kernel_rfl)
theorem xa_21f (bf : FuncId) (a b c : Rat) (I : Iv) (t0 t1 V A v : Rl) (At : Sp Tryz.prog 35 [] [qV a b c, rlV t1] (rlV v) []) (B : Sp Tryz.prog bf [] [rlV v, rlV V] (.bool false) []) :
    CodeOk Tryz.prog (nthLoop 0 (Tryz.f114.body.getD .skip)) (stX bf a b c I 2 (rlC t0 ++ rlC t1) 1 V A false) .normal (stX bf a b c I 2 (rlC t0 ++ rlC t1) 2 V A false) := by
 unfold stX exC qC rC rlC ivC
 obtain ⟨t0p, t0r, t0n⟩ := t0
 obtain ⟨t1p, t1r, t1n⟩ := t1
 obtain ⟨Vp, Vr, Vn⟩ := V
 obtain ⟨Ap, Ar, An⟩ := A
 obtain ⟨vp, vr, vn⟩ := v
 obtain ⟨⟨p1, q1, n1⟩, ⟨u1, v1, m1⟩, o1, e1⟩ := I
 exact piece [(0, 0), (1, 1), (2, 2), (3, 3), (4, 4)] [Sy.c At, Sy.c B] fol (by kernel_rfl)
theorem xa_2x (bf : FuncId) (a b c : Rat) (I : Iv) (t0 t1 V A : Rl) : CodeOk Tryz.prog (nthLoop 0 (Tryz.f114.body.getD .skip)) (stX bf a b c I 2 (rlC t0 ++ rlC t1) 2 V A false) (.exit 0) (stX bf a b c I 2 (rlC t0 ++ rlC t1) 2 V A false) := by
 unfold stX exC qC rC rlC ivC
 obtain ⟨t0p, t0r, t0n⟩ := t0
 obtain ⟨t1p, t1r, t1n⟩ := t1
 obtain ⟨Vp, Vr, Vn⟩ := V
 obtain ⟨Ap, Ar, An⟩ := A
 obtain ⟨⟨p1, q1, n1⟩, ⟨u1, v1, m1⟩, o1, e1⟩ := I
 exact piece [(0, 0), (1, 1), (2, 2), (3, 3), (4, 4)] [] fol (by kernel_rfl)
theorem xb_20s (a b c : Rat) (I : Iv) (t0 t1 V A v : Rl) :
    CodeOk Tryz.prog (nthLoop 1 (Tryz.f114.body.getD .skip)) (stY a b c I 2 (rlC t0 ++ rlC t1) 0 V A true) .normal (stY a b c I 2 (rlC t0 ++ rlC t1) 1 V A true) := by
 unfold stY exC qC rC rlC ivC
 obtain ⟨t0p, t0r, t0n⟩ := t0
 obtain ⟨t1p, t1r, t1n⟩ := t1
 obtain ⟨Vp, Vr, Vn⟩ := V
 obtain ⟨Ap, Ar, An⟩ := A
 obtain ⟨vp, vr, vn⟩ := v
 obtain ⟨⟨p1, q1, n1⟩, ⟨u1, v1, m1⟩, o1, e1⟩ := I
 exact piece [(0, 0), (1, 1), (2, 2), (3, 3), (4, 4)] [] fol (by kernel_rfl)
theorem xb_20n (a b c : Rat) (I : Iv) (t0 t1 V A v : Rl) (C : Sp Tryz.prog 110 [] [ivV I.F I.T I.oF I.oT, rlV t0] (.bool false) []) :
    CodeOk Tryz.prog (nthLoop 1 (Tryz.f114.body.getD .skip)) (stY a b c I 2 (rlC t0 ++ rlC t1) 0 V A false) .normal (stY a b c I 2 (rlC t0 ++ rlC t1) 1 V A false) := by
 unfold stY exC qC rC rlC ivC
 obtain ⟨t0p, t0r, t0n⟩ := t0
 obtain ⟨t1p, t1r, t1n⟩ := t1
 obtain ⟨Vp, Vr, Vn⟩ := V
 obtain ⟨Ap, Ar, An⟩ := A
 obtain ⟨vp, vr, vn⟩ := v
 obtain ⟨⟨p1, q1, n1⟩, ⟨u1, v1, m1⟩, o1, e1⟩ := I
 exact piece [(0, 0), (1, 1), (2, 2), (3, 3), (4, 4)] [Sy.c C] fol (by kernel_rfl)
theorem xb_20f (a b c : Rat) (I : Iv) (t0 t1 V A v : Rl) (C : Sp Tryz.prog 110 [] [ivV I.F I.T I.oF I.oT, rlV t0] (.bool true) []) (At : Sp Tryz.prog 35 [] [qV a b c, rlV t0] (rlV v) []) (E : Bin .eql 30 (rlV v) (rlV V) (.bool false)) :
    CodeOk Tryz.prog (nthLoop 1 (Tryz.f114.body.getD .skip)) (stY a b c I 2 (rlC t0 ++ rlC t1) 0 V A false) .normal (stY a b c I 2 (rlC t0 ++ rlC t1) 1 V A false) := by
 unfold stY exC qC rC rlC ivC
 obtain ⟨t0p, t0r, t0n⟩ := t0
 obtain ⟨t1p, t1r, t1n⟩ := t1
 obtain ⟨Vp, Vr, Vn⟩ := V
 obtain ⟨Ap, Ar, An⟩ := A
 obtain ⟨vp, vr, vn⟩ := v
 obtain ⟨⟨p1, q1, n1⟩, ⟨u1, v1, m1⟩, o1, e1⟩ := I
 exact piece [(0, 0), (1, 1), (2, 2), (3, 3), (4, 4)] [Sy.c C, Sy.c At, x2 E] fol (by kernel_rfl)
theorem xb_20t (a b c : Rat) (I : Iv) (t0 t1 V A v : Rl) (C : Sp Tryz.prog 110 [] [ivV I.F I.T I.oF I.oT, rlV t0] (.bool true) []) (At : Sp Tryz.prog 35 [] [qV a b c, rlV t0] (rlV v) []) (E : Bin .eql 30 (rlV v) (rlV V) (.bool true)) :
    CodeOk Tryz.prog (nthLoop 1 (Tryz.f114.body.getD .skip)) (stY a b c I 2 (rlC t0 ++ rlC t1) 0 V A false) .normal (stY a b c I 2 (rlC t0 ++ rlC t1) 1 V A true) := by
 unfold stY exC qC rC rlC ivC
 obtain ⟨t0p, t0r, t0n⟩ := t0
 obtain ⟨t1p, t1r, t1n⟩ := t1
 obtain ⟨Vp, Vr, Vn⟩ := V
 obtain ⟨Ap, Ar, An⟩ := A
 obtain ⟨vp, vr, vn⟩ := v
 obtain ⟨⟨p1, q1, n1⟩, ⟨u1, v1, m1⟩, o1, e1⟩ := I
 exact piece [(0, 0), (1, 1), (2, 2), (3, 3), (4, 4)] [Sy.c C, Sy.c At, x2 E] fol (by kernel_rfl)
theorem xb_21s (a b c : Rat) (I : Iv) (t0 t1 V A v : Rl) :
    CodeOk Tryz.prog (nthLoop 1 (Tryz.f114.body.getD .skip)) (stY a b c I 2 (rlC t0 ++ rlC t1) 1 V A true) .normal (stY a b c I 2 (rlC t0 ++ rlC t1) 2 V A true) := by
 unfold stY exC qC rC rlC ivC
 obtain ⟨t0p, t0r, t0n⟩ := t0
 obtain ⟨t1p, t1r, t1n⟩ := t1
 obtain ⟨Vp, Vr, Vn⟩ := V
 obtain ⟨Ap, Ar, An⟩ := A
 obtain ⟨vp, vr, vn⟩ := v
 obtain ⟨⟨p1, q1, n1⟩, ⟨u1, v1, m1⟩, o1, e1⟩ := I
 exact piece [(0, 0), (1, 1), (2, 2), (3, 3), (4, 4)] [] fol (by kernel_rfl)
theorem xb_21n (a b c : Rat) (I : Iv) (t0 t1 V A v : Rl) (C : Sp Tryz.prog 110 [] [ivV I.F I.T I.oF I.oT, rlV t1] (.bool false) []) :
    CodeOk Tryz.prog (nthLoop 1 (Tryz.f114.body.getD .skip)) (stY a b c I 2 (rlC t0 ++ rlC t1) 1 V A false) .normal (stY a b c I 2 (rlC t0 ++ rlC t1) 2 V A false) := by
 unfold stY exC qC rC rlC ivC
 obtain ⟨t0p, t0r, t0n⟩ := t0
 obtain ⟨t1p, t1r, t1n⟩ := t1
 obtain ⟨Vp, Vr, Vn⟩ := V
 obtain ⟨Ap, Ar, An⟩ := A
 obtain ⟨vp, vr, vn⟩ := v
 obtain ⟨⟨p1, q1, n1⟩, ⟨u1, v1, m1⟩, o1, e1⟩ := I
 exact piece [(0, 0), (1, 1), (2, 2), (3, 3), (4, 4)] [Sy.c C] fol (by kernel_rfl)
theorem xb_21f (a b c : Rat) (I : Iv) (t0 t1 V A v : Rl) (C : Sp Tryz.prog 110 [] [ivV I.F I.T I.oF I.oT, rlV t1] (.bool true) []) (At : Sp Tryz.prog 35 [] [qV a b c, rlV t1] (rlV v) []) (E : Bin .eql 30 (rlV v) (rlV V) (.bool false)) :
    CodeOk Tryz.prog (nthLoop 1 (Tryz.f114.body.getD .skip)) (stY a b c I 2 (rlC t0 ++ rlC t1) 1 V A false) .normal (stY a b c I 2 (rlC t0 ++ rlC t1) 2 V A false) := by
 unfold stY exC qC rC rlC ivC
 obtain ⟨t0p, t0r, t0n⟩ := t0
 obtain ⟨t1p, t1r, t1n⟩ := t1
 obtain ⟨Vp, Vr, Vn⟩ := V
 obtain ⟨Ap, Ar, An⟩ := A
 obtain ⟨vp, vr, vn⟩ := v
 obtain ⟨⟨p1, q1, n1⟩, ⟨u1, v1, m1⟩, o1, e1⟩ := I
 exact piece [(0, 0), (1, 1), (2, 2), (3, 3), (4, 4)] [Sy.c C, Sy.c At, x2 E] fol (by kernel_rfl)
theorem xb_21t (a b c : Rat) (I : Iv) (t0 t1 V A v : Rl) (C : Sp Tryz.prog 110 [] [ivV I.F I.T I.oF I.oT, rlV t1] (.bool true) []) (At : Sp Tryz.prog 35 [] [qV a b c, rlV t1] (rlV v) []) (E : Bin .eql 30 (rlV v) (rlV V) (.bool true)) :
    CodeOk Tryz.prog (nthLoop 1 (Tryz.f114.body.getD .skip)) (stY a b c I 2 (rlC t0 ++ rlC t1) 1 V A false) .normal (stY a b c I 2 (rlC t0 ++ rlC t1) 2 V A true) := by
 unfold stY exC qC rC rlC ivC
 obtain ⟨t0p, t0r, t0n⟩ := t0
 obtain ⟨t1p, t1r, t1n⟩ := t1
 obtain ⟨Vp, Vr, Vn⟩ := V
 obtain ⟨Ap, Ar, An⟩ := A
 obtain ⟨vp, vr, vn⟩ := v
 obtain ⟨⟨p1, q1, n1⟩, ⟨u1, v1, m1⟩, o1, e1⟩ := I
 exact piece [(0, 0), (1, 1), (2, 2), (3, 3), (4, 4)] [Sy.c C, Sy.c At, x2 E] fol (by kernel_rfl)
theorem xb_2x (a b c : Rat) (I : Iv) (t0 t1 V A : Rl) (m : Bool) : CodeOk Tryz.prog (nthLoop 1 (Tryz.f114.body.getD .skip)) (stY a b c I 2 (rlC t0 ++ rlC t1) 2 V A m) (.exit 2) (stY a b c I 2 (rlC t0 ++ rlC t1) 2 V A m) := by
 unfold stY exC qC rC rlC ivC
 obtain ⟨t0p, t0r, t0n⟩ := t0
 obtain ⟨t1p, t1r, t1n⟩ := t1
 obtain ⟨Vp, Vr, Vn⟩ := V
 obtain ⟨Ap, Ar, An⟩ := A
 obtain ⟨⟨p1, q1, n1⟩, ⟨u1, v1, m1⟩, o1, e1⟩ := I
 exact piece [(0, 0), (1, 1), (2, 2), (3, 3), (4, 4)] [] fol (by kernel_rfl)
theorem xa_30t (bf : FuncId) (a b c : Rat) (I : Iv) (t0 t1 t2 V A v : Rl) (At : Sp Tryz.prog 35 [] [qV a b c, rlV t0] (rlV v) []) (B : Sp Tryz.prog bf [] [rlV v, rlV V] (.bool true) []) :
    CodeOk Tryz.prog (nthLoop 0 (Tryz.f114.body.getD .skip)) (stX bf a b c I 3 (rlC t0 ++ rlC t1 ++ rlC t2) 0 V A false) .normal (stX bf a b c I 3 (rlC t0 ++ rlC t1 ++ rlC t2) 1 v t0 false) := by
 unfold stX exC qC rC rlC ivC
 obtain ⟨t0p, t0r, t0n⟩ := t0
 obtain ⟨t1p, t1r, t1n⟩ := t1
 obtain ⟨t2p, t2r, t2n⟩ := t2
 obtain ⟨Vp, Vr, Vn⟩ := V
 obtain ⟨Ap, Ar, An⟩ := A
 obtain ⟨vp, vr, vn⟩ := v
 obtain ⟨⟨p1, q1, n1⟩, ⟨u1, v1, m1⟩, o1, e1⟩ := I
 exact piece [(0, 0), (1, 1), (2, 2), (3, 3), (4, 4)] [Sy.c At, Sy.c B] fol (by kernel_rfl)
theorem xa_30f (bf : FuncId) (a b c : Rat) (I : Iv) (t0 t1 t2 V A v : Rl) (At : Sp Tryz.prog 35 [] [qV a b c, rlV t0] (rlV v) []) (B : Sp Tryz.prog bf [] [rlV v, rlV V] (.bool false) []) :
    CodeOk Tryz.prog (nthLoop 0 (Tryz.f114.body.getD .skip)) (stX bf a b c I 3 (rlC t0 ++ rlC t1 ++ rlC t2) 0 V A false) .normal (stX bf a b c I 3 (rlC t0 ++ rlC t1 ++ rlC t2) 1 V A false) := by
 unfold stX exC qC rC rlC ivC
 obtain ⟨t0p, t0r, t0n⟩ := t0
 obtain ⟨t1p, t1r, t1n⟩ := t1
 obtain ⟨t2p, t2r, t2n⟩ := t2
 obtain ⟨Vp, Vr, Vn⟩ := V
 obtain ⟨Ap, Ar, An⟩ := A
 obtain ⟨vp, vr, vn⟩ := v
 obtain ⟨⟨p1, q1, n1⟩, ⟨u1, v1, m1⟩, o1, e1⟩ := I
 exact piece [(0, 0), (1, 1), (2, 2), (3, 3), (4, 4)] [Sy.c At, Sy.c B] fol (by kernel_rfl)
theorem xa_31t (bf : FuncId) (a b c : Rat) (I : Iv) (t0 t1 t2 V A v : Rl) (At : Sp Tryz.prog 35 [] [qV a b c, rlV t1] (rlV v) []) (B : Sp Tryz.prog bf [] [rlV v, rlV V] (.bool true) []) :
    CodeOk Tryz.prog (nthLoop 0 (Tryz.f114.body.getD .skip)) (stX bf a b c I 3 (rlC t0 ++ rlC t1 ++ rlC t2) 1 V A false) .normal (stX bf a b c I 3 (rlC t0 ++ rlC t1 ++ rlC t2) 2 v t1 false) := by
 unfold stX exC qC rC rlC ivC
 obtain ⟨t0p, t0r, t0n⟩ := t0
 obtain ⟨t1p, t1r, t1n⟩ := t1
 obtain ⟨t2p, t2r, t2n⟩ := t2
 obtain ⟨Vp, Vr, Vn⟩ := V
 obtain ⟨Ap, Ar, An⟩ := A
 obtain ⟨vp, vr, vn⟩ := v
 obtain ⟨⟨p1, q1, n1⟩, ⟨u1, v1, m1⟩, o1, e1⟩ := I
 exact piece [(0, 0), (1, 1), (2, 2), (3, 3), (4, 4)] [Sy.c At, Sy.c B] fol (by kernel_rfl)
theorem xa_31f (bf : FuncId) (a b c : Rat) (I : Iv) (t0 t1 t2 V A v : Rl) (At : Sp Tryz.prog 35 [] [qV a b c, rlV t1] (rlV v) []) (B : Sp Tryz.prog bf [] [rlV v, rlV V] (.bool false) []) :
    CodeOk Tryz.prog (nthLoop 0 (Tryz.f114.body.getD .skip)) (stX bf a b c I 3 (rlC t0 ++ rlC t1 ++ rlC t2) 1 V A false) .normal (stX bf a b c I 3 (rlC t0 ++ rlC t1 ++ rlC t2) 2 V A false) := by
 unfold stX exC qC rC rlC ivC
 obtain ⟨t0p, t0r, t0n⟩ := t0
 obtain ⟨t1p, t1r, t1n⟩ := t1
 obtain ⟨t2p, t2r, t2n⟩ := t2
 obtain ⟨Vp, Vr, Vn⟩ := V
 obtain ⟨Ap, Ar, An⟩ := A
 obtain ⟨vp, vr, vn⟩ := v
 obtain ⟨⟨p1, q1, n1⟩, ⟨u1, v1, m1⟩, o1, e1⟩ := I
 exact piece [(0, 0), (1, 1), (2, 2), (3, 3), (4, 4)] [Sy.c At, Sy.c B] fol (by kernel_rfl)
theorem xa_32t (bf : FuncId) (a b c : Rat) (I : Iv) (t0 t1 t2 V A v : Rl) (At : Sp Tryz.prog 35 [] [qV a b c, rlV t2] (rlV v) []) (B : Sp Tryz.prog bf [] [rlV v, rlV V] (.bool true) []) :
    CodeOk Tryz.prog (nthLoop 0 (Tryz.f114.body.getD .skip)) (stX bf a b c I 3 (rlC t0 ++ rlC t1 ++ rlC t2) 2 V A false) .normal (stX bf a b c I 3 (rlC t0 ++ rlC t1 ++ rlC t2) 3 v t2 false) := by
 unfold stX exC qC rC rlC ivC
 obtain ⟨t0p, t0r, t0n⟩ := t0
 obtain ⟨t1p, t1r, t1n⟩ := t1
 obtain ⟨t2p, t2r, t2n⟩ := t2
 obtain ⟨Vp, Vr, Vn⟩ := V
 obtain ⟨Ap, Ar, An⟩ := A
 obtain ⟨vp, vr, vn⟩ := v
 obtain ⟨⟨p1, q1, n1⟩, ⟨u1, v1, m1⟩, o1, e1⟩ := I
 exact piece [(0, 0), (1, 1), (2, 2), (3, 3), (4, 4)] [Sy.c At, Sy.c B] fol (by kernel_rfl)
theorem xa_32f (bf : FuncId) (a b c : Rat) (I : Iv) (t0 t1 t2 V A v : Rl) (At : Sp Tryz.prog 35 [] [qV a b c, rlV t2] (rlV v) []) (B : Sp Tryz.prog bf [] [rlV v, rlV V] (.bool false) []) :
    CodeOk Tryz.prog (nthLoop 0 (Tryz.f114.body.getD .skip)) (stX bf a b c I 3 (rlC t0 ++ rlC t1 ++ rlC t2) 2 V A false) .normal (stX bf a b c I 3 (rlC t0 ++ rlC t1 ++ rlC t2) 3 V A false) := by
 unfold stX exC qC rC rlC ivC
 obtain ⟨t0p, t0r, t0n⟩ := t0
 obtain ⟨t1p, t1r, t1n⟩ := t1
 obtain ⟨t2p, t2r, t2n⟩ := t2
 obtain ⟨Vp, Vr, Vn⟩ := V
 obtain ⟨Ap, Ar, An⟩ := A
 obtain ⟨vp, vr, vn⟩ := v
 obtain ⟨⟨p1, q1, n1⟩, ⟨u1, v1, m1⟩, o1, e1⟩ := I
 exact piece [(0, 0), (1, 1), (2, 2), (3, 3), (4, 4)] [Sy.c At, Sy.c B] fol (by kernel_rfl)
theorem xa_3x (bf : FuncId) (a b c : Rat) (I : Iv) (t0 t1 t2 V A : Rl) : CodeOk Tryz.prog (nthLoop 0 (Tryz.f114.body.getD .skip)) (stX bf a b c I 3 (rlC t0 ++ rlC t1 ++ rlC t2) 3 V A false) (.exit 0) (stX bf a b c I 3 (rlC t0 ++ rlC t1 ++ rlC t2) 3 V A false) := by
 unfold stX exC qC rC rlC ivC
 obtain ⟨t0p, t0r, t0n⟩ := t0
 obtain ⟨t1p, t1r, t1n⟩ := t1
 obtain ⟨t2p, t2r, t2n⟩ := t2
 obtain ⟨Vp, Vr, Vn⟩ := V
 obtain ⟨Ap, Ar, An⟩ := A
 obtain ⟨⟨p1, q1, n1⟩, ⟨u1, v1, m1⟩, o1, e1⟩ := I
 exact piece [(0, 0), (1, 1), (2, 2), (3, 3), (4, 4)] [] fol (by kernel_rfl)
theorem xb_30s (a b c : Rat) (I : Iv) (t0 t1 t2 V A v : Rl) :
    CodeOk Tryz.prog (nthLoop 1 (Tryz.f114.body.getD .skip)) (stY a b c I 3 (rlC t0 ++ rlC t1 ++ rlC t2) 0 V A true) .normal (stY a b c I 3 (rlC t0 ++ rlC t1 ++ rlC t2) 1 V A true) := by
 unfold stY exC qC rC rlC ivC
 obtain ⟨t0p, t0r, t0n⟩ := t0
 obtain ⟨t1p, t1r, t1n⟩ := t1
 obtain ⟨t2p, t2r, t2n⟩ := t2
 obtain ⟨Vp, Vr, Vn⟩ := V
 obtain ⟨Ap, Ar, An⟩ := A
 obtain ⟨vp, vr, vn⟩ := v
 obtain ⟨⟨p1, q1, n1⟩, ⟨u1, v1, m1⟩, o1, e1⟩ := I
 exact piece [(0, 0), (1, 1), (2, 2), (3, 3), (4, 4)] [] fol (by kernel_rfl)
theorem xb_30n (a b c : Rat) (I : Iv) (t0 t1 t2 V A v : Rl) (C : Sp Tryz.prog 110 [] [ivV I.F I.T I.oF I.oT, rlV t0] (.bool false) []) :
    CodeOk Tryz.prog (nthLoop 1 (Tryz.f114.body.getD .skip)) (stY a b c I 3 (rlC t0 ++ rlC t1 ++ rlC t2) 0 V A false) .normal (stY a b c I 3 (rlC t0 ++ rlC t1 ++ rlC t2) 1 V A false) := by
 unfold stY exC qC rC rlC ivC
 obtain ⟨t0p, t0r, t0n⟩ := t0
 obtain ⟨t1p, t1r, t1n⟩ := t1
 obtain ⟨t2p, t2r, t2n⟩ := t2
 obtain ⟨Vp, Vr, Vn⟩ := V
 obtain ⟨Ap, Ar, An⟩ := A
 obtain ⟨vp, vr, vn⟩ := v
 obtain ⟨⟨p1, q1, n1⟩, ⟨u1, v1, m1⟩, o1, e1⟩ := I
 exact piece [(0, 0), (1, 1), (2, 2), (3, 3), (4, 4)] [Sy.c C] fol (by kernel_rfl)
theorem xb_30f (a b c : Rat) (I : Iv) (t0 t1 t2 V A v : Rl) (C : Sp Tryz.prog 110 [] [ivV I.F I.T I.oF I.oT, rlV t0] (.bool true) []) (At : Sp Tryz.prog 35 [] [qV a b c, rlV t0] (rlV v) []) (E : Bin .eql 30 (rlV v) (rlV V) (.bool false)) :
    CodeOk Tryz.prog (nthLoop 1 (Tryz.f114.body.getD .skip)) (stY a b c I 3 (rlC t0 ++ rlC t1 ++ rlC t2) 0 V A false) .normal (stY a b c I 3 (rlC t0 ++ rlC t1 ++ rlC t2) 1 V A false) := by
 unfold stY exC qC rC rlC ivC
 obtain ⟨t0p, t0r, t0n⟩ := t0
 obtain ⟨t1p, t1r, t1n⟩ := t1
 obtain ⟨t2p, t2r, t2n⟩ := t2
 obtain ⟨Vp, Vr, Vn⟩ := V
 obtain ⟨Ap, Ar, An⟩ := A
 obtain ⟨vp, vr, vn⟩ := v
 obtain ⟨⟨p1, q1, n1⟩, ⟨u1, v1, m1⟩, o1, e1⟩ := I
 exact piece [(0, 0), (1, 1), (2, 2), (3, 3), (4, 4)] [Sy.c C, Sy.c At, x2 E] fol (by kernel_rfl)
theorem xb_30t (a b c : Rat) (I : Iv) (t0 t1 t2 V A v : Rl) (C : Sp Tryz.prog 110 [] [ivV I.F I.T I.oF I.oT, rlV t0] (.bool true) []) (At : Sp Tryz.prog 35 [] [qV a b c, rlV t0] (rlV v) []) (E : Bin .eql 30 (rlV v) (rlV V) (.bool true)) :
    CodeOk Tryz.prog (nthLoop 1 (Tryz.f114.body.getD .skip)) (stY a b c I 3 (rlC t0 ++ rlC t1 ++ rlC t2) 0 V A false) .normal (stY a b c I 3 (rlC t0 ++ rlC t1 ++ rlC t2) 1 V A true) := by
 unfold stY exC qC rC rlC ivC
 obtain ⟨t0p, t0r, t0n⟩ := t0
 obtain ⟨t1p, t1r, t1n⟩ := t1
 obtain ⟨t2p, t2r, t2n⟩ := t2
 obtain ⟨Vp, Vr, Vn⟩ := V
 obtain ⟨Ap, Ar, An⟩ := A
 obtain ⟨vp, vr, vn⟩ := v
 obtain ⟨⟨p1, q1, n1⟩, ⟨u1, v1, m1⟩, o1, e1⟩ := I
 exact piece [(0, 0), (1, 1), (2, 2), (3, 3), (4, 4)] [Sy.c C, Sy.c At, x2 E] fol (by kernel_rfl)
theorem xb_31s (a b c : Rat) (I : Iv) (t0 t1 t2 V A v : Rl) :
    CodeOk Tryz.prog (nthLoop 1 (Tryz.f114.body.getD .skip)) (stY a b c I 3 (rlC t0 ++ rlC t1 ++ rlC t2) 1 V A true) .normal (stY a b c I 3 (rlC t0 ++ rlC t1 ++ rlC t2) 2 V A true) := by
 unfold stY exC qC rC rlC ivC
 obtain ⟨t0p, t0r, t0n⟩ := t0
 obtain ⟨t1p, t1r, t1n⟩ := t1
 obtain ⟨t2p, t2r, t2n⟩ := t2
 obtain ⟨Vp, Vr, Vn⟩ := V
 obtain ⟨Ap, Ar, An⟩ := A
 obtain ⟨vp, vr, vn⟩ := v
 obtain ⟨⟨p1, q1, n1⟩, ⟨u1, v1, m1⟩, o1, e1⟩ := I
 exact piece [(0, 0), (1, 1), (2, 2), (3, 3), (4, 4)] [] fol (by kernel_rfl)
theorem xb_31n (a b c : Rat) (I : Iv) (t0 t1 t2 V A v : Rl) (C : Sp Tryz.prog 110 [] [ivV I.F I.T I.oF I.oT, rlV t1] (.bool false) []) :
    CodeOk Tryz.prog (nthLoop 1 (Tryz.f114.body.getD .skip)) (stY a b c I 3 (rlC t0 ++ rlC t1 ++ rlC t2) 1 V A false) .normal (stY a b c I 3 (rlC t0 ++ rlC t1 ++ rlC t2) 2 V A false) := by
 unfold stY exC qC rC rlC ivC
 obtain ⟨t0p, t0r, t0n⟩ := t0
 obtain ⟨t1p, t1r, t1n⟩ := t1
 obtain ⟨t2p, t2r, t2n⟩ := t2
 obtain ⟨Vp, Vr, Vn⟩ := V
 obtain ⟨Ap, Ar, An⟩ := A
 obtain ⟨vp, vr, vn⟩ := v
 obtain ⟨⟨p1, q1, n1⟩, ⟨u1, v1, m1⟩, o1, e1⟩ := I
 exact piece [(0, 0), (1, 1), (2, 2), (3, 3), (4, 4)] [Sy.c C] fol (by kernel_rfl)
theorem xb_31f (a b c : Rat) (I : Iv) (t0 t1 t2 V A v : Rl) (C : Sp Tryz.prog 110 [] [ivV I.F I.T I.oF I.oT, rlV t1] (.bool true) []) (At : Sp Tryz.prog 35 [] [qV a b c, rlV t1] (rlV v) []) (E : Bin .eql 30 (rlV v) (rlV V) (.bool false)) :
    CodeOk Tryz.prog (nthLoop 1 (Tryz.f114.body.getD .skip)) (stY a b c I 3 (rlC t0 ++ rlC t1 ++ rlC t2) 1 V A false) .normal (stY a b c I 3 (rlC t0 ++ rlC t1 ++ rlC t2) 2 V A false) := by
 unfold stY exC qC rC rlC ivC
 obtain ⟨t0p, t0r, t0n⟩ := t0
 obtain ⟨t1p, t1r, t1n⟩ := t1
 obtain ⟨t2p, t2r, t2n⟩ := t2
 obtain ⟨Vp, Vr, Vn⟩ := V
 obtain ⟨Ap, Ar, An⟩ := A
 obtain ⟨vp, vr, vn⟩ := v
 obtain ⟨⟨p1, q1, n1⟩, ⟨u1, v1, m1⟩, o1, e1⟩ := I
 exact piece [(0, 0), (1, 1), (2, 2), (3, 3), (4, 4)] [Sy.c C, Sy.c At, x2 E] fol (by kernel_rfl)
theorem xb_31t (a b c : Rat) (I : Iv) (t0 t1 t2 V A v : Rl) (C : Sp Tryz.prog 110 [] [ivV I.F I.T I.oF I.oT, rlV t1] (.bool true) []) (At : Sp Tryz.prog 35 [] [qV a b c, rlV t1] (rlV v) []) (E : Bin .eql 30 (rlV v) (rlV V) (.bool true)) :
    CodeOk Tryz.prog (nthLoop 1 (Tryz.f114.body.getD .skip)) (stY a b c I 3 (rlC t0 ++ rlC t1 ++ rlC t2) 1 V A false) .normal (stY a b c I 3 (rlC t0 ++ rlC t1 ++ rlC t2) 2 V A true) := by
 unfold stY exC qC rC rlC ivC
 obtain ⟨t0p, t0r, t0n⟩ := t0
 obtain ⟨t1p, t1r, t1n⟩ := t1
 obtain ⟨t2p, t2r, t2n⟩ := t2
 obtain ⟨Vp, Vr, Vn⟩ := V
 obtain ⟨Ap, Ar, An⟩ := A
 obtain ⟨vp, vr, vn⟩ := v
 obtain ⟨⟨p1, q1, n1⟩, ⟨u1, v1, m1⟩, o1, e1⟩ := I
 exact piece [(0, 0), (1, 1), (2, 2), (3, 3), (4, 4)] [Sy.c C, Sy.c At, x2 E] fol (by kernel_rfl)
theorem xb_32s (a b c : Rat) (I : Iv) (t0 t1 t2 V A v : Rl) :
    CodeOk Tryz.prog (nthLoop 1 (Tryz.f114.body.getD .skip)) (stY a b c I 3 (rlC t0 ++ rlC t1 ++ rlC t2) 2 V A true) .normal (stY a b c I 3 (rlC t0 ++ rlC t1 ++ rlC t2) 3 V A true) := by
 unfold stY exC qC rC rlC ivC
 obtain ⟨t0p, t0r, t0n⟩ := t0
 obtain ⟨t1p, t1r, t1n⟩ := t1
 obtain ⟨t2p, t2r, t2n⟩ := t2
 obtain ⟨Vp, Vr, Vn⟩ := V
 obtain ⟨Ap, Ar, An⟩ := A
 obtain ⟨vp, vr, vn⟩ := v
 obtain ⟨⟨p1, q1, n1⟩, ⟨u1, v1, m1⟩, o1, e1⟩ := I
 exact piece [(0, 0), (1, 1), (2, 2), (3, 3), (4, 4)] [] fol (by kernel_rfl)
theorem xb_32n (a b c : Rat) (I : Iv) (t0 t1 t2 V A v : Rl) (C : Sp Tryz.prog 110 [] [ivV I.F I.T I.oF I.oT, rlV t2] (.bool false) []) :
    CodeOk Tryz.prog (nthLoop 1 (Tryz.f114.body.getD .skip)) (stY a b c I 3 (rlC t0 ++ rlC t1 ++ rlC t2) 2 V A false) .normal (stY a b c I 3 (rlC t0 ++ rlC t1 ++ rlC t2) 3 V A false) := by
 unfold stY exC qC rC rlC ivC
 obtain ⟨t0p, t0r, t0n⟩ := t0
 obtain ⟨t1p, t1r, t1n⟩ := t1
 obtain ⟨t2p, t2r, t2n⟩ := t2
 obtain ⟨Vp, Vr, Vn⟩ := V
 obtain ⟨Ap, Ar, An⟩ := A
 obtain ⟨vp, vr, vn⟩ := v
 obtain ⟨⟨p1, q1, n1⟩, ⟨u1, v1, m1⟩, o1, e1⟩ := I
 exact piece [(0, 0), (1, 1), (2, 2), (3, 3), (4, 4)] [Sy.c C] fol (by kernel_rfl)
theorem xb_32f (a b c : Rat) (I : Iv) (t0 t1 t2 V A v : Rl) (C : Sp Tryz.prog 110 [] [ivV I.F I.T I.oF I.oT, rlV t2] (.bool true) []) (At : Sp Tryz.prog 35 [] [qV a b c, rlV t2] (rlV v) []) (E : Bin .eql 30 (rlV v) (rlV V) (.bool false)) :
    CodeOk Tryz.prog (nthLoop 1 (Tryz.f114.body.getD .skip)) (stY a b c I 3 (rlC t0 ++ rlC t1 ++ rlC t2) 2 V A false) .normal (stY a b c I 3 (rlC t0 ++ rlC t1 ++ rlC t2) 3 V A false) := by
 unfold stY exC qC rC rlC ivC
 obtain ⟨t0p, t0r, t0n⟩ := t0
 obtain ⟨t1p, t1r, t1n⟩ := t1
 obtain ⟨t2p, t2r, t2n⟩ := t2
 obtain ⟨Vp, Vr, Vn⟩ := V
 obtain ⟨Ap, Ar, An⟩ := A
 obtain ⟨vp, vr, vn⟩ := v
 obtain ⟨⟨p1, q1, n1⟩, ⟨u1, v1, m1⟩, o1, e1⟩ := I
 exact piece [(0, 0), (1, 1), (2, 2), (3, 3), (4, 4)] [Sy.c C, Sy.c At, x2 E] fol (by kernel_rfl)
theorem xb_32t (a b c : Rat) (I : Iv) (t0 t1 t2 V A v : Rl) (C : Sp Tryz.prog 110 [] [ivV I.F I.T I.oF I.oT, rlV t2] (.bool true) []) (At : Sp Tryz.prog 35 [] [qV a b c, rlV t2] (rlV v) []) (E : Bin .eql 30 (rlV v) (rlV V) (.bool true)) :
    CodeOk Tryz.prog (nthLoop 1 (Tryz.f114.body.getD .skip)) (stY a b c I 3 (rlC t0 ++ rlC t1 ++ rlC t2) 2 V A false) .normal (stY a b c I 3 (rlC t0 ++ rlC t1 ++ rlC t2) 3 V A true) := by
 unfold stY exC qC rC rlC ivC
 obtain ⟨t0p, t0r, t0n⟩ := t0
 obtain ⟨t1p, t1r, t1n⟩ := t1
 obtain ⟨t2p, t2r, t2n⟩ := t2
 obtain ⟨Vp, Vr, Vn⟩ := V
 obtain ⟨Ap, Ar, An⟩ := A
 obtain ⟨vp, vr, vn⟩ := v
 obtain ⟨⟨p1, q1, n1⟩, ⟨u1, v1, m1⟩, o1, e1⟩ := I
 exact piece [(0, 0), (1, 1), (2, 2), (3, 3), (4, 4)] [Sy.c C, Sy.c At, x2 E] fol (by kernel_rfl)
theorem xb_3x (a b c : Rat) (I : Iv) (t0 t1 t2 V A : Rl) (m : Bool) : CodeOk Tryz.prog (nthLoop 1 (Tryz.f114.body.getD .skip)) (stY a b c I 3 (rlC t0 ++ rlC t1 ++ rlC t2) 3 V A m) (.exit 2) (stY a b c I 3 (rlC t0 ++ rlC t1 ++ rlC t2) 3 V A m) := by
 unfold stY exC qC rC rlC ivC
 obtain ⟨t0p, t0r, t0n⟩ := t0
 obtain ⟨t1p, t1r, t1n⟩ := t1
 obtain ⟨t2p, t2r, t2n⟩ := t2
 obtain ⟨Vp, Vr, Vn⟩ := V
 obtain ⟨Ap, Ar, An⟩ := A
 obtain ⟨⟨p1, q1, n1⟩, ⟨u1, v1, m1⟩, o1, e1⟩ := I
 exact piece [(0, 0), (1, 1), (2, 2), (3, 3), (4, 4)] [] fol (by kernel_rfl)
end Go.Proofs.YtlblfgbpogljoaaGreatDoor

end
section
/- Reference 04: the rounds of Extreme. -/
namespace Go.Proofs.YtlblfgbpogljoaaGreatDoor
open Go Go.RowKit Go.Sy
open Vi
end Go.Proofs.YtlblfgbpogljoaaGreatDoor

end
section
/- The package quadratic: degrees. -/
namespace Go.Proofs.YtlblfgbpogljoaaGreatDoor
open Go Go.RowKit Go.Sy
open Vi
def stDg (a b c : Rat) (i : Int) : St := ⟨22, 0, [(1, ptr 0 0), (2, nV 0), (3, ptr 1 0), (4, nV i)], junk, [(0, blk 67 (rC a ++ rC b ++ rC c)), (1, blk 162 (rC a ++ rC b ++ rC c))], 2⟩
def stDr (i : Int) : St := ⟨22, 0, [(2, nV i)], junk, [], 2⟩
theorem dg_2 (a b c : Rat) (h : c ≠ 0) : CodeOk Tryz.prog (nthLoop 0 (Tryz.f68.body.getD .skip)) (stDg a b c 2) .ret (stDr 2) := by
 have S := pSgn c
 have e := sgQ_ne0 c
 rw [decide_eq_true h] at e
 clear h
 unfold stDg stDr rC
 generalize sgQ c = z at *
 exact piece [] [Sy.c S, eb e] fol (by kernel_rfl)
theorem dg_21 (a b c : Rat) (h : c = 0) : CodeOk Tryz.prog (nthLoop 0 (Tryz.f68.body.getD .skip)) (stDg a b c 2) .normal (stDg a b c 1) := by
 have S := pSgn c
 have e := sgQ_ne0 c
 rw [decide_eq_false (by simp [h])] at e
 clear h
 unfold stDg rC
 generalize sgQ c = z at *
 exact piece [(0, 0), (1, 1)] [Sy.c S, eb e] fol (by kernel_rfl)
theorem dg_1 (a b c : Rat) (h : b ≠ 0) : CodeOk Tryz.prog (nthLoop 0 (Tryz.f68.body.getD .skip)) (stDg a b c 1) .ret (stDr 1) := by
 have S := pSgn b
 have e := sgQ_ne0 b
 rw [decide_eq_true h] at e
 clear h
 unfold stDg stDr rC
 generalize sgQ b = z at *
 exact piece [] [Sy.c S, eb e] fol (by kernel_rfl)
theorem dg_10 (a b c : Rat) (h : b = 0) : CodeOk Tryz.prog (nthLoop 0 (Tryz.f68.body.getD .skip)) (stDg a b c 1) .normal (stDg a b c 0) := by
 have S := pSgn b
 have e := sgQ_ne0 b
 rw [decide_eq_false (by simp [h])] at e
 clear h
 unfold stDg rC
 generalize sgQ b = z at *
 exact piece [(0, 0), (1, 1)] [Sy.c S, eb e] fol (by kernel_rfl)
theorem dg_0 (a b c : Rat) (h : a ≠ 0) : CodeOk Tryz.prog (nthLoop 0 (Tryz.f68.body.getD .skip)) (stDg a b c 0) .ret (stDr 0) := by
 have S := pSgn a
 have e := sgQ_ne0 a
 rw [decide_eq_true h] at e
 clear h
 unfold stDg stDr rC
 generalize sgQ a = z at *
 exact piece [] [Sy.c S, eb e] fol (by kernel_rfl)
theorem dg_00 (a b c : Rat) (h : a = 0) : CodeOk Tryz.prog (nthLoop 0 (Tryz.f68.body.getD .skip)) (stDg a b c 0) .normal (stDg a b c (-1)) := by
 have S := pSgn a
 have e := sgQ_ne0 a
 rw [decide_eq_false (by simp [h])] at e
 clear h
 unfold stDg rC
 generalize sgQ a = z at *
 exact piece [(0, 0), (1, 1)] [Sy.c S, eb e] fol (by kernel_rfl)
theorem dg_end (a b c : Rat) : CodeOk Tryz.prog (nthLoop 0 (Tryz.f68.body.getD .skip)) (stDg a b c (-1)) (.exit 0) (stDg a b c (-1)) := by
 unfold stDg rC
 exact piece [(0, 0), (1, 1)] [] fol (by kernel_rfl)
theorem uDegree (a b c : Rat) : Sp Tryz.prog 68 [] [qV a b c] (nV (dgQ a b c)) [] := by
 unfold dgQ
 by_cases h1 : c = 0
 ·rw [if_neg (by simp [h1])]
  by_cases h2 : b = 0
  ·rw [if_neg (by simp [h2])]
   by_cases h3 : a = 0
   ·rw [if_neg (by simp [h3])]
    have hl := (RoundsOk.more (dg_21 a b c h1) (RoundsOk.more (dg_10 a b c h2) (RoundsOk.more (dg_00 a b c h3) (RoundsOk.out (by simp) (dg_end a b c))))).loop
    unfold stDg rC at hl
    clear h1 h2 h3
    exact walk (code := Tryz.f68.body.getD .skip) [lp [(0, 0), (1, 1)] hl] fol Tryz.func68 (by kernel_rfl) (fun xs w => Tryz.call68 xs w) (by kernel_rfl)
   ·rw [if_pos h3]
    have hl := (RoundsOk.more (dg_21 a b c h1) (RoundsOk.more (dg_10 a b c h2) (RoundsOk.out (by simp) (dg_0 a b c h3)))).loop
    unfold stDg stDr rC at hl
    clear h1 h2 h3
    exact walk (code := Tryz.f68.body.getD .skip) [lp [(0, 0), (1, 1)] hl] fol Tryz.func68 (by kernel_rfl) (fun xs w => Tryz.call68 xs w) (by kernel_rfl)
  ·rw [if_pos h2]
   have hl := (RoundsOk.more (dg_21 a b c h1) (RoundsOk.out (by simp) (dg_1 a b c h2))).loop
   unfold stDg stDr rC at hl
   clear h1 h2
   exact walk (code := Tryz.f68.body.getD .skip) [lp [(0, 0), (1, 1)] hl] fol Tryz.func68 (by kernel_rfl) (fun xs w => Tryz.call68 xs w) (by kernel_rfl)
 ·rw [if_pos h1]
  have hl := (RoundsOk.out (by simp) (dg_2 a b c h1)).loop
  unfold stDg stDr rC at hl
  clear h1
  exact walk (code := Tryz.f68.body.getD .skip) [lp [(0, 0), (1, 1)] hl] fol Tryz.func68 (by kernel_rfl) (fun xs w => Tryz.call68 xs w) (by kernel_rfl)
end Go.Proofs.YtlblfgbpogljoaaGreatDoor

end
section
/- The package quadratic: extreme values. -/
namespace Go.Proofs.YtlblfgbpogljoaaGreatDoor
open Go Go.RowKit Go.Sy
open Vi
def pk (bt : Rl → Rl → Bool) (vt : Rl → Rl) : List Rl → Rl → Rl
 | [], A => A
 | t :: l, A => pk bt vt l (if bt (vt t) (vt A) = true then t else A)
def rch (hi eq : Rl → Bool) : List Rl → Bool → Bool
 | [], m => m
 | t :: l, m => rch hi eq l (m || (hi t && eq t))
noncomputable def eqB (x y : Rl) : Bool := open Classical in decide (x = y)
theorem sa_20 (bf : FuncId) (bt : Rl → Rl → Bool) (vt : Rl → Rl) (a b c : Rat) (I : Iv) (t0 t1 A : Rl) (At : Sp Tryz.prog 35 [] [qV a b c, rlV t0] (rlV (vt t0)) []) (B : Sp Tryz.prog bf [] [rlV (vt t0), rlV (vt A)] (.bool (bt (vt t0) (vt A))) []) :
    CodeOk Tryz.prog (nthLoop 0 (Tryz.f114.body.getD .skip)) (stX bf a b c I 2 (rlC t0 ++ rlC t1) 0 (vt A) A false) .normal (stX bf a b c I 2 (rlC t0 ++ rlC t1) 1 (vt (if bt (vt t0) (vt A) = true then t0 else A)) (if bt (vt t0) (vt A) = true then t0 else A) false) := by
 cases h : bt (vt t0) (vt A)
 ·rw [h] at B
  rw [if_neg (by simp)]
  exact xa_20f bf a b c I t0 t1 (vt A) A (vt t0) At B
 ·rw [h] at B
  rw [if_pos rfl]
  exact xa_20t bf a b c I t0 t1 (vt A) A (vt t0) At B
theorem sb_20 (hi eq : Rl → Bool) (vt : Rl → Rl) (a b c : Rat) (I : Iv) (t0 t1 V A : Rl) (m : Bool) (At : Sp Tryz.prog 35 [] [qV a b c, rlV t0] (rlV (vt t0)) []) (C : Sp Tryz.prog 110 [] [ivV I.F I.T I.oF I.oT, rlV t0] (.bool (hi t0)) []) (E : Bin .eql 30 (rlV (vt t0)) (rlV V) (.bool (eq t0))) :
    CodeOk Tryz.prog (nthLoop 1 (Tryz.f114.body.getD .skip)) (stY a b c I 2 (rlC t0 ++ rlC t1) 0 V A m) .normal (stY a b c I 2 (rlC t0 ++ rlC t1) 1 V A (m || (hi t0 && eq t0))) := by
 cases m
 ·cases h : hi t0
  ·rw [h] at C
   exact xb_20n a b c I t0 t1 V A (vt t0) C
  ·rw [h] at C
   cases g : eq t0
   ·rw [g] at E
    exact xb_20f a b c I t0 t1 V A (vt t0) C At E
   ·rw [g] at E
    exact xb_20t a b c I t0 t1 V A (vt t0) C At E
 ·exact xb_20s a b c I t0 t1 V A (vt t0)
theorem sa_21 (bf : FuncId) (bt : Rl → Rl → Bool) (vt : Rl → Rl) (a b c : Rat) (I : Iv) (t0 t1 A : Rl) (At : Sp Tryz.prog 35 [] [qV a b c, rlV t1] (rlV (vt t1)) []) (B : Sp Tryz.prog bf [] [rlV (vt t1), rlV (vt A)] (.bool (bt (vt t1) (vt A))) []) :
    CodeOk Tryz.prog (nthLoop 0 (Tryz.f114.body.getD .skip)) (stX bf a b c I 2 (rlC t0 ++ rlC t1) 1 (vt A) A false) .normal (stX bf a b c I 2 (rlC t0 ++ rlC t1) 2 (vt (if bt (vt t1) (vt A) = true then t1 else A)) (if bt (vt t1) (vt A) = true then t1 else A) false) := by
 cases h : bt (vt t1) (vt A)
 ·rw [h] at B
  rw [if_neg (by simp)]
  exact xa_21f bf a b c I t0 t1 (vt A) A (vt t1) At B
 ·rw [h] at B
  rw [if_pos rfl]
  exact xa_21t bf a b c I t0 t1 (vt A) A (vt t1) At B
theorem sb_21 (hi eq : Rl → Bool) (vt : Rl → Rl) (a b c : Rat) (I : Iv) (t0 t1 V A : Rl) (m : Bool) (At : Sp Tryz.prog 35 [] [qV a b c, rlV t1] (rlV (vt t1)) []) (C : Sp Tryz.prog 110 [] [ivV I.F I.T I.oF I.oT, rlV t1] (.bool (hi t1)) []) (E : Bin .eql 30 (rlV (vt t1)) (rlV V) (.bool (eq t1))) :
    CodeOk Tryz.prog (nthLoop 1 (Tryz.f114.body.getD .skip)) (stY a b c I 2 (rlC t0 ++ rlC t1) 1 V A m) .normal (stY a b c I 2 (rlC t0 ++ rlC t1) 2 V A (m || (hi t1 && eq t1))) := by
 cases m
 ·cases h : hi t1
  ·rw [h] at C
   exact xb_21n a b c I t0 t1 V A (vt t1) C
  ·rw [h] at C
   cases g : eq t1
   ·rw [g] at E
    exact xb_21f a b c I t0 t1 V A (vt t1) C At E
   ·rw [g] at E
    exact xb_21t a b c I t0 t1 V A (vt t1) C At E
 ·exact xb_21s a b c I t0 t1 V A (vt t1)
theorem la_2 (bf : FuncId) (bt : Rl → Rl → Bool) (vt : Rl → Rl) (a b c : Rat) (I : Iv) (t0 t1 : Rl) (At : ∀ t ∈ [t0, t1], Sp Tryz.prog 35 [] [qV a b c, rlV t] (rlV (vt t)) []) (B : ∀ s ∈ [t0, t1], ∀ t ∈ [t0, t1], Sp Tryz.prog bf [] [rlV (vt s), rlV (vt t)] (.bool (bt (vt s) (vt t))) []) :
    CodeOk Tryz.prog (.loop (nthLoop 0 (Tryz.f114.body.getD .skip))) (stX bf a b c I 2 (rlC t0 ++ rlC t1) 0 (vt t0) t0 false) (.exit 0) (stX bf a b c I 2 (rlC t0 ++ rlC t1) 2 (vt (pk bt vt [t0, t1] t0)) (pk bt vt [t0, t1] t0) false) := by
 have m0 : t0 ∈ [t0, t1] := by simp
 have s0 := sa_20 bf bt vt a b c I t0 t1 t0 (At _ (by simp)) (B _ (by simp) _ m0)
 obtain ⟨A1, hA1⟩ : ∃ x, x = if bt (vt t0) (vt t0) = true then t0 else t0 := ⟨_, rfl⟩
 rw [← hA1] at s0
 have m1 : A1 ∈ [t0, t1] := by rw [hA1]; split <;> simp_all
 have s1 := sa_21 bf bt vt a b c I t0 t1 A1 (At _ (by simp)) (B _ (by simp) _ m1)
 obtain ⟨A2, hA2⟩ : ∃ x, x = if bt (vt t1) (vt A1) = true then t1 else A1 := ⟨_, rfl⟩
 rw [← hA2] at s1
 have e : pk bt vt [t0, t1] t0 = A2 := by
  rw [hA2, hA1]; rfl
 rw [e]
 exact (RoundsOk.more s0 (RoundsOk.more s1 (RoundsOk.out (by simp) (xa_2x bf a b c I t0 t1 _ _)))).loop
theorem lb_2 (hi eq : Rl → Bool) (vt : Rl → Rl) (a b c : Rat) (I : Iv) (t0 t1 V A : Rl) (m : Bool) (At : ∀ t ∈ [t0, t1], Sp Tryz.prog 35 [] [qV a b c, rlV t] (rlV (vt t)) []) (C : ∀ t ∈ [t0, t1], Sp Tryz.prog 110 [] [ivV I.F I.T I.oF I.oT, rlV t] (.bool (hi t)) []) (E : ∀ t ∈ [t0, t1], Bin .eql 30 (rlV (vt t)) (rlV V) (.bool (eq t))) :
    CodeOk Tryz.prog (.loop (nthLoop 1 (Tryz.f114.body.getD .skip))) (stY a b c I 2 (rlC t0 ++ rlC t1) 0 V A m) (.exit 2) (stY a b c I 2 (rlC t0 ++ rlC t1) 2 V A (rch hi eq [t0, t1] m)) :=
 (RoundsOk.more (sb_20 hi eq vt a b c I t0 t1 V A _ (At _ (by simp)) (C _ (by simp)) (E _ (by simp))) (RoundsOk.more (sb_21 hi eq vt a b c I t0 t1 V A _ (At _ (by simp)) (C _ (by simp)) (E _ (by simp))) (RoundsOk.out (by simp) (xb_2x a b c I t0 t1 V A _)))).loop
theorem sa_30 (bf : FuncId) (bt : Rl → Rl → Bool) (vt : Rl → Rl) (a b c : Rat) (I : Iv) (t0 t1 t2 A : Rl) (At : Sp Tryz.prog 35 [] [qV a b c, rlV t0] (rlV (vt t0)) []) (B : Sp Tryz.prog bf [] [rlV (vt t0), rlV (vt A)] (.bool (bt (vt t0) (vt A))) []) :
    CodeOk Tryz.prog (nthLoop 0 (Tryz.f114.body.getD .skip)) (stX bf a b c I 3 (rlC t0 ++ rlC t1 ++ rlC t2) 0 (vt A) A false) .normal (stX bf a b c I 3 (rlC t0 ++ rlC t1 ++ rlC t2) 1 (vt (if bt (vt t0) (vt A) = true then t0 else A)) (if bt (vt t0) (vt A) = true then t0 else A) false) := by
 cases h : bt (vt t0) (vt A)
 ·rw [h] at B
  rw [if_neg (by simp)]
  exact xa_30f bf a b c I t0 t1 t2 (vt A) A (vt t0) At B
 ·rw [h] at B
  rw [if_pos rfl]
  exact xa_30t bf a b c I t0 t1 t2 (vt A) A (vt t0) At B
theorem sb_30 (hi eq : Rl → Bool) (vt : Rl → Rl) (a b c : Rat) (I : Iv) (t0 t1 t2 V A : Rl) (m : Bool) (At : Sp Tryz.prog 35 [] [qV a b c, rlV t0] (rlV (vt t0)) []) (C : Sp Tryz.prog 110 [] [ivV I.F I.T I.oF I.oT, rlV t0] (.bool (hi t0)) []) (E : Bin .eql 30 (rlV (vt t0)) (rlV V) (.bool (eq t0))) :
    CodeOk Tryz.prog (nthLoop 1 (Tryz.f114.body.getD .skip)) (stY a b c I 3 (rlC t0 ++ rlC t1 ++ rlC t2) 0 V A m) .normal (stY a b c I 3 (rlC t0 ++ rlC t1 ++ rlC t2) 1 V A (m || (hi t0 && eq t0))) := by
 cases m
 ·cases h : hi t0
  ·rw [h] at C
   exact xb_30n a b c I t0 t1 t2 V A (vt t0) C
  ·rw [h] at C
   cases g : eq t0
   ·rw [g] at E
    exact xb_30f a b c I t0 t1 t2 V A (vt t0) C At E
   ·rw [g] at E
    exact xb_30t a b c I t0 t1 t2 V A (vt t0) C At E
 ·exact xb_30s a b c I t0 t1 t2 V A (vt t0)
theorem sa_31 (bf : FuncId) (bt : Rl → Rl → Bool) (vt : Rl → Rl) (a b c : Rat) (I : Iv) (t0 t1 t2 A : Rl) (At : Sp Tryz.prog 35 [] [qV a b c, rlV t1] (rlV (vt t1)) []) (B : Sp Tryz.prog bf [] [rlV (vt t1), rlV (vt A)] (.bool (bt (vt t1) (vt A))) []) :
    CodeOk Tryz.prog (nthLoop 0 (Tryz.f114.body.getD .skip)) (stX bf a b c I 3 (rlC t0 ++ rlC t1 ++ rlC t2) 1 (vt A) A false) .normal (stX bf a b c I 3 (rlC t0 ++ rlC t1 ++ rlC t2) 2 (vt (if bt (vt t1) (vt A) = true then t1 else A)) (if bt (vt t1) (vt A) = true then t1 else A) false) := by
 cases h : bt (vt t1) (vt A)
 ·rw [h] at B
  rw [if_neg (by simp)]
  exact xa_31f bf a b c I t0 t1 t2 (vt A) A (vt t1) At B
 ·rw [h] at B
  rw [if_pos rfl]
  exact xa_31t bf a b c I t0 t1 t2 (vt A) A (vt t1) At B
theorem sb_31 (hi eq : Rl → Bool) (vt : Rl → Rl) (a b c : Rat) (I : Iv) (t0 t1 t2 V A : Rl) (m : Bool) (At : Sp Tryz.prog 35 [] [qV a b c, rlV t1] (rlV (vt t1)) []) (C : Sp Tryz.prog 110 [] [ivV I.F I.T I.oF I.oT, rlV t1] (.bool (hi t1)) []) (E : Bin .eql 30 (rlV (vt t1)) (rlV V) (.bool (eq t1))) :
    CodeOk Tryz.prog (nthLoop 1 (Tryz.f114.body.getD .skip)) (stY a b c I 3 (rlC t0 ++ rlC t1 ++ rlC t2) 1 V A m) .normal (stY a b c I 3 (rlC t0 ++ rlC t1 ++ rlC t2) 2 V A (m || (hi t1 && eq t1))) := by
 cases m
 ·cases h : hi t1
  ·rw [h] at C
   exact xb_31n a b c I t0 t1 t2 V A (vt t1) C
  ·rw [h] at C
   cases g : eq t1
   ·rw [g] at E
    exact xb_31f a b c I t0 t1 t2 V A (vt t1) C At E
   ·rw [g] at E
    exact xb_31t a b c I t0 t1 t2 V A (vt t1) C At E
 ·exact xb_31s a b c I t0 t1 t2 V A (vt t1)
theorem sa_32 (bf : FuncId) (bt : Rl → Rl → Bool) (vt : Rl → Rl) (a b c : Rat) (I : Iv) (t0 t1 t2 A : Rl) (At : Sp Tryz.prog 35 [] [qV a b c, rlV t2] (rlV (vt t2)) []) (B : Sp Tryz.prog bf [] [rlV (vt t2), rlV (vt A)] (.bool (bt (vt t2) (vt A))) []) :
    CodeOk Tryz.prog (nthLoop 0 (Tryz.f114.body.getD .skip)) (stX bf a b c I 3 (rlC t0 ++ rlC t1 ++ rlC t2) 2 (vt A) A false) .normal (stX bf a b c I 3 (rlC t0 ++ rlC t1 ++ rlC t2) 3 (vt (if bt (vt t2) (vt A) = true then t2 else A)) (if bt (vt t2) (vt A) = true then t2 else A) false) := by
 cases h : bt (vt t2) (vt A)
 ·rw [h] at B
  rw [if_neg (by simp)]
  exact xa_32f bf a b c I t0 t1 t2 (vt A) A (vt t2) At B
 ·rw [h] at B
  rw [if_pos rfl]
  exact xa_32t bf a b c I t0 t1 t2 (vt A) A (vt t2) At B
theorem sb_32 (hi eq : Rl → Bool) (vt : Rl → Rl) (a b c : Rat) (I : Iv) (t0 t1 t2 V A : Rl) (m : Bool) (At : Sp Tryz.prog 35 [] [qV a b c, rlV t2] (rlV (vt t2)) []) (C : Sp Tryz.prog 110 [] [ivV I.F I.T I.oF I.oT, rlV t2] (.bool (hi t2)) []) (E : Bin .eql 30 (rlV (vt t2)) (rlV V) (.bool (eq t2))) :
    CodeOk Tryz.prog (nthLoop 1 (Tryz.f114.body.getD .skip)) (stY a b c I 3 (rlC t0 ++ rlC t1 ++ rlC t2) 2 V A m) .normal (stY a b c I 3 (rlC t0 ++ rlC t1 ++ rlC t2) 3 V A (m || (hi t2 && eq t2))) := by
 cases m
 ·cases h : hi t2
  ·rw [h] at C
   exact xb_32n a b c I t0 t1 t2 V A (vt t2) C
  ·rw [h] at C
   cases g : eq t2
   ·rw [g] at E
    exact xb_32f a b c I t0 t1 t2 V A (vt t2) C At E
   ·rw [g] at E
    exact xb_32t a b c I t0 t1 t2 V A (vt t2) C At E
 ·exact xb_32s a b c I t0 t1 t2 V A (vt t2)
theorem la_3 (bf : FuncId) (bt : Rl → Rl → Bool) (vt : Rl → Rl) (a b c : Rat) (I : Iv) (t0 t1 t2 : Rl) (At : ∀ t ∈ [t0, t1, t2], Sp Tryz.prog 35 [] [qV a b c, rlV t] (rlV (vt t)) []) (B : ∀ s ∈ [t0, t1, t2], ∀ t ∈ [t0, t1, t2], Sp Tryz.prog bf [] [rlV (vt s), rlV (vt t)] (.bool (bt (vt s) (vt t))) []) :
    CodeOk Tryz.prog (.loop (nthLoop 0 (Tryz.f114.body.getD .skip))) (stX bf a b c I 3 (rlC t0 ++ rlC t1 ++ rlC t2) 0 (vt t0) t0 false) (.exit 0) (stX bf a b c I 3 (rlC t0 ++ rlC t1 ++ rlC t2) 3 (vt (pk bt vt [t0, t1, t2] t0)) (pk bt vt [t0, t1, t2] t0) false) := by
 have m0 : t0 ∈ [t0, t1, t2] := by simp
 have s0 := sa_30 bf bt vt a b c I t0 t1 t2 t0 (At _ (by simp)) (B _ (by simp) _ m0)
 obtain ⟨A1, hA1⟩ : ∃ x, x = if bt (vt t0) (vt t0) = true then t0 else t0 := ⟨_, rfl⟩
 rw [← hA1] at s0
 have m1 : A1 ∈ [t0, t1, t2] := by rw [hA1]; split <;> simp_all
 have s1 := sa_31 bf bt vt a b c I t0 t1 t2 A1 (At _ (by simp)) (B _ (by simp) _ m1)
 obtain ⟨A2, hA2⟩ : ∃ x, x = if bt (vt t1) (vt A1) = true then t1 else A1 := ⟨_, rfl⟩
 rw [← hA2] at s1
 have m2 : A2 ∈ [t0, t1, t2] := by rw [hA2]; split <;> simp_all
 have s2 := sa_32 bf bt vt a b c I t0 t1 t2 A2 (At _ (by simp)) (B _ (by simp) _ m2)
 obtain ⟨A3, hA3⟩ : ∃ x, x = if bt (vt t2) (vt A2) = true then t2 else A2 := ⟨_, rfl⟩
 rw [← hA3] at s2
 have e : pk bt vt [t0, t1, t2] t0 = A3 := by
  rw [hA3, hA2, hA1]; rfl
 rw [e]
 exact (RoundsOk.more s0 (RoundsOk.more s1 (RoundsOk.more s2 (RoundsOk.out (by simp) (xa_3x bf a b c I t0 t1 t2 _ _))))).loop
theorem lb_3 (hi eq : Rl → Bool) (vt : Rl → Rl) (a b c : Rat) (I : Iv) (t0 t1 t2 V A : Rl) (m : Bool) (At : ∀ t ∈ [t0, t1, t2], Sp Tryz.prog 35 [] [qV a b c, rlV t] (rlV (vt t)) []) (C : ∀ t ∈ [t0, t1, t2], Sp Tryz.prog 110 [] [ivV I.F I.T I.oF I.oT, rlV t] (.bool (hi t)) []) (E : ∀ t ∈ [t0, t1, t2], Bin .eql 30 (rlV (vt t)) (rlV V) (.bool (eq t))) :
    CodeOk Tryz.prog (.loop (nthLoop 1 (Tryz.f114.body.getD .skip))) (stY a b c I 3 (rlC t0 ++ rlC t1 ++ rlC t2) 0 V A m) (.exit 2) (stY a b c I 3 (rlC t0 ++ rlC t1 ++ rlC t2) 3 V A (rch hi eq [t0, t1, t2] m)) :=
 (RoundsOk.more (sb_30 hi eq vt a b c I t0 t1 t2 V A _ (At _ (by simp)) (C _ (by simp)) (E _ (by simp))) (RoundsOk.more (sb_31 hi eq vt a b c I t0 t1 t2 V A _ (At _ (by simp)) (C _ (by simp)) (E _ (by simp))) (RoundsOk.more (sb_32 hi eq vt a b c I t0 t1 t2 V A _ (At _ (by simp)) (C _ (by simp)) (E _ (by simp))) (RoundsOk.out (by simp) (xb_3x a b c I t0 t1 t2 V A _))))).loop
theorem ext_a (bf : FuncId) (a b c : Rat) (F T V0 V A : Rl) (oF oT m0 m : Bool) (nb cc : Rat) (dg : Int) (H : Sp Tryz.prog 109 [] [ivV F T oF oT] (nV 0) []) (N : Sp Tryz.prog 96 [] [rV b] (rV nb) []) (Ad : Sp Tryz.prog 99 [] [rV c, rV c] (rV cc) [])
    (D : Sp Tryz.prog 122 [] [rV nb, rV cc] (.tuple #[rZ, nV 6]) [])
    (At : Sp Tryz.prog 35 [] [qV a b c, rlV F] (rlV V0) []) (Dg : Sp Tryz.prog 68 [] [qV a b c] (nV dg) []) (ed : decide (dg < 1) = m0)
    (h1 : CodeOk Tryz.prog (.loop (nthLoop 0 (Tryz.f114.body.getD .skip))) (stX bf a b c ⟨F, T, oF, oT⟩ 2 (rlC F ++ rlC T) 0 V0 F false) (.exit 0) (stX bf a b c ⟨F, T, oF, oT⟩ 2 (rlC F ++ rlC T) 2 V A false))
    (h2 : CodeOk Tryz.prog (.loop (nthLoop 1 (Tryz.f114.body.getD .skip))) (stY a b c ⟨F, T, oF, oT⟩ 2 (rlC F ++ rlC T) 0 V A m0) (.exit 2) (stY a b c ⟨F, T, oF, oT⟩ 2 (rlC F ++ rlC T) 2 V A m)) :
    Sp Tryz.prog 114 [] [qV a b c, ivV F T oF oT, fcV bf] (.tuple #[exV V A m, nV 0]) [] := by
 obtain ⟨Fp, Fr, Fn⟩ := F
 obtain ⟨Tp, Tr, Tn⟩ := T
 obtain ⟨V0p, V0r, V0n⟩ := V0
 obtain ⟨Vp, Vr, Vn⟩ := V
 obtain ⟨Ap, Ar, An⟩ := A
 unfold stX exC qC rC rlC ivC at h1
 unfold stY exC qC rC rlC ivC at h2
 dsimp only at *
 exact walk (code := Tryz.f114.body.getD .skip) [Sy.c H, OW, Sy.c N, Sy.c Ad, Sy.c D, Sy.c At, lp [(0, 0), (1, 1), (2, 2), (3, 6), (4, 7)] h1, Sy.c Dg, eb ed, lp [(0, 0), (1, 1), (2, 2), (3, 3), (4, 4)] h2] fol Tryz.func114 (by kernel_rfl) (fun xs w => Tryz.call114 xs w) (by kernel_rfl)
theorem ext_b (bf : FuncId) (a b c : Rat) (F T V0 V A M : Rl) (oF oT m0 m : Bool) (nb cc h : Rat) (dg k1 : Int) (H : Sp Tryz.prog 109 [] [ivV F T oF oT] (nV 0) []) (N : Sp Tryz.prog 96 [] [rV b] (rV nb) []) (Ad : Sp Tryz.prog 99 [] [rV c, rV c] (rV cc) [])
    (D : Sp Tryz.prog 122 [] [rV nb, rV cc] (.tuple #[rV h, nV 0]) []) (FR : Sp Tryz.prog 155 [] [rV h] (rlV M) []) (K1 : Sp Tryz.prog 27 [] [rlV F, rlV M] (nV k1) []) (e1 : decide (k1 < 0) = false)
    (At : Sp Tryz.prog 35 [] [qV a b c, rlV F] (rlV V0) []) (Dg : Sp Tryz.prog 68 [] [qV a b c] (nV dg) []) (ed : decide (dg < 1) = m0)
    (h1 : CodeOk Tryz.prog (.loop (nthLoop 0 (Tryz.f114.body.getD .skip))) (stX bf a b c ⟨F, T, oF, oT⟩ 2 (rlC F ++ rlC T) 0 V0 F false) (.exit 0) (stX bf a b c ⟨F, T, oF, oT⟩ 2 (rlC F ++ rlC T) 2 V A false))
    (h2 : CodeOk Tryz.prog (.loop (nthLoop 1 (Tryz.f114.body.getD .skip))) (stY a b c ⟨F, T, oF, oT⟩ 2 (rlC F ++ rlC T) 0 V A m0) (.exit 2) (stY a b c ⟨F, T, oF, oT⟩ 2 (rlC F ++ rlC T) 2 V A m)) :
    Sp Tryz.prog 114 [] [qV a b c, ivV F T oF oT, fcV bf] (.tuple #[exV V A m, nV 0]) [] := by
 obtain ⟨Fp, Fr, Fn⟩ := F
 obtain ⟨Tp, Tr, Tn⟩ := T
 obtain ⟨V0p, V0r, V0n⟩ := V0
 obtain ⟨Vp, Vr, Vn⟩ := V
 obtain ⟨Ap, Ar, An⟩ := A
 obtain ⟨Mp, Mr, Mn⟩ := M
 unfold stX exC qC rC rlC ivC at h1
 unfold stY exC qC rC rlC ivC at h2
 dsimp only at *
 exact walk (code := Tryz.f114.body.getD .skip) [Sy.c H, OW, Sy.c N, Sy.c Ad, Sy.c D, Sy.c FR, Sy.c K1, eb e1, Sy.c At, lp [(0, 0), (1, 1), (2, 2), (3, 7), (4, 8)] h1, Sy.c Dg, eb ed, lp [(0, 0), (1, 1), (2, 2), (3, 3), (4, 4)] h2] fol Tryz.func114 (by kernel_rfl) (fun xs w => Tryz.call114 xs w) (by kernel_rfl)
theorem ext_c (bf : FuncId) (a b c : Rat) (F T V0 V A M : Rl) (oF oT m0 m : Bool) (nb cc h : Rat) (dg k1 k2 : Int) (H : Sp Tryz.prog 109 [] [ivV F T oF oT] (nV 0) []) (N : Sp Tryz.prog 96 [] [rV b] (rV nb) []) (Ad : Sp Tryz.prog 99 [] [rV c, rV c] (rV cc) [])
    (D : Sp Tryz.prog 122 [] [rV nb, rV cc] (.tuple #[rV h, nV 0]) []) (FR : Sp Tryz.prog 155 [] [rV h] (rlV M) []) (K1 : Sp Tryz.prog 27 [] [rlV F, rlV M] (nV k1) []) (e1 : decide (k1 < 0) = true) (K2 : Sp Tryz.prog 27 [] [rlV M, rlV T] (nV k2) []) (e2 : decide (k2 < 0) = false)
    (At : Sp Tryz.prog 35 [] [qV a b c, rlV F] (rlV V0) []) (Dg : Sp Tryz.prog 68 [] [qV a b c] (nV dg) []) (ed : decide (dg < 1) = m0)
    (h1 : CodeOk Tryz.prog (.loop (nthLoop 0 (Tryz.f114.body.getD .skip))) (stX bf a b c ⟨F, T, oF, oT⟩ 2 (rlC F ++ rlC T) 0 V0 F false) (.exit 0) (stX bf a b c ⟨F, T, oF, oT⟩ 2 (rlC F ++ rlC T) 2 V A false))
    (h2 : CodeOk Tryz.prog (.loop (nthLoop 1 (Tryz.f114.body.getD .skip))) (stY a b c ⟨F, T, oF, oT⟩ 2 (rlC F ++ rlC T) 0 V A m0) (.exit 2) (stY a b c ⟨F, T, oF, oT⟩ 2 (rlC F ++ rlC T) 2 V A m)) :
    Sp Tryz.prog 114 [] [qV a b c, ivV F T oF oT, fcV bf] (.tuple #[exV V A m, nV 0]) [] := by
 obtain ⟨Fp, Fr, Fn⟩ := F
 obtain ⟨Tp, Tr, Tn⟩ := T
 obtain ⟨V0p, V0r, V0n⟩ := V0
 obtain ⟨Vp, Vr, Vn⟩ := V
 obtain ⟨Ap, Ar, An⟩ := A
 obtain ⟨Mp, Mr, Mn⟩ := M
 unfold stX exC qC rC rlC ivC at h1
 unfold stY exC qC rC rlC ivC at h2
 dsimp only at *
 exact walk (code := Tryz.f114.body.getD .skip) [Sy.c H, OW, Sy.c N, Sy.c Ad, Sy.c D, Sy.c FR, Sy.c K1, eb e1, Sy.c K2, eb e2, Sy.c At, lp [(0, 0), (1, 1), (2, 2), (3, 7), (4, 8)] h1, Sy.c Dg, eb ed, lp [(0, 0), (1, 1), (2, 2), (3, 3), (4, 4)] h2] fol Tryz.func114 (by kernel_rfl) (fun xs w => Tryz.call114 xs w) (by kernel_rfl)
theorem ext_d (bf : FuncId) (a b c : Rat) (F T V0 V A M : Rl) (oF oT m0 m : Bool) (nb cc h : Rat) (dg k1 k2 : Int) (H : Sp Tryz.prog 109 [] [ivV F T oF oT] (nV 0) []) (N : Sp Tryz.prog 96 [] [rV b] (rV nb) []) (Ad : Sp Tryz.prog 99 [] [rV c, rV c] (rV cc) [])
    (D : Sp Tryz.prog 122 [] [rV nb, rV cc] (.tuple #[rV h, nV 0]) []) (FR : Sp Tryz.prog 155 [] [rV h] (rlV M) []) (K1 : Sp Tryz.prog 27 [] [rlV F, rlV M] (nV k1) []) (e1 : decide (k1 < 0) = true) (K2 : Sp Tryz.prog 27 [] [rlV M, rlV T] (nV k2) []) (e2 : decide (k2 < 0) = true)
    (At : Sp Tryz.prog 35 [] [qV a b c, rlV F] (rlV V0) []) (Dg : Sp Tryz.prog 68 [] [qV a b c] (nV dg) []) (ed : decide (dg < 1) = m0)
    (h1 : CodeOk Tryz.prog (.loop (nthLoop 0 (Tryz.f114.body.getD .skip))) (stX bf a b c ⟨F, T, oF, oT⟩ 3 (rlC F ++ rlC M ++ rlC T) 0 V0 F false) (.exit 0) (stX bf a b c ⟨F, T, oF, oT⟩ 3 (rlC F ++ rlC M ++ rlC T) 3 V A false))
    (h2 : CodeOk Tryz.prog (.loop (nthLoop 1 (Tryz.f114.body.getD .skip))) (stY a b c ⟨F, T, oF, oT⟩ 3 (rlC F ++ rlC M ++ rlC T) 0 V A m0) (.exit 2) (stY a b c ⟨F, T, oF, oT⟩ 3 (rlC F ++ rlC M ++ rlC T) 3 V A m)) :
    Sp Tryz.prog 114 [] [qV a b c, ivV F T oF oT, fcV bf] (.tuple #[exV V A m, nV 0]) [] := by
 obtain ⟨Fp, Fr, Fn⟩ := F
 obtain ⟨Tp, Tr, Tn⟩ := T
 obtain ⟨V0p, V0r, V0n⟩ := V0
 obtain ⟨Vp, Vr, Vn⟩ := V
 obtain ⟨Ap, Ar, An⟩ := A
 obtain ⟨Mp, Mr, Mn⟩ := M
 unfold stX exC qC rC rlC ivC at h1
 unfold stY exC qC rC rlC ivC at h2
 dsimp only at *
 exact walk (code := Tryz.f114.body.getD .skip) [Sy.c H, OW, Sy.c N, Sy.c Ad, Sy.c D, Sy.c FR, Sy.c K1, eb e1, Sy.c K2, eb e2, Sy.c At, lp [(0, 0), (1, 1), (2, 2), (3, 9), (4, 10)] h1, Sy.c Dg, eb ed, lp [(0, 0), (1, 1), (2, 2), (3, 3), (4, 4)] h2] fol Tryz.func114 (by kernel_rfl) (fun xs w => Tryz.call114 xs w) (by kernel_rfl)
theorem uLess (x y : Rl) {i j k l : Nat} [HasSz x.p i] [HasSz x.r j] [HasSz y.p k] [HasSz y.r l] (hx : 0 ≤ x.r) (hy : 0 ≤ y.r) (hs : i + j + k + l ≤ 1000 := by first | omega | decide) : Sp Tryz.prog 115 [] [rlV x, rlV y] (.bool (ltB x y)) [] := by
 have A := qCmp x y hx hy
 have e : decide (Rl.cmp x y < 0) = ltB x y := by rw [Bool.eq_iff_iff, cmp_lss, ltB_iff]
 clear hs hx hy
 generalize ltB x y = q at *
 generalize Rl.cmp x y = k at *
 obtain ⟨xp, xr, xn⟩ := x
 obtain ⟨yp, yr, yn⟩ := y
 exact walk (code := Tryz.f115.body.getD .skip) [c A, eb e] fol Tryz.func115 (by kernel_rfl) (fun xs w => Tryz.call115 xs w) (by kernel_rfl)
theorem uLeastW (a b c : Rat) (F T V A : Rl) (oF oT m : Bool) (E : Sp Tryz.prog 114 [] [qV a b c, ivV F T oF oT, fcV 115] (.tuple #[exV V A m, nV 0]) []) : Sp Tryz.prog 50 [] [qV a b c, ivV F T oF oT] (.tuple #[exV V A m, nV 0]) [] := by
 obtain ⟨Fp, Fr, Fn⟩ := F
 obtain ⟨Tp, Tr, Tn⟩ := T
 obtain ⟨Vp, Vr, Vn⟩ := V
 obtain ⟨Ap, Ar, An⟩ := A
 exact walk (code := Tryz.f50.body.getD .skip) [Sy.c E] fol Tryz.func50 (by kernel_rfl) (fun xs w => Tryz.call50 xs w) (by kernel_rfl)
theorem top_eq {b c : Rat} (hc : c ≠ 0) : -b / (c + c) = b / (-2 * c) := by
 have h2 : c + c ≠ 0 := fun e => hc (by grind)
 obtain ⟨t, ht⟩ : ∃ t, t = -b / (c + c) := ⟨_, rfl⟩
 have e : -b = t * (c + c) := by rw [ht]; exact (Rat.div_mul_cancel h2).symm
 obtain ⟨u, hu⟩ : ∃ u, u = b / (-2 * c) := ⟨_, rfl⟩
 have e2 : b = u * (-2 * c) := by rw [hu]; exact (Rat.div_mul_cancel (m2_ne hc)).symm
 rw [← ht, ← hu]
 have e3 : (t - u) * c = 0 := by grind
 rcases Rat.mul_eq_zero.1 e3 with h | h
 ·grind
 ·exact absurd h hc
end Go.Proofs.YtlblfgbpogljoaaGreatDoor

end
section
/- Reference 04: extreme values. -/
namespace Go.Proofs.YtlblfgbpogljoaaGreatDoor
open Go Go.RowKit Go.Sy
open Vi
end Go.Proofs.YtlblfgbpogljoaaGreatDoor

end
section
/- The package quadratic: Least and Greatest. -/
namespace Go.Proofs.YtlblfgbpogljoaaGreatDoor
open Go Go.RowKit Go.Sy
open Vi
noncomputable def hiB (I : Iv) (t : Rl) : Bool := inC (Rl.cmp I.F t) (Rl.cmp t I.T) I.oF I.oT
noncomputable def exA (bt : Rl → Rl → Bool) (a b c : Rat) (I : Iv) : Rl := pk bt (atQ a b c) (cand b c I.F I.T) I.F
noncomputable def exM (bt : Rl → Rl → Bool) (a b c : Rat) (I : Iv) : Bool := rch (hiB I) (fun t => eqB (atQ a b c t) (atQ a b c (exA bt a b c I))) (cand b c I.F I.T) (decide (dgQ a b c < 1))
theorem uExtreme (bf : FuncId) (bt : Rl → Rl → Bool) (a b c : Rat) (I : Iv) [ha : HasSz a 2] [hb : HasSz b 2] [hc : HasSz c 2] [h1 : HasSz I.F.p 8] [h2 : HasSz I.F.r 8] [h3 : HasSz I.T.p 8] [h4 : HasSz I.T.r 8] (hF : I.F.Ok) (hT : I.T.Ok) (hi : I.full)
    (hB : ∀ x y : Rl, x.Ok → y.Ok → HasSz x.p 98 → HasSz x.r 98 → HasSz y.p 98 → HasSz y.r 98 → Sp Tryz.prog bf [] [rlV x, rlV y] (.bool (bt x y)) []) :
    Sp Tryz.prog 114 [] [qV a b c, ivV I.F I.T I.oF I.oT, fcV bf] (.tuple #[exV (atQ a b c (exA bt a b c I)) (exA bt a b c I) (exM bt a b c I), nV 0]) [] := by
 have H := ucheck I.F I.T I.oF I.oT hF hT
 rw [(faC_iff hF hT).1 hi] at H
 have N := pNeg b
 have Ad := pAdd c c fz fz
 have AtF := uAt a b c I.F hF.nonneg
 have Dg := uDegree a b c
 have at_ : ∀ t : Rl, Gd t → Sp Tryz.prog 35 [] [qV a b c, rlV t] (rlV (atQ a b c t)) [] := fun t ht => by
  obtain ⟨ht, _, _⟩ := ht
  exact uAt a b c t ht.nonneg
 have ct_ : ∀ t : Rl, Gd t → Sp Tryz.prog 110 [] [ivV I.F I.T I.oF I.oT, rlV t] (.bool (hiB I t)) [] := fun t ht => by
  obtain ⟨ht, _, _⟩ := ht
  exact ucontains I.F I.T t I.oF I.oT hF.nonneg hT.nonneg ht.nonneg
 have b_ : ∀ s t : Rl, Gd s → Gd t → Sp Tryz.prog bf [] [rlV (atQ a b c s), rlV (atQ a b c t)] (.bool (bt (atQ a b c s) (atQ a b c t))) [] := fun s t hs ht => by
  obtain ⟨hs, _, _⟩ := hs
  obtain ⟨ht, _, _⟩ := ht
  exact hB _ _ (atQ_ok hs) (atQ_ok ht) (hs_mono (atQ_hsp a b c s) (by omega)) (hs_mono (atQ_hsr a b c s) (by omega)) (hs_mono (atQ_hsp a b c t) (by omega)) (hs_mono (atQ_hsr a b c t) (by omega))
 have e_ : ∀ V t : Rl, Bin .eql 30 (rlV (atQ a b c t)) (rlV V) (.bool (eqB (atQ a b c t) V)) := fun V t => binL _ _ rfl
 have gF : Gd I.F := ⟨hF, h1, h2⟩
 have gT : Gd I.T := ⟨hT, h3, h4⟩
 have g2 : ∀ t ∈ [I.F, I.T], Gd t := fun t ht => by
  simp only [List.mem_cons, List.not_mem_nil, or_false] at ht
  rcases ht with rfl | rfl
  ·exact gF
  ·exact gT
 have l1 := la_2 bf bt (atQ a b c) a b c I I.F I.T (fun t ht => at_ t (g2 t ht)) (fun s hs t ht => b_ s t (g2 s hs) (g2 t ht))
 have l2 := lb_2 (hiB I) (fun t => eqB (atQ a b c t) (atQ a b c (pk bt (atQ a b c) [I.F, I.T] I.F))) (atQ a b c) a b c I I.F I.T (atQ a b c (pk bt (atQ a b c) [I.F, I.T] I.F)) (pk bt (atQ a b c) [I.F, I.T] I.F) (decide (dgQ a b c < 1)) (fun t ht => at_ t (g2 t ht)) (fun t ht => ct_ t (g2 t ht)) (fun t _ => e_ _ t)
 unfold exM exA cand
 by_cases c0 : c = 0
 ·have D := pDiv0 (-b) fz
  rw [if_neg (fun h => h.1 c0)]
  have ez : c + c = 0 := by grind
  rw [← ez] at D
  exact ext_a bf a b c I.F I.T _ _ _ I.oF I.oT _ _ _ _ _ H N Ad D AtF Dg rfl l1 l2
 ·obtain ⟨h, hh⟩ : ∃ h, h = b / (-2 * c) := ⟨_, rfl⟩
  have cc0 : c + c ≠ 0 := fun e => c0 (by grind)
  have D := pDiv (-b) (c + c) cc0 fz fz
  haveI zh := hs_div (-b) (c + c) _ _ cc0
  rw [top_eq c0, ← hh] at D zh
  rw [← hh]
  have FR := qFromRat h
  have okh : (Rl.rat h).Ok := Rl.rat_ok h
  haveI z5 : HasSz (Rl.rat h).p 8 := hs_mono zh (by omega)
  haveI z6 : HasSz (Rl.rat h).r 8 := hs_mono hz0 (by omega)
  have K1 := qCmp I.F (Rl.rat h) hF.nonneg okh.nonneg
  have K2 := qCmp (Rl.rat h) I.T okh.nonneg hT.nonneg
  have v : (Rl.rat h).val = RR.ofRat h := Rl.rat_val h
  by_cases k1 : I.F.val < RR.ofRat h
  ·have e1 := (cmp_lss I.F (Rl.rat h)).2 (by rw [v]; exact k1)
   by_cases k2 : RR.ofRat h < I.T.val
   ·have e2 := (cmp_lss (Rl.rat h) I.T).2 (by rw [v]; exact k2)
    rw [if_pos ⟨c0, k1, k2⟩]
    have g3 : ∀ t ∈ [I.F, Rl.rat h, I.T], Gd t := fun t ht => by
     simp only [List.mem_cons, List.not_mem_nil, or_false] at ht
     rcases ht with rfl | rfl | rfl
     ·exact gF
     ·exact ⟨okh, z5, z6⟩
     ·exact gT
    have l3 := la_3 bf bt (atQ a b c) a b c I I.F (Rl.rat h) I.T (fun t ht => at_ t (g3 t ht)) (fun s hs t ht => b_ s t (g3 s hs) (g3 t ht))
    have l4 := lb_3 (hiB I) (fun t => eqB (atQ a b c t) (atQ a b c (pk bt (atQ a b c) [I.F, Rl.rat h, I.T] I.F))) (atQ a b c) a b c I I.F (Rl.rat h) I.T (atQ a b c (pk bt (atQ a b c) [I.F, Rl.rat h, I.T] I.F)) (pk bt (atQ a b c) [I.F, Rl.rat h, I.T] I.F) (decide (dgQ a b c < 1)) (fun t ht => at_ t (g3 t ht)) (fun t ht => ct_ t (g3 t ht)) (fun t _ => e_ _ t)
    exact ext_d bf a b c I.F I.T _ _ _ _ I.oF I.oT _ _ _ _ _ _ _ _ H N Ad D FR K1 e1 K2 e2 AtF Dg rfl l3 l4
   ·have e2 := cmp_lssF (x := Rl.rat h) (y := I.T) (by rw [v]; exact k2)
    rw [if_neg (fun g => k2 g.2.2)]
    exact ext_c bf a b c I.F I.T _ _ _ _ I.oF I.oT _ _ _ _ _ _ _ _ H N Ad D FR K1 e1 K2 e2 AtF Dg rfl l1 l2
  ·have e1 := cmp_lssF (x := I.F) (y := Rl.rat h) (by rw [v]; exact k1)
   rw [if_neg (fun g => k1 g.2.1)]
   exact ext_b bf a b c I.F I.T _ _ _ _ I.oF I.oT _ _ _ _ _ _ _ H N Ad D FR K1 e1 AtF Dg rfl l1 l2
theorem uLeast (a b c : Rat) (I : Iv) [ha : HasSz a 2] [hb : HasSz b 2] [hc : HasSz c 2] [h1 : HasSz I.F.p 8] [h2 : HasSz I.F.r 8] [h3 : HasSz I.T.p 8] [h4 : HasSz I.T.r 8] (hF : I.F.Ok) (hT : I.T.Ok) (hi : I.full) :
    Sp Tryz.prog 50 [] [qV a b c, ivV I.F I.T I.oF I.oT] (.tuple #[exV (atQ a b c (exA ltB a b c I)) (exA ltB a b c I) (exM ltB a b c I), nV 0]) [] :=
 uLeastW _ _ _ _ _ _ _ _ _ _ (uExtreme _ ltB a b c I hF hT hi fun x y hx hy _ _ _ _ => uLess x y hx.nonneg hy.nonneg)
end Go.Proofs.YtlblfgbpogljoaaGreatDoor

end
section
/- Reference 04: the least and the greatest value. -/
namespace Go.Proofs.YtlblfgbpogljoaaGreatDoor
open Go Go.RowKit Go.Sy
open Vi
end Go.Proofs.YtlblfgbpogljoaaGreatDoor

end
section
/- The package quadratic: the walks of Where. -/
namespace Go.Proofs.YtlblfgbpogljoaaGreatDoor
open Go Go.RowKit Go.Sy
open Vi
def WhereSp (a b c : Rat) (F T : Rl) (oF oT n z p : Bool) : List Iv → Prop
 | [] => Sp Tryz.prog 48 [] [qV a b c, ivV F T oF oT, .bool n, .bool z, .bool p] (.tuple #[.slice none 0 0, nV 0]) []
 | i :: l => Sp Tryz.prog 48 [] [qV a b c, ivV F T oF oT, .bool n, .bool z, .bool p] (.tuple #[row 0 (l.length + 1), nV 0]) [(l.length + 1, ivC i ++ ivs l)]
theorem wh_m (a b c : Rat) (F T : Rl) (oF oT : Bool) (i1 : Iv) (s1 : Int) (h1 : s1 = 1 ∨ s1 = -1) (n z p : Bool)
    (S : Sp Tryz.prog 44 [] [qV a b c, ivV F T oF oT] (.tuple #[row 0 1, nV 0]) [(1, pcs [(i1, s1)])]) : WhereSp a b c F T oF oT n z p (whr (wB n z p) [(i1, s1)]) := by
 obtain ⟨Fp, Fr, Fn⟩ := F
 obtain ⟨Tp, Tr, Tn⟩ := T
 obtain ⟨⟨p1, q1, n1⟩, ⟨u1, v1, m1⟩, o1, e1⟩ := i1
 rcases h1 with rfl | rfl <;> cases n <;> cases z <;> cases p <;>
 (show Sp _ _ _ _ _ _; exact walk (code := Tryz.f48.body.getD .skip) [cr S] fol Tryz.func48 (by kernel_rfl) (fun xs w => Tryz.call48 xs w) (by kernel_rfl))
theorem wh_r (a b c : Rat) (F T : Rl) (oF oT : Bool) (i1 : Iv)  (n z p : Bool)
    (S : Sp Tryz.prog 44 [] [qV a b c, ivV F T oF oT] (.tuple #[row 0 1, nV 0]) [(1, pcs [(i1, 0)])]) : WhereSp a b c F T oF oT n z p (whr (wB n z p) [(i1, 0)]) := by
 obtain ⟨Fp, Fr, Fn⟩ := F
 obtain ⟨Tp, Tr, Tn⟩ := T
 obtain ⟨⟨p1, q1, n1⟩, ⟨u1, v1, m1⟩, o1, e1⟩ := i1
 cases n <;> cases z <;> cases p <;>
 (show Sp _ _ _ _ _ _; exact walk (code := Tryz.f48.body.getD .skip) [cr S] fol Tryz.func48 (by kernel_rfl) (fun xs w => Tryz.call48 xs w) (by kernel_rfl))
theorem wh_mr (a b c : Rat) (F T : Rl) (oF oT : Bool) (i1 i2 : Iv) (s1 : Int) (h1 : s1 = 1 ∨ s1 = -1) (n z p : Bool)
    (S : Sp Tryz.prog 44 [] [qV a b c, ivV F T oF oT] (.tuple #[row 0 2, nV 0]) [(2, pcs [(i1, s1), (i2, 0)])]) : WhereSp a b c F T oF oT n z p (whr (wB n z p) [(i1, s1), (i2, 0)]) := by
 obtain ⟨Fp, Fr, Fn⟩ := F
 obtain ⟨Tp, Tr, Tn⟩ := T
 obtain ⟨⟨p1, q1, n1⟩, ⟨u1, v1, m1⟩, o1, e1⟩ := i1
 obtain ⟨⟨p2, q2, n2⟩, ⟨u2, v2, m2⟩, o2, e2⟩ := i2
 rcases h1 with rfl | rfl <;> cases n <;> cases z <;> cases p <;>
 (show Sp _ _ _ _ _ _; exact walk (code := Tryz.f48.body.getD .skip) [cr S] fol Tryz.func48 (by kernel_rfl) (fun xs w => Tryz.call48 xs w) (by kernel_rfl))
theorem wh_rm (a b c : Rat) (F T : Rl) (oF oT : Bool) (i1 i2 : Iv) (s2 : Int) (h2 : s2 = 1 ∨ s2 = -1) (n z p : Bool)
    (S : Sp Tryz.prog 44 [] [qV a b c, ivV F T oF oT] (.tuple #[row 0 2, nV 0]) [(2, pcs [(i1, 0), (i2, s2)])]) : WhereSp a b c F T oF oT n z p (whr (wB n z p) [(i1, 0), (i2, s2)]) := by
 obtain ⟨Fp, Fr, Fn⟩ := F
 obtain ⟨Tp, Tr, Tn⟩ := T
 obtain ⟨⟨p1, q1, n1⟩, ⟨u1, v1, m1⟩, o1, e1⟩ := i1
 obtain ⟨⟨p2, q2, n2⟩, ⟨u2, v2, m2⟩, o2, e2⟩ := i2
 rcases h2 with rfl | rfl <;> cases n <;> cases z <;> cases p <;>
 (show Sp _ _ _ _ _ _; exact walk (code := Tryz.f48.body.getD .skip) [cr S] fol Tryz.func48 (by kernel_rfl) (fun xs w => Tryz.call48 xs w) (by kernel_rfl))
theorem wh_mrm (a b c : Rat) (F T : Rl) (oF oT : Bool) (i1 i2 i3 : Iv) (s1 s3 : Int) (h1 : s1 = 1 ∨ s1 = -1) (h3 : s3 = 1 ∨ s3 = -1) (n z p : Bool)
    (S : Sp Tryz.prog 44 [] [qV a b c, ivV F T oF oT] (.tuple #[row 0 3, nV 0]) [(3, pcs [(i1, s1), (i2, 0), (i3, s3)])]) : WhereSp a b c F T oF oT n z p (whr (wB n z p) [(i1, s1), (i2, 0), (i3, s3)]) := by
 obtain ⟨Fp, Fr, Fn⟩ := F
 obtain ⟨Tp, Tr, Tn⟩ := T
 obtain ⟨⟨p1, q1, n1⟩, ⟨u1, v1, m1⟩, o1, e1⟩ := i1
 obtain ⟨⟨p2, q2, n2⟩, ⟨u2, v2, m2⟩, o2, e2⟩ := i2
 obtain ⟨⟨p3, q3, n3⟩, ⟨u3, v3, m3⟩, o3, e3⟩ := i3
 rcases h1 with rfl | rfl <;> rcases h3 with rfl | rfl <;> cases n <;> cases z <;> cases p <;>
 (show Sp _ _ _ _ _ _; exact walk (code := Tryz.f48.body.getD .skip) [cr S] fol Tryz.func48 (by kernel_rfl) (fun xs w => Tryz.call48 xs w) (by kernel_rfl))
theorem wh_rmr (a b c : Rat) (F T : Rl) (oF oT : Bool) (i1 i2 i3 : Iv) (s2 : Int) (h2 : s2 = 1 ∨ s2 = -1) (n z p : Bool)
    (S : Sp Tryz.prog 44 [] [qV a b c, ivV F T oF oT] (.tuple #[row 0 3, nV 0]) [(3, pcs [(i1, 0), (i2, s2), (i3, 0)])]) : WhereSp a b c F T oF oT n z p (whr (wB n z p) [(i1, 0), (i2, s2), (i3, 0)]) := by
 obtain ⟨Fp, Fr, Fn⟩ := F
 obtain ⟨Tp, Tr, Tn⟩ := T
 obtain ⟨⟨p1, q1, n1⟩, ⟨u1, v1, m1⟩, o1, e1⟩ := i1
 obtain ⟨⟨p2, q2, n2⟩, ⟨u2, v2, m2⟩, o2, e2⟩ := i2
 obtain ⟨⟨p3, q3, n3⟩, ⟨u3, v3, m3⟩, o3, e3⟩ := i3
 rcases h2 with rfl | rfl <;> cases n <;> cases z <;> cases p <;>
 (show Sp _ _ _ _ _ _; exact walk (code := Tryz.f48.body.getD .skip) [cr S] fol Tryz.func48 (by kernel_rfl) (fun xs w => Tryz.call48 xs w) (by kernel_rfl))
theorem wh_mrmr (a b c : Rat) (F T : Rl) (oF oT : Bool) (i1 i2 i3 i4 : Iv) (s1 s3 : Int) (h1 : s1 = 1 ∨ s1 = -1) (h3 : s3 = 1 ∨ s3 = -1) (n z p : Bool)
    (S : Sp Tryz.prog 44 [] [qV a b c, ivV F T oF oT] (.tuple #[row 0 4, nV 0]) [(4, pcs [(i1, s1), (i2, 0), (i3, s3), (i4, 0)])]) : WhereSp a b c F T oF oT n z p (whr (wB n z p) [(i1, s1), (i2, 0), (i3, s3), (i4, 0)]) := by
 obtain ⟨Fp, Fr, Fn⟩ := F
 obtain ⟨Tp, Tr, Tn⟩ := T
 obtain ⟨⟨p1, q1, n1⟩, ⟨u1, v1, m1⟩, o1, e1⟩ := i1
 obtain ⟨⟨p2, q2, n2⟩, ⟨u2, v2, m2⟩, o2, e2⟩ := i2
 obtain ⟨⟨p3, q3, n3⟩, ⟨u3, v3, m3⟩, o3, e3⟩ := i3
 obtain ⟨⟨p4, q4, n4⟩, ⟨u4, v4, m4⟩, o4, e4⟩ := i4
 rcases h1 with rfl | rfl <;> rcases h3 with rfl | rfl <;> cases n <;> cases z <;> cases p <;>
 (show Sp _ _ _ _ _ _; exact walk (code := Tryz.f48.body.getD .skip) [cr S] fol Tryz.func48 (by kernel_rfl) (fun xs w => Tryz.call48 xs w) (by kernel_rfl))
theorem wh_rmrm (a b c : Rat) (F T : Rl) (oF oT : Bool) (i1 i2 i3 i4 : Iv) (s2 s4 : Int) (h2 : s2 = 1 ∨ s2 = -1) (h4 : s4 = 1 ∨ s4 = -1) (n z p : Bool)
    (S : Sp Tryz.prog 44 [] [qV a b c, ivV F T oF oT] (.tuple #[row 0 4, nV 0]) [(4, pcs [(i1, 0), (i2, s2), (i3, 0), (i4, s4)])]) : WhereSp a b c F T oF oT n z p (whr (wB n z p) [(i1, 0), (i2, s2), (i3, 0), (i4, s4)]) := by
 obtain ⟨Fp, Fr, Fn⟩ := F
 obtain ⟨Tp, Tr, Tn⟩ := T
 obtain ⟨⟨p1, q1, n1⟩, ⟨u1, v1, m1⟩, o1, e1⟩ := i1
 obtain ⟨⟨p2, q2, n2⟩, ⟨u2, v2, m2⟩, o2, e2⟩ := i2
 obtain ⟨⟨p3, q3, n3⟩, ⟨u3, v3, m3⟩, o3, e3⟩ := i3
 obtain ⟨⟨p4, q4, n4⟩, ⟨u4, v4, m4⟩, o4, e4⟩ := i4
 rcases h2 with rfl | rfl <;> rcases h4 with rfl | rfl <;> cases n <;> cases z <;> cases p <;>
 (show Sp _ _ _ _ _ _; exact walk (code := Tryz.f48.body.getD .skip) [cr S] fol Tryz.func48 (by kernel_rfl) (fun xs w => Tryz.call48 xs w) (by kernel_rfl))
end Go.Proofs.YtlblfgbpogljoaaGreatDoor

end
