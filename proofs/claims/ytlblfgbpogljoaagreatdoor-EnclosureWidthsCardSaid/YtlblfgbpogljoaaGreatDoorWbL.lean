/- Part 12 of the proof; what it holds is said text by text. -/
import Derived.Test.YtlblfgbpogljoaaGreatDoorWbK
set_option linter.unusedSimpArgs false
set_option linter.unusedVariables false
section
/- Reference 05: Length. -/
namespace Go.Proofs.YtlblfgbpogljoaaGreatDoor
open Go Go.RowKit Go.Sy
open Vi
structure RLen (b : Int) (x : Rl × Rl) (fl fh tl th lo hi : Rat) (z : Int) : Prop where
 OF : Sp Tryz.prog 93 [] [rlV x.1, nV b] (oV fl fh) []
 OT : Sp Tryz.prog 93 [] [rlV x.2, nV b] (oV tl th) []
 Su : Sp Tryz.prog 92 [] [oV tl th, oV fl fh] (oV lo hi) []
 Sg : Sp Tryz.prog 26 [] [rV lo] (nV z) []
def oZC : List Value := [.bool false, .string ⟨#[]⟩, .bool false, .string ⟨#[]⟩, .bool false, .string ⟨#[]⟩, .bool false, .string ⟨#[]⟩]
def stN (n : Nat) (L : List Value) (b i : Int) (U : List Value) : St :=
 ⟨40, 1, [(0, row 0 n), (1, nV b), (4, ptr 1 0), (5, ptr 2 0), (6, nV i)], junk, [(0, rws n L), (1, blk 53 oZC), (2, blk 53 U)], 3⟩
def z4V (hi : Rat) : Value := .agg #[.bool false, .string ⟨#[]⟩, .bool false, .string ⟨#[]⟩, .bool (sg hi.num), .string (mg hi.num), .bool (sg (dn hi)), .string (mg (dn hi))]
theorem fLen0 (b : Int) : Sp Tryz.prog 25 [] [.slice none 0 0, nV b] oZ [] := by
 exact walk (code := Tryz.f25.body.getD .skip) [] fol Tryz.func25 (by kernel_rfl) (fun xs w => Tryz.call25 xs w) (by kernel_rfl)
theorem fr10n (b : Int) (x1 : Rl × Rl) (fl fh tl th lo hi s' S' : Rat) (z : Int) (H : RLen b x1 fl fh tl th lo hi z) (e : decide (z < 0) = true) (Ad : Sp Tryz.prog 94 [] [oZ, z4V hi] (oV s' S') []) :
    CodeOk Tryz.prog (nthLoop 0 (Tryz.f25.body.getD .skip)) (stN 1 (its [x1]) b 0 oZC) .normal (stN 1 (its [x1]) b 1 (rC s' ++ rC S')) := by
 obtain ⟨OF, OT, Su, Sg⟩ := H
 obtain ⟨⟨p1, q1, w1⟩, ⟨u1, v1, y1⟩⟩ := x1
 unfold stN rC oZC
 unfold z4V at Ad
 dsimp only at *
 exact piece [(0, 0), (1, 1), (2, 2)] [c OT, c OF, c Su, c Sg, eb e, c Ad] fol (by kernel_rfl)
theorem fr10p (b : Int) (x1 : Rl × Rl) (fl fh tl th lo hi s' S' : Rat) (z : Int) (H : RLen b x1 fl fh tl th lo hi z) (e : decide (z < 0) = false) (Ad : Sp Tryz.prog 94 [] [oZ, oV lo hi] (oV s' S') []) :
    CodeOk Tryz.prog (nthLoop 0 (Tryz.f25.body.getD .skip)) (stN 1 (its [x1]) b 0 oZC) .normal (stN 1 (its [x1]) b 1 (rC s' ++ rC S')) := by
 obtain ⟨OF, OT, Su, Sg⟩ := H
 obtain ⟨⟨p1, q1, w1⟩, ⟨u1, v1, y1⟩⟩ := x1
 unfold stN rC oZC
 dsimp only at *
 exact piece [(0, 0), (1, 1), (2, 2)] [c OT, c OF, c Su, c Sg, eb e, c Ad] fol (by kernel_rfl)
theorem fr1x (b : Int) (x1 : Rl × Rl) (s S : Rat) : CodeOk Tryz.prog (nthLoop 0 (Tryz.f25.body.getD .skip)) (stN 1 (its [x1]) b 1 (rC s ++ rC S)) (.exit 0) (stN 1 (its [x1]) b 1 (rC s ++ rC S)) := by
 obtain ⟨⟨p1, q1, w1⟩, ⟨u1, v1, y1⟩⟩ := x1
 unfold stN rC
 exact piece [(0, 0), (1, 1), (2, 2)] [] fol (by kernel_rfl)
theorem fLen1 (b : Int) (x1 : Rl × Rl) (s S : Rat) (hl : CodeOk Tryz.prog (.loop (nthLoop 0 (Tryz.f25.body.getD .skip))) (stN 1 (its [x1]) b 0 oZC) (.exit 0) (stN 1 (its [x1]) b 1 (rC s ++ rC S))) :
    Sp Tryz.prog 25 [(1, its [x1])] [row 0 1, nV b] (oV s S) [] := by
 obtain ⟨⟨p1, q1, w1⟩, ⟨u1, v1, y1⟩⟩ := x1
 unfold stN oZC rC at hl
 exact walk (code := Tryz.f25.body.getD .skip) [lp [(0, 0), (1, 1), (2, 2)] hl] fol Tryz.func25 (by kernel_rfl) (fun xs w => Tryz.call25 xs w) (by kernel_rfl)
theorem fr20n (b : Int) (x1 x2 : Rl × Rl) (fl fh tl th lo hi s' S' : Rat) (z : Int) (H : RLen b x1 fl fh tl th lo hi z) (e : decide (z < 0) = true) (Ad : Sp Tryz.prog 94 [] [oZ, z4V hi] (oV s' S') []) :
    CodeOk Tryz.prog (nthLoop 0 (Tryz.f25.body.getD .skip)) (stN 2 (its [x1, x2]) b 0 oZC) .normal (stN 2 (its [x1, x2]) b 1 (rC s' ++ rC S')) := by
 obtain ⟨OF, OT, Su, Sg⟩ := H
 obtain ⟨⟨p1, q1, w1⟩, ⟨u1, v1, y1⟩⟩ := x1
 obtain ⟨⟨p2, q2, w2⟩, ⟨u2, v2, y2⟩⟩ := x2
 unfold stN rC oZC
 unfold z4V at Ad
 dsimp only at *
 exact piece [(0, 0), (1, 1), (2, 2)] [c OT, c OF, c Su, c Sg, eb e, c Ad] fol (by kernel_rfl)
theorem fr20p (b : Int) (x1 x2 : Rl × Rl) (fl fh tl th lo hi s' S' : Rat) (z : Int) (H : RLen b x1 fl fh tl th lo hi z) (e : decide (z < 0) = false) (Ad : Sp Tryz.prog 94 [] [oZ, oV lo hi] (oV s' S') []) :
    CodeOk Tryz.prog (nthLoop 0 (Tryz.f25.body.getD .skip)) (stN 2 (its [x1, x2]) b 0 oZC) .normal (stN 2 (its [x1, x2]) b 1 (rC s' ++ rC S')) := by
 obtain ⟨OF, OT, Su, Sg⟩ := H
 obtain ⟨⟨p1, q1, w1⟩, ⟨u1, v1, y1⟩⟩ := x1
 obtain ⟨⟨p2, q2, w2⟩, ⟨u2, v2, y2⟩⟩ := x2
 unfold stN rC oZC
 dsimp only at *
 exact piece [(0, 0), (1, 1), (2, 2)] [c OT, c OF, c Su, c Sg, eb e, c Ad] fol (by kernel_rfl)
theorem fr21n (b : Int) (x1 x2 : Rl × Rl) (fl fh tl th lo hi s' S' s S : Rat) (z : Int) (H : RLen b x2 fl fh tl th lo hi z) (e : decide (z < 0) = true) (Ad : Sp Tryz.prog 94 [] [oV s S, z4V hi] (oV s' S') []) :
    CodeOk Tryz.prog (nthLoop 0 (Tryz.f25.body.getD .skip)) (stN 2 (its [x1, x2]) b 1 (rC s ++ rC S)) .normal (stN 2 (its [x1, x2]) b 2 (rC s' ++ rC S')) := by
 obtain ⟨OF, OT, Su, Sg⟩ := H
 obtain ⟨⟨p1, q1, w1⟩, ⟨u1, v1, y1⟩⟩ := x1
 obtain ⟨⟨p2, q2, w2⟩, ⟨u2, v2, y2⟩⟩ := x2
 unfold stN rC
 unfold z4V at Ad
 dsimp only at *
 exact piece [(0, 0), (1, 1), (2, 2)] [c OT, c OF, c Su, c Sg, eb e, c Ad] fol (by kernel_rfl)
theorem fr21p (b : Int) (x1 x2 : Rl × Rl) (fl fh tl th lo hi s' S' s S : Rat) (z : Int) (H : RLen b x2 fl fh tl th lo hi z) (e : decide (z < 0) = false) (Ad : Sp Tryz.prog 94 [] [oV s S, oV lo hi] (oV s' S') []) :
    CodeOk Tryz.prog (nthLoop 0 (Tryz.f25.body.getD .skip)) (stN 2 (its [x1, x2]) b 1 (rC s ++ rC S)) .normal (stN 2 (its [x1, x2]) b 2 (rC s' ++ rC S')) := by
 obtain ⟨OF, OT, Su, Sg⟩ := H
 obtain ⟨⟨p1, q1, w1⟩, ⟨u1, v1, y1⟩⟩ := x1
 obtain ⟨⟨p2, q2, w2⟩, ⟨u2, v2, y2⟩⟩ := x2
 unfold stN rC
 dsimp only at *
 exact piece [(0, 0), (1, 1), (2, 2)] [c OT, c OF, c Su, c Sg, eb e, c Ad] fol (by kernel_rfl)
theorem fr2x (b : Int) (x1 x2 : Rl × Rl) (s S : Rat) : CodeOk Tryz.prog (nthLoop 0 (Tryz.f25.body.getD .skip)) (stN 2 (its [x1, x2]) b 2 (rC s ++ rC S)) (.exit 0) (stN 2 (its [x1, x2]) b 2 (rC s ++ rC S)) := by
 obtain ⟨⟨p1, q1, w1⟩, ⟨u1, v1, y1⟩⟩ := x1
 obtain ⟨⟨p2, q2, w2⟩, ⟨u2, v2, y2⟩⟩ := x2
 unfold stN rC
 exact piece [(0, 0), (1, 1), (2, 2)] [] fol (by kernel_rfl)
theorem fLen2 (b : Int) (x1 x2 : Rl × Rl) (s S : Rat) (hl : CodeOk Tryz.prog (.loop (nthLoop 0 (Tryz.f25.body.getD .skip))) (stN 2 (its [x1, x2]) b 0 oZC) (.exit 0) (stN 2 (its [x1, x2]) b 2 (rC s ++ rC S))) :
    Sp Tryz.prog 25 [(2, its [x1, x2])] [row 0 2, nV b] (oV s S) [] := by
 obtain ⟨⟨p1, q1, w1⟩, ⟨u1, v1, y1⟩⟩ := x1
 obtain ⟨⟨p2, q2, w2⟩, ⟨u2, v2, y2⟩⟩ := x2
 unfold stN oZC rC at hl
 exact walk (code := Tryz.f25.body.getD .skip) [lp [(0, 0), (1, 1), (2, 2)] hl] fol Tryz.func25 (by kernel_rfl) (fun xs w => Tryz.call25 xs w) (by kernel_rfl)
theorem fr30n (b : Int) (x1 x2 x3 : Rl × Rl) (fl fh tl th lo hi s' S' : Rat) (z : Int) (H : RLen b x1 fl fh tl th lo hi z) (e : decide (z < 0) = true) (Ad : Sp Tryz.prog 94 [] [oZ, z4V hi] (oV s' S') []) :
    CodeOk Tryz.prog (nthLoop 0 (Tryz.f25.body.getD .skip)) (stN 3 (its [x1, x2, x3]) b 0 oZC) .normal (stN 3 (its [x1, x2, x3]) b 1 (rC s' ++ rC S')) := by
 obtain ⟨OF, OT, Su, Sg⟩ := H
 obtain ⟨⟨p1, q1, w1⟩, ⟨u1, v1, y1⟩⟩ := x1
 obtain ⟨⟨p2, q2, w2⟩, ⟨u2, v2, y2⟩⟩ := x2
 obtain ⟨⟨p3, q3, w3⟩, ⟨u3, v3, y3⟩⟩ := x3
 unfold stN rC oZC
 unfold z4V at Ad
 dsimp only at *
 exact piece [(0, 0), (1, 1), (2, 2)] [c OT, c OF, c Su, c Sg, eb e, c Ad] fol (by kernel_rfl)
theorem fr30p (b : Int) (x1 x2 x3 : Rl × Rl) (fl fh tl th lo hi s' S' : Rat) (z : Int) (H : RLen b x1 fl fh tl th lo hi z) (e : decide (z < 0) = false) (Ad : Sp Tryz.prog 94 [] [oZ, oV lo hi] (oV s' S') []) :
    CodeOk Tryz.prog (nthLoop 0 (Tryz.f25.body.getD .skip)) (stN 3 (its [x1, x2, x3]) b 0 oZC) .normal (stN 3 (its [x1, x2, x3]) b 1 (rC s' ++ rC S')) := by
 obtain ⟨OF, OT, Su, Sg⟩ := H
 obtain ⟨⟨p1, q1, w1⟩, ⟨u1, v1, y1⟩⟩ := x1
 obtain ⟨⟨p2, q2, w2⟩, ⟨u2, v2, y2⟩⟩ := x2
 obtain ⟨⟨p3, q3, w3⟩, ⟨u3, v3, y3⟩⟩ := x3
 unfold stN rC oZC
 dsimp only at *
 exact piece [(0, 0), (1, 1), (2, 2)] [c OT, c OF, c Su, c Sg, eb e, c Ad] fol (by kernel_rfl)
theorem fr31n (b : Int) (x1 x2 x3 : Rl × Rl) (fl fh tl th lo hi s' S' s S : Rat) (z : Int) (H : RLen b x2 fl fh tl th lo hi z) (e : decide (z < 0) = true) (Ad : Sp Tryz.prog 94 [] [oV s S, z4V hi] (oV s' S') []) :
    CodeOk Tryz.prog (nthLoop 0 (Tryz.f25.body.getD .skip)) (stN 3 (its [x1, x2, x3]) b 1 (rC s ++ rC S)) .normal (stN 3 (its [x1, x2, x3]) b 2 (rC s' ++ rC S')) := by
 obtain ⟨OF, OT, Su, Sg⟩ := H
 obtain ⟨⟨p1, q1, w1⟩, ⟨u1, v1, y1⟩⟩ := x1
 obtain ⟨⟨p2, q2, w2⟩, ⟨u2, v2, y2⟩⟩ := x2
 obtain ⟨⟨p3, q3, w3⟩, ⟨u3, v3, y3⟩⟩ := x3
 unfold stN rC
 unfold z4V at Ad
 dsimp only at *
 exact piece [(0, 0), (1, 1), (2, 2)] [c OT, c OF, c Su, c Sg, eb e, c Ad] fol (by kernel_rfl)
theorem fr31p (b : Int) (x1 x2 x3 : Rl × Rl) (fl fh tl th lo hi s' S' s S : Rat) (z : Int) (H : RLen b x2 fl fh tl th lo hi z) (e : decide (z < 0) = false) (Ad : Sp Tryz.prog 94 [] [oV s S, oV lo hi] (oV s' S') []) :
    CodeOk Tryz.prog (nthLoop 0 (Tryz.f25.body.getD .skip)) (stN 3 (its [x1, x2, x3]) b 1 (rC s ++ rC S)) .normal (stN 3 (its [x1, x2, x3]) b 2 (rC s' ++ rC S')) := by
 obtain ⟨OF, OT, Su, Sg⟩ := H
 obtain ⟨⟨p1, q1, w1⟩, ⟨u1, v1, y1⟩⟩ := x1
 obtain ⟨⟨p2, q2, w2⟩, ⟨u2, v2, y2⟩⟩ := x2
 obtain ⟨⟨p3, q3, w3⟩, ⟨u3, v3, y3⟩⟩ := x3
 unfold stN rC
 dsimp only at *
 exact piece [(0, 0), (1, 1), (2, 2)] [c OT, c OF, c Su, c Sg, eb e, c Ad] fol (by kernel_rfl)
theorem fr32n (b : Int) (x1 x2 x3 : Rl × Rl) (fl fh tl th lo hi s' S' s S : Rat) (z : Int) (H : RLen b x3 fl fh tl th lo hi z) (e : decide (z < 0) = true) (Ad : Sp Tryz.prog 94 [] [oV s S, z4V hi] (oV s' S') []) :
    CodeOk Tryz.prog (nthLoop 0 (Tryz.f25.body.getD .skip)) (stN 3 (its [x1, x2, x3]) b 2 (rC s ++ rC S)) .normal (stN 3 (its [x1, x2, x3]) b 3 (rC s' ++ rC S')) := by
 obtain ⟨OF, OT, Su, Sg⟩ := H
 obtain ⟨⟨p1, q1, w1⟩, ⟨u1, v1, y1⟩⟩ := x1
 obtain ⟨⟨p2, q2, w2⟩, ⟨u2, v2, y2⟩⟩ := x2
 obtain ⟨⟨p3, q3, w3⟩, ⟨u3, v3, y3⟩⟩ := x3
 unfold stN rC
 unfold z4V at Ad
 dsimp only at *
 exact piece [(0, 0), (1, 1), (2, 2)] [c OT, c OF, c Su, c Sg, eb e, c Ad] fol (by kernel_rfl)
theorem fr32p (b : Int) (x1 x2 x3 : Rl × Rl) (fl fh tl th lo hi s' S' s S : Rat) (z : Int) (H : RLen b x3 fl fh tl th lo hi z) (e : decide (z < 0) = false) (Ad : Sp Tryz.prog 94 [] [oV s S, oV lo hi] (oV s' S') []) :
    CodeOk Tryz.prog (nthLoop 0 (Tryz.f25.body.getD .skip)) (stN 3 (its [x1, x2, x3]) b 2 (rC s ++ rC S)) .normal (stN 3 (its [x1, x2, x3]) b 3 (rC s' ++ rC S')) := by
 obtain ⟨OF, OT, Su, Sg⟩ := H
 obtain ⟨⟨p1, q1, w1⟩, ⟨u1, v1, y1⟩⟩ := x1
 obtain ⟨⟨p2, q2, w2⟩, ⟨u2, v2, y2⟩⟩ := x2
 obtain ⟨⟨p3, q3, w3⟩, ⟨u3, v3, y3⟩⟩ := x3
 unfold stN rC
 dsimp only at *
 exact piece [(0, 0), (1, 1), (2, 2)] [c OT, c OF, c Su, c Sg, eb e, c Ad] fol (by kernel_rfl)
theorem fr3x (b : Int) (x1 x2 x3 : Rl × Rl) (s S : Rat) : CodeOk Tryz.prog (nthLoop 0 (Tryz.f25.body.getD .skip)) (stN 3 (its [x1, x2, x3]) b 3 (rC s ++ rC S)) (.exit 0) (stN 3 (its [x1, x2, x3]) b 3 (rC s ++ rC S)) := by
 obtain ⟨⟨p1, q1, w1⟩, ⟨u1, v1, y1⟩⟩ := x1
 obtain ⟨⟨p2, q2, w2⟩, ⟨u2, v2, y2⟩⟩ := x2
 obtain ⟨⟨p3, q3, w3⟩, ⟨u3, v3, y3⟩⟩ := x3
 unfold stN rC
 exact piece [(0, 0), (1, 1), (2, 2)] [] fol (by kernel_rfl)
theorem fLen3 (b : Int) (x1 x2 x3 : Rl × Rl) (s S : Rat) (hl : CodeOk Tryz.prog (.loop (nthLoop 0 (Tryz.f25.body.getD .skip))) (stN 3 (its [x1, x2, x3]) b 0 oZC) (.exit 0) (stN 3 (its [x1, x2, x3]) b 3 (rC s ++ rC S))) :
    Sp Tryz.prog 25 [(3, its [x1, x2, x3])] [row 0 3, nV b] (oV s S) [] := by
 obtain ⟨⟨p1, q1, w1⟩, ⟨u1, v1, y1⟩⟩ := x1
 obtain ⟨⟨p2, q2, w2⟩, ⟨u2, v2, y2⟩⟩ := x2
 obtain ⟨⟨p3, q3, w3⟩, ⟨u3, v3, y3⟩⟩ := x3
 unfold stN oZC rC at hl
 exact walk (code := Tryz.f25.body.getD .skip) [lp [(0, 0), (1, 1), (2, 2)] hl] fol Tryz.func25 (by kernel_rfl) (fun xs w => Tryz.call25 xs w) (by kernel_rfl)
theorem fr40n (b : Int) (x1 x2 x3 x4 : Rl × Rl) (fl fh tl th lo hi s' S' : Rat) (z : Int) (H : RLen b x1 fl fh tl th lo hi z) (e : decide (z < 0) = true) (Ad : Sp Tryz.prog 94 [] [oZ, z4V hi] (oV s' S') []) :
    CodeOk Tryz.prog (nthLoop 0 (Tryz.f25.body.getD .skip)) (stN 4 (its [x1, x2, x3, x4]) b 0 oZC) .normal (stN 4 (its [x1, x2, x3, x4]) b 1 (rC s' ++ rC S')) := by
 obtain ⟨OF, OT, Su, Sg⟩ := H
 obtain ⟨⟨p1, q1, w1⟩, ⟨u1, v1, y1⟩⟩ := x1
 obtain ⟨⟨p2, q2, w2⟩, ⟨u2, v2, y2⟩⟩ := x2
 obtain ⟨⟨p3, q3, w3⟩, ⟨u3, v3, y3⟩⟩ := x3
 obtain ⟨⟨p4, q4, w4⟩, ⟨u4, v4, y4⟩⟩ := x4
 unfold stN rC oZC
 unfold z4V at Ad
 dsimp only at *
 exact piece [(0, 0), (1, 1), (2, 2)] [c OT, c OF, c Su, c Sg, eb e, c Ad] fol (by kernel_rfl)
theorem fr40p (b : Int) (x1 x2 x3 x4 : Rl × Rl) (fl fh tl th lo hi s' S' : Rat) (z : Int) (H : RLen b x1 fl fh tl th lo hi z) (e : decide (z < 0) = false) (Ad : Sp Tryz.prog 94 [] [oZ, oV lo hi] (oV s' S') []) :
    CodeOk Tryz.prog (nthLoop 0 (Tryz.f25.body.getD .skip)) (stN 4 (its [x1, x2, x3, x4]) b 0 oZC) .normal (stN 4 (its [x1, x2, x3, x4]) b 1 (rC s' ++ rC S')) := by
 obtain ⟨OF, OT, Su, Sg⟩ := H
 obtain ⟨⟨p1, q1, w1⟩, ⟨u1, v1, y1⟩⟩ := x1
 obtain ⟨⟨p2, q2, w2⟩, ⟨u2, v2, y2⟩⟩ := x2
 obtain ⟨⟨p3, q3, w3⟩, ⟨u3, v3, y3⟩⟩ := x3
 obtain ⟨⟨p4, q4, w4⟩, ⟨u4, v4, y4⟩⟩ := x4
 unfold stN rC oZC
 dsimp only at *
 exact piece [(0, 0), (1, 1), (2, 2)] [c OT, c OF, c Su, c Sg, eb e, c Ad] fol (by kernel_rfl)
theorem fr41n (b : Int) (x1 x2 x3 x4 : Rl × Rl) (fl fh tl th lo hi s' S' s S : Rat) (z : Int) (H : RLen b x2 fl fh tl th lo hi z) (e : decide (z < 0) = true) (Ad : Sp Tryz.prog 94 [] [oV s S, z4V hi] (oV s' S') []) :
    CodeOk Tryz.prog (nthLoop 0 (Tryz.f25.body.getD .skip)) (stN 4 (its [x1, x2, x3, x4]) b 1 (rC s ++ rC S)) .normal (stN 4 (its [x1, x2, x3, x4]) b 2 (rC s' ++ rC S')) := by
 obtain ⟨OF, OT, Su, Sg⟩ := H
 obtain ⟨⟨p1, q1, w1⟩, ⟨u1, v1, y1⟩⟩ := x1
 obtain ⟨⟨p2, q2, w2⟩, ⟨u2, v2, y2⟩⟩ := x2
 obtain ⟨⟨p3, q3, w3⟩, ⟨u3, v3, y3⟩⟩ := x3
 obtain ⟨⟨p4, q4, w4⟩, ⟨u4, v4, y4⟩⟩ := x4
 unfold stN rC
 unfold z4V at Ad
 dsimp only at *
 exact piece [(0, 0), (1, 1), (2, 2)] [c OT, c OF, c Su, c Sg, eb e, c Ad] fol (by kernel_rfl)
theorem fr41p (b : Int) (x1 x2 x3 x4 : Rl × Rl) (fl fh tl th lo hi s' S' s S : Rat) (z : Int) (H : RLen b x2 fl fh tl th lo hi z) (e : decide (z < 0) = false) (Ad : Sp Tryz.prog 94 [] [oV s S, oV lo hi] (oV s' S') []) :
    CodeOk Tryz.prog (nthLoop 0 (Tryz.f25.body.getD .skip)) (stN 4 (its [x1, x2, x3, x4]) b 1 (rC s ++ rC S)) .normal (stN 4 (its [x1, x2, x3, x4]) b 2 (rC s' ++ rC S')) := by
 obtain ⟨OF, OT, Su, Sg⟩ := H
 obtain ⟨⟨p1, q1, w1⟩, ⟨u1, v1, y1⟩⟩ := x1
 obtain ⟨⟨p2, q2, w2⟩, ⟨u2, v2, y2⟩⟩ := x2
 obtain ⟨⟨p3, q3, w3⟩, ⟨u3, v3, y3⟩⟩ := x3
 obtain ⟨⟨p4, q4, w4⟩, ⟨u4, v4, y4⟩⟩ := x4
 unfold stN rC
 dsimp only at *
 exact piece [(0, 0), (1, 1), (2, 2)] [c OT, c OF, c Su, c Sg, eb e, c Ad] fol (by kernel_rfl)
theorem fr42n (b : Int) (x1 x2 x3 x4 : Rl × Rl) (fl fh tl th lo hi s' S' s S : Rat) (z : Int) (H : RLen b x3 fl fh tl th lo hi z) (e : decide (z < 0) = true) (Ad : Sp Tryz.prog 94 [] [oV s S, z4V hi] (oV s' S') []) :
    CodeOk Tryz.prog (nthLoop 0 (Tryz.f25.body.getD .skip)) (stN 4 (its [x1, x2, x3, x4]) b 2 (rC s ++ rC S)) .normal (stN 4 (its [x1, x2, x3, x4]) b 3 (rC s' ++ rC S')) := by
 obtain ⟨OF, OT, Su, Sg⟩ := H
 obtain ⟨⟨p1, q1, w1⟩, ⟨u1, v1, y1⟩⟩ := x1
 obtain ⟨⟨p2, q2, w2⟩, ⟨u2, v2, y2⟩⟩ := x2
 obtain ⟨⟨p3, q3, w3⟩, ⟨u3, v3, y3⟩⟩ := x3
 obtain ⟨⟨p4, q4, w4⟩, ⟨u4, v4, y4⟩⟩ := x4
 unfold stN rC
 unfold z4V at Ad
 dsimp only at *
 exact piece [(0, 0), (1, 1), (2, 2)] [c OT, c OF, c Su, c Sg, eb e, c Ad] fol (by kernel_rfl)
theorem fr42p (b : Int) (x1 x2 x3 x4 : Rl × Rl) (fl fh tl th lo hi s' S' s S : Rat) (z : Int) (H : RLen b x3 fl fh tl th lo hi z) (e : decide (z < 0) = false) (Ad : Sp Tryz.prog 94 [] [oV s S, oV lo hi] (oV s' S') []) :
    CodeOk Tryz.prog (nthLoop 0 (Tryz.f25.body.getD .skip)) (stN 4 (its [x1, x2, x3, x4]) b 2 (rC s ++ rC S)) .normal (stN 4 (its [x1, x2, x3, x4]) b 3 (rC s' ++ rC S')) := by
 obtain ⟨OF, OT, Su, Sg⟩ := H
 obtain ⟨⟨p1, q1, w1⟩, ⟨u1, v1, y1⟩⟩ := x1
 obtain ⟨⟨p2, q2, w2⟩, ⟨u2, v2, y2⟩⟩ := x2
 obtain ⟨⟨p3, q3, w3⟩, ⟨u3, v3, y3⟩⟩ := x3
 obtain ⟨⟨p4, q4, w4⟩, ⟨u4, v4, y4⟩⟩ := x4
 unfold stN rC
 dsimp only at *
 exact piece [(0, 0), (1, 1), (2, 2)] [c OT, c OF, c Su, c Sg, eb e, c Ad] fol (by kernel_rfl)
theorem fr43n (b : Int) (x1 x2 x3 x4 : Rl × Rl) (fl fh tl th lo hi s' S' s S : Rat) (z : Int) (H : RLen b x4 fl fh tl th lo hi z) (e : decide (z < 0) = true) (Ad : Sp Tryz.prog 94 [] [oV s S, z4V hi] (oV s' S') []) :
    CodeOk Tryz.prog (nthLoop 0 (Tryz.f25.body.getD .skip)) (stN 4 (its [x1, x2, x3, x4]) b 3 (rC s ++ rC S)) .normal (stN 4 (its [x1, x2, x3, x4]) b 4 (rC s' ++ rC S')) := by
 obtain ⟨OF, OT, Su, Sg⟩ := H
 obtain ⟨⟨p1, q1, w1⟩, ⟨u1, v1, y1⟩⟩ := x1
 obtain ⟨⟨p2, q2, w2⟩, ⟨u2, v2, y2⟩⟩ := x2
 obtain ⟨⟨p3, q3, w3⟩, ⟨u3, v3, y3⟩⟩ := x3
 obtain ⟨⟨p4, q4, w4⟩, ⟨u4, v4, y4⟩⟩ := x4
 unfold stN rC
 unfold z4V at Ad
 dsimp only at *
 exact piece [(0, 0), (1, 1), (2, 2)] [c OT, c OF, c Su, c Sg, eb e, c Ad] fol (by kernel_rfl)
theorem fr43p (b : Int) (x1 x2 x3 x4 : Rl × Rl) (fl fh tl th lo hi s' S' s S : Rat) (z : Int) (H : RLen b x4 fl fh tl th lo hi z) (e : decide (z < 0) = false) (Ad : Sp Tryz.prog 94 [] [oV s S, oV lo hi] (oV s' S') []) :
    CodeOk Tryz.prog (nthLoop 0 (Tryz.f25.body.getD .skip)) (stN 4 (its [x1, x2, x3, x4]) b 3 (rC s ++ rC S)) .normal (stN 4 (its [x1, x2, x3, x4]) b 4 (rC s' ++ rC S')) := by
 obtain ⟨OF, OT, Su, Sg⟩ := H
 obtain ⟨⟨p1, q1, w1⟩, ⟨u1, v1, y1⟩⟩ := x1
 obtain ⟨⟨p2, q2, w2⟩, ⟨u2, v2, y2⟩⟩ := x2
 obtain ⟨⟨p3, q3, w3⟩, ⟨u3, v3, y3⟩⟩ := x3
 obtain ⟨⟨p4, q4, w4⟩, ⟨u4, v4, y4⟩⟩ := x4
 unfold stN rC
 dsimp only at *
 exact piece [(0, 0), (1, 1), (2, 2)] [c OT, c OF, c Su, c Sg, eb e, c Ad] fol (by kernel_rfl)
theorem fr4x (b : Int) (x1 x2 x3 x4 : Rl × Rl) (s S : Rat) : CodeOk Tryz.prog (nthLoop 0 (Tryz.f25.body.getD .skip)) (stN 4 (its [x1, x2, x3, x4]) b 4 (rC s ++ rC S)) (.exit 0) (stN 4 (its [x1, x2, x3, x4]) b 4 (rC s ++ rC S)) := by
 obtain ⟨⟨p1, q1, w1⟩, ⟨u1, v1, y1⟩⟩ := x1
 obtain ⟨⟨p2, q2, w2⟩, ⟨u2, v2, y2⟩⟩ := x2
 obtain ⟨⟨p3, q3, w3⟩, ⟨u3, v3, y3⟩⟩ := x3
 obtain ⟨⟨p4, q4, w4⟩, ⟨u4, v4, y4⟩⟩ := x4
 unfold stN rC
 exact piece [(0, 0), (1, 1), (2, 2)] [] fol (by kernel_rfl)
theorem fLen4 (b : Int) (x1 x2 x3 x4 : Rl × Rl) (s S : Rat) (hl : CodeOk Tryz.prog (.loop (nthLoop 0 (Tryz.f25.body.getD .skip))) (stN 4 (its [x1, x2, x3, x4]) b 0 oZC) (.exit 0) (stN 4 (its [x1, x2, x3, x4]) b 4 (rC s ++ rC S))) :
    Sp Tryz.prog 25 [(4, its [x1, x2, x3, x4])] [row 0 4, nV b] (oV s S) [] := by
 obtain ⟨⟨p1, q1, w1⟩, ⟨u1, v1, y1⟩⟩ := x1
 obtain ⟨⟨p2, q2, w2⟩, ⟨u2, v2, y2⟩⟩ := x2
 obtain ⟨⟨p3, q3, w3⟩, ⟨u3, v3, y3⟩⟩ := x3
 obtain ⟨⟨p4, q4, w4⟩, ⟨u4, v4, y4⟩⟩ := x4
 unfold stN oZC rC at hl
 exact walk (code := Tryz.f25.body.getD .skip) [lp [(0, 0), (1, 1), (2, 2)] hl] fol Tryz.func25 (by kernel_rfl) (fun xs w => Tryz.call25 xs w) (by kernel_rfl)
theorem fr50n (b : Int) (x1 x2 x3 x4 x5 : Rl × Rl) (fl fh tl th lo hi s' S' : Rat) (z : Int) (H : RLen b x1 fl fh tl th lo hi z) (e : decide (z < 0) = true) (Ad : Sp Tryz.prog 94 [] [oZ, z4V hi] (oV s' S') []) :
    CodeOk Tryz.prog (nthLoop 0 (Tryz.f25.body.getD .skip)) (stN 5 (its [x1, x2, x3, x4, x5]) b 0 oZC) .normal (stN 5 (its [x1, x2, x3, x4, x5]) b 1 (rC s' ++ rC S')) := by
 obtain ⟨OF, OT, Su, Sg⟩ := H
 obtain ⟨⟨p1, q1, w1⟩, ⟨u1, v1, y1⟩⟩ := x1
 obtain ⟨⟨p2, q2, w2⟩, ⟨u2, v2, y2⟩⟩ := x2
 obtain ⟨⟨p3, q3, w3⟩, ⟨u3, v3, y3⟩⟩ := x3
 obtain ⟨⟨p4, q4, w4⟩, ⟨u4, v4, y4⟩⟩ := x4
 obtain ⟨⟨p5, q5, w5⟩, ⟨u5, v5, y5⟩⟩ := x5
 unfold stN rC oZC
 unfold z4V at Ad
 dsimp only at *
 exact piece [(0, 0), (1, 1), (2, 2)] [c OT, c OF, c Su, c Sg, eb e, c Ad] fol (by kernel_rfl)
theorem fr50p (b : Int) (x1 x2 x3 x4 x5 : Rl × Rl) (fl fh tl th lo hi s' S' : Rat) (z : Int) (H : RLen b x1 fl fh tl th lo hi z) (e : decide (z < 0) = false) (Ad : Sp Tryz.prog 94 [] [oZ, oV lo hi] (oV s' S') []) :
    CodeOk Tryz.prog (nthLoop 0 (Tryz.f25.body.getD .skip)) (stN 5 (its [x1, x2, x3, x4, x5]) b 0 oZC) .normal (stN 5 (its [x1, x2, x3, x4, x5]) b 1 (rC s' ++ rC S')) := by
 obtain ⟨OF, OT, Su, Sg⟩ := H
 obtain ⟨⟨p1, q1, w1⟩, ⟨u1, v1, y1⟩⟩ := x1
 obtain ⟨⟨p2, q2, w2⟩, ⟨u2, v2, y2⟩⟩ := x2
 obtain ⟨⟨p3, q3, w3⟩, ⟨u3, v3, y3⟩⟩ := x3
 obtain ⟨⟨p4, q4, w4⟩, ⟨u4, v4, y4⟩⟩ := x4
 obtain ⟨⟨p5, q5, w5⟩, ⟨u5, v5, y5⟩⟩ := x5
 unfold stN rC oZC
 dsimp only at *
 exact piece [(0, 0), (1, 1), (2, 2)] [c OT, c OF, c Su, c Sg, eb e, c Ad] fol (by kernel_rfl)
theorem fr51n (b : Int) (x1 x2 x3 x4 x5 : Rl × Rl) (fl fh tl th lo hi s' S' s S : Rat) (z : Int) (H : RLen b x2 fl fh tl th lo hi z) (e : decide (z < 0) = true) (Ad : Sp Tryz.prog 94 [] [oV s S, z4V hi] (oV s' S') []) :
    CodeOk Tryz.prog (nthLoop 0 (Tryz.f25.body.getD .skip)) (stN 5 (its [x1, x2, x3, x4, x5]) b 1 (rC s ++ rC S)) .normal (stN 5 (its [x1, x2, x3, x4, x5]) b 2 (rC s' ++ rC S')) := by
 obtain ⟨OF, OT, Su, Sg⟩ := H
 obtain ⟨⟨p1, q1, w1⟩, ⟨u1, v1, y1⟩⟩ := x1
 obtain ⟨⟨p2, q2, w2⟩, ⟨u2, v2, y2⟩⟩ := x2
 obtain ⟨⟨p3, q3, w3⟩, ⟨u3, v3, y3⟩⟩ := x3
 obtain ⟨⟨p4, q4, w4⟩, ⟨u4, v4, y4⟩⟩ := x4
 obtain ⟨⟨p5, q5, w5⟩, ⟨u5, v5, y5⟩⟩ := x5
 unfold stN rC
 unfold z4V at Ad
 dsimp only at *
 exact piece [(0, 0), (1, 1), (2, 2)] [c OT, c OF, c Su, c Sg, eb e, c Ad] fol (by kernel_rfl)
theorem fr51p (b : Int) (x1 x2 x3 x4 x5 : Rl × Rl) (fl fh tl th lo hi s' S' s S : Rat) (z : Int) (H : RLen b x2 fl fh tl th lo hi z) (e : decide (z < 0) = false) (Ad : Sp Tryz.prog 94 [] [oV s S, oV lo hi] (oV s' S') []) :
    CodeOk Tryz.prog (nthLoop 0 (Tryz.f25.body.getD .skip)) (stN 5 (its [x1, x2, x3, x4, x5]) b 1 (rC s ++ rC S)) .normal (stN 5 (its [x1, x2, x3, x4, x5]) b 2 (rC s' ++ rC S')) := by
 obtain ⟨OF, OT, Su, Sg⟩ := H
 obtain ⟨⟨p1, q1, w1⟩, ⟨u1, v1, y1⟩⟩ := x1
 obtain ⟨⟨p2, q2, w2⟩, ⟨u2, v2, y2⟩⟩ := x2
 obtain ⟨⟨p3, q3, w3⟩, ⟨u3, v3, y3⟩⟩ := x3
 obtain ⟨⟨p4, q4, w4⟩, ⟨u4, v4, y4⟩⟩ := x4
 obtain ⟨⟨p5, q5, w5⟩, ⟨u5, v5, y5⟩⟩ := x5
 unfold stN rC
 dsimp only at *
 exact piece [(0, 0), (1, 1), (2, 2)] [c OT, c OF, c Su, c Sg, eb e, c Ad] fol (by kernel_rfl)
theorem fr52n (b : Int) (x1 x2 x3 x4 x5 : Rl × Rl) (fl fh tl th lo hi s' S' s S : Rat) (z : Int) (H : RLen b x3 fl fh tl th lo hi z) (e : decide (z < 0) = true) (Ad : Sp Tryz.prog 94 [] [oV s S, z4V hi] (oV s' S') []) :
    CodeOk Tryz.prog (nthLoop 0 (Tryz.f25.body.getD .skip)) (stN 5 (its [x1, x2, x3, x4, x5]) b 2 (rC s ++ rC S)) .normal (stN 5 (its [x1, x2, x3, x4, x5]) b 3 (rC s' ++ rC S')) := by
 obtain ⟨OF, OT, Su, Sg⟩ := H
 obtain ⟨⟨p1, q1, w1⟩, ⟨u1, v1, y1⟩⟩ := x1
 obtain ⟨⟨p2, q2, w2⟩, ⟨u2, v2, y2⟩⟩ := x2
 obtain ⟨⟨p3, q3, w3⟩, ⟨u3, v3, y3⟩⟩ := x3
 obtain ⟨⟨p4, q4, w4⟩, ⟨u4, v4, y4⟩⟩ := x4
 obtain ⟨⟨p5, q5, w5⟩, ⟨u5, v5, y5⟩⟩ := x5
 unfold stN rC
 unfold z4V at Ad
 dsimp only at *
 exact piece [(0, 0), (1, 1), (2, 2)] [c OT, c OF, c Su, c Sg, eb e, c Ad] fol (by kernel_rfl)
theorem fr52p (b : Int) (x1 x2 x3 x4 x5 : Rl × Rl) (fl fh tl th lo hi s' S' s S : Rat) (z : Int) (H : RLen b x3 fl fh tl th lo hi z) (e : decide (z < 0) = false) (Ad : Sp Tryz.prog 94 [] [oV s S, oV lo hi] (oV s' S') []) :
    CodeOk Tryz.prog (nthLoop 0 (Tryz.f25.body.getD .skip)) (stN 5 (its [x1, x2, x3, x4, x5]) b 2 (rC s ++ rC S)) .normal (stN 5 (its [x1, x2, x3, x4, x5]) b 3 (rC s' ++ rC S')) := by
 obtain ⟨OF, OT, Su, Sg⟩ := H
 obtain ⟨⟨p1, q1, w1⟩, ⟨u1, v1, y1⟩⟩ := x1
 obtain ⟨⟨p2, q2, w2⟩, ⟨u2, v2, y2⟩⟩ := x2
 obtain ⟨⟨p3, q3, w3⟩, ⟨u3, v3, y3⟩⟩ := x3
 obtain ⟨⟨p4, q4, w4⟩, ⟨u4, v4, y4⟩⟩ := x4
 obtain ⟨⟨p5, q5, w5⟩, ⟨u5, v5, y5⟩⟩ := x5
 unfold stN rC
 dsimp only at *
 exact piece [(0, 0), (1, 1), (2, 2)] [c OT, c OF, c Su, c Sg, eb e, c Ad] fol (by kernel_rfl)
theorem fr53n (b : Int) (x1 x2 x3 x4 x5 : Rl × Rl) (fl fh tl th lo hi s' S' s S : Rat) (z : Int) (H : RLen b x4 fl fh tl th lo hi z) (e : decide (z < 0) = true) (Ad : Sp Tryz.prog 94 [] [oV s S, z4V hi] (oV s' S') []) :
    CodeOk Tryz.prog (nthLoop 0 (Tryz.f25.body.getD .skip)) (stN 5 (its [x1, x2, x3, x4, x5]) b 3 (rC s ++ rC S)) .normal (stN 5 (its [x1, x2, x3, x4, x5]) b 4 (rC s' ++ rC S')) := by
 obtain ⟨OF, OT, Su, Sg⟩ := H
 obtain ⟨⟨p1, q1, w1⟩, ⟨u1, v1, y1⟩⟩ := x1
 obtain ⟨⟨p2, q2, w2⟩, ⟨u2, v2, y2⟩⟩ := x2
 obtain ⟨⟨p3, q3, w3⟩, ⟨u3, v3, y3⟩⟩ := x3
 obtain ⟨⟨p4, q4, w4⟩, ⟨u4, v4, y4⟩⟩ := x4
 obtain ⟨⟨p5, q5, w5⟩, ⟨u5, v5, y5⟩⟩ := x5
 unfold stN rC
 unfold z4V at Ad
 dsimp only at *
 exact piece [(0, 0), (1, 1), (2, 2)] [c OT, c OF, c Su, c Sg, eb e, c Ad] fol (by kernel_rfl)
theorem fr53p (b : Int) (x1 x2 x3 x4 x5 : Rl × Rl) (fl fh tl th lo hi s' S' s S : Rat) (z : Int) (H : RLen b x4 fl fh tl th lo hi z) (e : decide (z < 0) = false) (Ad : Sp Tryz.prog 94 [] [oV s S, oV lo hi] (oV s' S') []) :
    CodeOk Tryz.prog (nthLoop 0 (Tryz.f25.body.getD .skip)) (stN 5 (its [x1, x2, x3, x4, x5]) b 3 (rC s ++ rC S)) .normal (stN 5 (its [x1, x2, x3, x4, x5]) b 4 (rC s' ++ rC S')) := by
 obtain ⟨OF, OT, Su, Sg⟩ := H
 obtain ⟨⟨p1, q1, w1⟩, ⟨u1, v1, y1⟩⟩ := x1
 obtain ⟨⟨p2, q2, w2⟩, ⟨u2, v2, y2⟩⟩ := x2
 obtain ⟨⟨p3, q3, w3⟩, ⟨u3, v3, y3⟩⟩ := x3
 obtain ⟨⟨p4, q4, w4⟩, ⟨u4, v4, y4⟩⟩ := x4
 obtain ⟨⟨p5, q5, w5⟩, ⟨u5, v5, y5⟩⟩ := x5
 unfold stN rC
 dsimp only at *
 exact piece [(0, 0), (1, 1), (2, 2)] [c OT, c OF, c Su, c Sg, eb e, c Ad] fol (by kernel_rfl)
theorem fr54n (b : Int) (x1 x2 x3 x4 x5 : Rl × Rl) (fl fh tl th lo hi s' S' s S : Rat) (z : Int) (H : RLen b x5 fl fh tl th lo hi z) (e : decide (z < 0) = true) (Ad : Sp Tryz.prog 94 [] [oV s S, z4V hi] (oV s' S') []) :
    CodeOk Tryz.prog (nthLoop 0 (Tryz.f25.body.getD .skip)) (stN 5 (its [x1, x2, x3, x4, x5]) b 4 (rC s ++ rC S)) .normal (stN 5 (its [x1, x2, x3, x4, x5]) b 5 (rC s' ++ rC S')) := by
 obtain ⟨OF, OT, Su, Sg⟩ := H
 obtain ⟨⟨p1, q1, w1⟩, ⟨u1, v1, y1⟩⟩ := x1
 obtain ⟨⟨p2, q2, w2⟩, ⟨u2, v2, y2⟩⟩ := x2
 obtain ⟨⟨p3, q3, w3⟩, ⟨u3, v3, y3⟩⟩ := x3
 obtain ⟨⟨p4, q4, w4⟩, ⟨u4, v4, y4⟩⟩ := x4
 obtain ⟨⟨p5, q5, w5⟩, ⟨u5, v5, y5⟩⟩ := x5
 unfold stN rC
 unfold z4V at Ad
 dsimp only at *
 exact piece [(0, 0), (1, 1), (2, 2)] [c OT, c OF, c Su, c Sg, eb e, c Ad] fol (by kernel_rfl)
theorem fr54p (b : Int) (x1 x2 x3 x4 x5 : Rl × Rl) (fl fh tl th lo hi s' S' s S : Rat) (z : Int) (H : RLen b x5 fl fh tl th lo hi z) (e : decide (z < 0) = false) (Ad : Sp Tryz.prog 94 [] [oV s S, oV lo hi] (oV s' S') []) :
    CodeOk Tryz.prog (nthLoop 0 (Tryz.f25.body.getD .skip)) (stN 5 (its [x1, x2, x3, x4, x5]) b 4 (rC s ++ rC S)) .normal (stN 5 (its [x1, x2, x3, x4, x5]) b 5 (rC s' ++ rC S')) := by
 obtain ⟨OF, OT, Su, Sg⟩ := H
 obtain ⟨⟨p1, q1, w1⟩, ⟨u1, v1, y1⟩⟩ := x1
 obtain ⟨⟨p2, q2, w2⟩, ⟨u2, v2, y2⟩⟩ := x2
 obtain ⟨⟨p3, q3, w3⟩, ⟨u3, v3, y3⟩⟩ := x3
 obtain ⟨⟨p4, q4, w4⟩, ⟨u4, v4, y4⟩⟩ := x4
 obtain ⟨⟨p5, q5, w5⟩, ⟨u5, v5, y5⟩⟩ := x5
 unfold stN rC
 dsimp only at *
 exact piece [(0, 0), (1, 1), (2, 2)] [c OT, c OF, c Su, c Sg, eb e, c Ad] fol (by kernel_rfl)
theorem fr5x (b : Int) (x1 x2 x3 x4 x5 : Rl × Rl) (s S : Rat) : CodeOk Tryz.prog (nthLoop 0 (Tryz.f25.body.getD .skip)) (stN 5 (its [x1, x2, x3, x4, x5]) b 5 (rC s ++ rC S)) (.exit 0) (stN 5 (its [x1, x2, x3, x4, x5]) b 5 (rC s ++ rC S)) := by
 obtain ⟨⟨p1, q1, w1⟩, ⟨u1, v1, y1⟩⟩ := x1
 obtain ⟨⟨p2, q2, w2⟩, ⟨u2, v2, y2⟩⟩ := x2
 obtain ⟨⟨p3, q3, w3⟩, ⟨u3, v3, y3⟩⟩ := x3
 obtain ⟨⟨p4, q4, w4⟩, ⟨u4, v4, y4⟩⟩ := x4
 obtain ⟨⟨p5, q5, w5⟩, ⟨u5, v5, y5⟩⟩ := x5
 unfold stN rC
 exact piece [(0, 0), (1, 1), (2, 2)] [] fol (by kernel_rfl)
theorem fLen5 (b : Int) (x1 x2 x3 x4 x5 : Rl × Rl) (s S : Rat) (hl : CodeOk Tryz.prog (.loop (nthLoop 0 (Tryz.f25.body.getD .skip))) (stN 5 (its [x1, x2, x3, x4, x5]) b 0 oZC) (.exit 0) (stN 5 (its [x1, x2, x3, x4, x5]) b 5 (rC s ++ rC S))) :
    Sp Tryz.prog 25 [(5, its [x1, x2, x3, x4, x5])] [row 0 5, nV b] (oV s S) [] := by
 obtain ⟨⟨p1, q1, w1⟩, ⟨u1, v1, y1⟩⟩ := x1
 obtain ⟨⟨p2, q2, w2⟩, ⟨u2, v2, y2⟩⟩ := x2
 obtain ⟨⟨p3, q3, w3⟩, ⟨u3, v3, y3⟩⟩ := x3
 obtain ⟨⟨p4, q4, w4⟩, ⟨u4, v4, y4⟩⟩ := x4
 obtain ⟨⟨p5, q5, w5⟩, ⟨u5, v5, y5⟩⟩ := x5
 unfold stN oZC rC at hl
 exact walk (code := Tryz.f25.body.getD .skip) [lp [(0, 0), (1, 1), (2, 2)] hl] fol Tryz.func25 (by kernel_rfl) (fun xs w => Tryz.call25 xs w) (by kernel_rfl)
theorem fr60n (b : Int) (x1 x2 x3 x4 x5 x6 : Rl × Rl) (fl fh tl th lo hi s' S' : Rat) (z : Int) (H : RLen b x1 fl fh tl th lo hi z) (e : decide (z < 0) = true) (Ad : Sp Tryz.prog 94 [] [oZ, z4V hi] (oV s' S') []) :
    CodeOk Tryz.prog (nthLoop 0 (Tryz.f25.body.getD .skip)) (stN 6 (its [x1, x2, x3, x4, x5, x6]) b 0 oZC) .normal (stN 6 (its [x1, x2, x3, x4, x5, x6]) b 1 (rC s' ++ rC S')) := by
 obtain ⟨OF, OT, Su, Sg⟩ := H
 obtain ⟨⟨p1, q1, w1⟩, ⟨u1, v1, y1⟩⟩ := x1
 obtain ⟨⟨p2, q2, w2⟩, ⟨u2, v2, y2⟩⟩ := x2
 obtain ⟨⟨p3, q3, w3⟩, ⟨u3, v3, y3⟩⟩ := x3
 obtain ⟨⟨p4, q4, w4⟩, ⟨u4, v4, y4⟩⟩ := x4
 obtain ⟨⟨p5, q5, w5⟩, ⟨u5, v5, y5⟩⟩ := x5
 obtain ⟨⟨p6, q6, w6⟩, ⟨u6, v6, y6⟩⟩ := x6
 unfold stN rC oZC
 unfold z4V at Ad
 dsimp only at *
 exact piece [(0, 0), (1, 1), (2, 2)] [c OT, c OF, c Su, c Sg, eb e, c Ad] fol (by kernel_rfl)
theorem fr60p (b : Int) (x1 x2 x3 x4 x5 x6 : Rl × Rl) (fl fh tl th lo hi s' S' : Rat) (z : Int) (H : RLen b x1 fl fh tl th lo hi z) (e : decide (z < 0) = false) (Ad : Sp Tryz.prog 94 [] [oZ, oV lo hi] (oV s' S') []) :
    CodeOk Tryz.prog (nthLoop 0 (Tryz.f25.body.getD .skip)) (stN 6 (its [x1, x2, x3, x4, x5, x6]) b 0 oZC) .normal (stN 6 (its [x1, x2, x3, x4, x5, x6]) b 1 (rC s' ++ rC S')) := by
 obtain ⟨OF, OT, Su, Sg⟩ := H
 obtain ⟨⟨p1, q1, w1⟩, ⟨u1, v1, y1⟩⟩ := x1
 obtain ⟨⟨p2, q2, w2⟩, ⟨u2, v2, y2⟩⟩ := x2
 obtain ⟨⟨p3, q3, w3⟩, ⟨u3, v3, y3⟩⟩ := x3
 obtain ⟨⟨p4, q4, w4⟩, ⟨u4, v4, y4⟩⟩ := x4
 obtain ⟨⟨p5, q5, w5⟩, ⟨u5, v5, y5⟩⟩ := x5
 obtain ⟨⟨p6, q6, w6⟩, ⟨u6, v6, y6⟩⟩ := x6
 unfold stN rC oZC
 dsimp only at *
 exact piece [(0, 0), (1, 1), (2, 2)] [c OT, c OF, c Su, c Sg, eb e, c Ad] fol (by kernel_rfl)
theorem fr61n (b : Int) (x1 x2 x3 x4 x5 x6 : Rl × Rl) (fl fh tl th lo hi s' S' s S : Rat) (z : Int) (H : RLen b x2 fl fh tl th lo hi z) (e : decide (z < 0) = true) (Ad : Sp Tryz.prog 94 [] [oV s S, z4V hi] (oV s' S') []) :
    CodeOk Tryz.prog (nthLoop 0 (Tryz.f25.body.getD .skip)) (stN 6 (its [x1, x2, x3, x4, x5, x6]) b 1 (rC s ++ rC S)) .normal (stN 6 (its [x1, x2, x3, x4, x5, x6]) b 2 (rC s' ++ rC S')) := by
 obtain ⟨OF, OT, Su, Sg⟩ := H
 obtain ⟨⟨p1, q1, w1⟩, ⟨u1, v1, y1⟩⟩ := x1
 obtain ⟨⟨p2, q2, w2⟩, ⟨u2, v2, y2⟩⟩ := x2
 obtain ⟨⟨p3, q3, w3⟩, ⟨u3, v3, y3⟩⟩ := x3
 obtain ⟨⟨p4, q4, w4⟩, ⟨u4, v4, y4⟩⟩ := x4
 obtain ⟨⟨p5, q5, w5⟩, ⟨u5, v5, y5⟩⟩ := x5
 obtain ⟨⟨p6, q6, w6⟩, ⟨u6, v6, y6⟩⟩ := x6
 unfold stN rC
 unfold z4V at Ad
 dsimp only at *
 exact piece [(0, 0), (1, 1), (2, 2)] [c OT, c OF, c Su, c Sg, eb e, c Ad] fol (by kernel_rfl)
theorem fr61p (b : Int) (x1 x2 x3 x4 x5 x6 : Rl × Rl) (fl fh tl th lo hi s' S' s S : Rat) (z : Int) (H : RLen b x2 fl fh tl th lo hi z) (e : decide (z < 0) = false) (Ad : Sp Tryz.prog 94 [] [oV s S, oV lo hi] (oV s' S') []) :
    CodeOk Tryz.prog (nthLoop 0 (Tryz.f25.body.getD .skip)) (stN 6 (its [x1, x2, x3, x4, x5, x6]) b 1 (rC s ++ rC S)) .normal (stN 6 (its [x1, x2, x3, x4, x5, x6]) b 2 (rC s' ++ rC S')) := by
 obtain ⟨OF, OT, Su, Sg⟩ := H
 obtain ⟨⟨p1, q1, w1⟩, ⟨u1, v1, y1⟩⟩ := x1
 obtain ⟨⟨p2, q2, w2⟩, ⟨u2, v2, y2⟩⟩ := x2
 obtain ⟨⟨p3, q3, w3⟩, ⟨u3, v3, y3⟩⟩ := x3
 obtain ⟨⟨p4, q4, w4⟩, ⟨u4, v4, y4⟩⟩ := x4
 obtain ⟨⟨p5, q5, w5⟩, ⟨u5, v5, y5⟩⟩ := x5
 obtain ⟨⟨p6, q6, w6⟩, ⟨u6, v6, y6⟩⟩ := x6
 unfold stN rC
 dsimp only at *
 exact piece [(0, 0), (1, 1), (2, 2)] [c OT, c OF, c Su, c Sg, eb e, c Ad] fol (by kernel_rfl)
theorem fr62n (b : Int) (x1 x2 x3 x4 x5 x6 : Rl × Rl) (fl fh tl th lo hi s' S' s S : Rat) (z : Int) (H : RLen b x3 fl fh tl th lo hi z) (e : decide (z < 0) = true) (Ad : Sp Tryz.prog 94 [] [oV s S, z4V hi] (oV s' S') []) :
    CodeOk Tryz.prog (nthLoop 0 (Tryz.f25.body.getD .skip)) (stN 6 (its [x1, x2, x3, x4, x5, x6]) b 2 (rC s ++ rC S)) .normal (stN 6 (its [x1, x2, x3, x4, x5, x6]) b 3 (rC s' ++ rC S')) := by
 obtain ⟨OF, OT, Su, Sg⟩ := H
 obtain ⟨⟨p1, q1, w1⟩, ⟨u1, v1, y1⟩⟩ := x1
 obtain ⟨⟨p2, q2, w2⟩, ⟨u2, v2, y2⟩⟩ := x2
 obtain ⟨⟨p3, q3, w3⟩, ⟨u3, v3, y3⟩⟩ := x3
 obtain ⟨⟨p4, q4, w4⟩, ⟨u4, v4, y4⟩⟩ := x4
 obtain ⟨⟨p5, q5, w5⟩, ⟨u5, v5, y5⟩⟩ := x5
 obtain ⟨⟨p6, q6, w6⟩, ⟨u6, v6, y6⟩⟩ := x6
 unfold stN rC
 unfold z4V at Ad
 dsimp only at *
 exact piece [(0, 0), (1, 1), (2, 2)] [c OT, c OF, c Su, c Sg, eb e, c Ad] fol (by kernel_rfl)
theorem fr62p (b : Int) (x1 x2 x3 x4 x5 x6 : Rl × Rl) (fl fh tl th lo hi s' S' s S : Rat) (z : Int) (H : RLen b x3 fl fh tl th lo hi z) (e : decide (z < 0) = false) (Ad : Sp Tryz.prog 94 [] [oV s S, oV lo hi] (oV s' S') []) :
    CodeOk Tryz.prog (nthLoop 0 (Tryz.f25.body.getD .skip)) (stN 6 (its [x1, x2, x3, x4, x5, x6]) b 2 (rC s ++ rC S)) .normal (stN 6 (its [x1, x2, x3, x4, x5, x6]) b 3 (rC s' ++ rC S')) := by
 obtain ⟨OF, OT, Su, Sg⟩ := H
 obtain ⟨⟨p1, q1, w1⟩, ⟨u1, v1, y1⟩⟩ := x1
 obtain ⟨⟨p2, q2, w2⟩, ⟨u2, v2, y2⟩⟩ := x2
 obtain ⟨⟨p3, q3, w3⟩, ⟨u3, v3, y3⟩⟩ := x3
 obtain ⟨⟨p4, q4, w4⟩, ⟨u4, v4, y4⟩⟩ := x4
 obtain ⟨⟨p5, q5, w5⟩, ⟨u5, v5, y5⟩⟩ := x5
 obtain ⟨⟨p6, q6, w6⟩, ⟨u6, v6, y6⟩⟩ := x6
 unfold stN rC
 dsimp only at *
 exact piece [(0, 0), (1, 1), (2, 2)] [c OT, c OF, c Su, c Sg, eb e, c Ad] fol (by kernel_rfl)
theorem fr63n (b : Int) (x1 x2 x3 x4 x5 x6 : Rl × Rl) (fl fh tl th lo hi s' S' s S : Rat) (z : Int) (H : RLen b x4 fl fh tl th lo hi z) (e : decide (z < 0) = true) (Ad : Sp Tryz.prog 94 [] [oV s S, z4V hi] (oV s' S') []) :
    CodeOk Tryz.prog (nthLoop 0 (Tryz.f25.body.getD .skip)) (stN 6 (its [x1, x2, x3, x4, x5, x6]) b 3 (rC s ++ rC S)) .normal (stN 6 (its [x1, x2, x3, x4, x5, x6]) b 4 (rC s' ++ rC S')) := by
 obtain ⟨OF, OT, Su, Sg⟩ := H
 obtain ⟨⟨p1, q1, w1⟩, ⟨u1, v1, y1⟩⟩ := x1
 obtain ⟨⟨p2, q2, w2⟩, ⟨u2, v2, y2⟩⟩ := x2
 obtain ⟨⟨p3, q3, w3⟩, ⟨u3, v3, y3⟩⟩ := x3
 obtain ⟨⟨p4, q4, w4⟩, ⟨u4, v4, y4⟩⟩ := x4
 obtain ⟨⟨p5, q5, w5⟩, ⟨u5, v5, y5⟩⟩ := x5
 obtain ⟨⟨p6, q6, w6⟩, ⟨u6, v6, y6⟩⟩ := x6
 unfold stN rC
 unfold z4V at Ad
 dsimp only at *
 exact piece [(0, 0), (1, 1), (2, 2)] [c OT, c OF, c Su, c Sg, eb e, c Ad] fol (by kernel_rfl)
theorem fr63p (b : Int) (x1 x2 x3 x4 x5 x6 : Rl × Rl) (fl fh tl th lo hi s' S' s S : Rat) (z : Int) (H : RLen b x4 fl fh tl th lo hi z) (e : decide (z < 0) = false) (Ad : Sp Tryz.prog 94 [] [oV s S, oV lo hi] (oV s' S') []) :
    CodeOk Tryz.prog (nthLoop 0 (Tryz.f25.body.getD .skip)) (stN 6 (its [x1, x2, x3, x4, x5, x6]) b 3 (rC s ++ rC S)) .normal (stN 6 (its [x1, x2, x3, x4, x5, x6]) b 4 (rC s' ++ rC S')) := by
 obtain ⟨OF, OT, Su, Sg⟩ := H
 obtain ⟨⟨p1, q1, w1⟩, ⟨u1, v1, y1⟩⟩ := x1
 obtain ⟨⟨p2, q2, w2⟩, ⟨u2, v2, y2⟩⟩ := x2
 obtain ⟨⟨p3, q3, w3⟩, ⟨u3, v3, y3⟩⟩ := x3
 obtain ⟨⟨p4, q4, w4⟩, ⟨u4, v4, y4⟩⟩ := x4
 obtain ⟨⟨p5, q5, w5⟩, ⟨u5, v5, y5⟩⟩ := x5
 obtain ⟨⟨p6, q6, w6⟩, ⟨u6, v6, y6⟩⟩ := x6
 unfold stN rC
 dsimp only at *
 exact piece [(0, 0), (1, 1), (2, 2)] [c OT, c OF, c Su, c Sg, eb e, c Ad] fol (by kernel_rfl)
theorem fr64n (b : Int) (x1 x2 x3 x4 x5 x6 : Rl × Rl) (fl fh tl th lo hi s' S' s S : Rat) (z : Int) (H : RLen b x5 fl fh tl th lo hi z) (e : decide (z < 0) = true) (Ad : Sp Tryz.prog 94 [] [oV s S, z4V hi] (oV s' S') []) :
    CodeOk Tryz.prog (nthLoop 0 (Tryz.f25.body.getD .skip)) (stN 6 (its [x1, x2, x3, x4, x5, x6]) b 4 (rC s ++ rC S)) .normal (stN 6 (its [x1, x2, x3, x4, x5, x6]) b 5 (rC s' ++ rC S')) := by
 obtain ⟨OF, OT, Su, Sg⟩ := H
 obtain ⟨⟨p1, q1, w1⟩, ⟨u1, v1, y1⟩⟩ := x1
 obtain ⟨⟨p2, q2, w2⟩, ⟨u2, v2, y2⟩⟩ := x2
 obtain ⟨⟨p3, q3, w3⟩, ⟨u3, v3, y3⟩⟩ := x3
 obtain ⟨⟨p4, q4, w4⟩, ⟨u4, v4, y4⟩⟩ := x4
 obtain ⟨⟨p5, q5, w5⟩, ⟨u5, v5, y5⟩⟩ := x5
 obtain ⟨⟨p6, q6, w6⟩, ⟨u6, v6, y6⟩⟩ := x6
 unfold stN rC
 unfold z4V at Ad
 dsimp only at *
 exact piece [(0, 0), (1, 1), (2, 2)] [c OT, c OF, c Su, c Sg, eb e, c Ad] fol (by kernel_rfl)
theorem fr64p (b : Int) (x1 x2 x3 x4 x5 x6 : Rl × Rl) (fl fh tl th lo hi s' S' s S : Rat) (z : Int) (H : RLen b x5 fl fh tl th lo hi z) (e : decide (z < 0) = false) (Ad : Sp Tryz.prog 94 [] [oV s S, oV lo hi] (oV s' S') []) :
    CodeOk Tryz.prog (nthLoop 0 (Tryz.f25.body.getD .skip)) (stN 6 (its [x1, x2, x3, x4, x5, x6]) b 4 (rC s ++ rC S)) .normal (stN 6 (its [x1, x2, x3, x4, x5, x6]) b 5 (rC s' ++ rC S')) := by
 obtain ⟨OF, OT, Su, Sg⟩ := H
 obtain ⟨⟨p1, q1, w1⟩, ⟨u1, v1, y1⟩⟩ := x1
 obtain ⟨⟨p2, q2, w2⟩, ⟨u2, v2, y2⟩⟩ := x2
 obtain ⟨⟨p3, q3, w3⟩, ⟨u3, v3, y3⟩⟩ := x3
 obtain ⟨⟨p4, q4, w4⟩, ⟨u4, v4, y4⟩⟩ := x4
 obtain ⟨⟨p5, q5, w5⟩, ⟨u5, v5, y5⟩⟩ := x5
 obtain ⟨⟨p6, q6, w6⟩, ⟨u6, v6, y6⟩⟩ := x6
 unfold stN rC
 dsimp only at *
 exact piece [(0, 0), (1, 1), (2, 2)] [c OT, c OF, c Su, c Sg, eb e, c Ad] fol (by kernel_rfl)
theorem fr65n (b : Int) (x1 x2 x3 x4 x5 x6 : Rl × Rl) (fl fh tl th lo hi s' S' s S : Rat) (z : Int) (H : RLen b x6 fl fh tl th lo hi z) (e : decide (z < 0) = true) (Ad : Sp Tryz.prog 94 [] [oV s S, z4V hi] (oV s' S') []) :
    CodeOk Tryz.prog (nthLoop 0 (Tryz.f25.body.getD .skip)) (stN 6 (its [x1, x2, x3, x4, x5, x6]) b 5 (rC s ++ rC S)) .normal (stN 6 (its [x1, x2, x3, x4, x5, x6]) b 6 (rC s' ++ rC S')) := by
 obtain ⟨OF, OT, Su, Sg⟩ := H
 obtain ⟨⟨p1, q1, w1⟩, ⟨u1, v1, y1⟩⟩ := x1
 obtain ⟨⟨p2, q2, w2⟩, ⟨u2, v2, y2⟩⟩ := x2
 obtain ⟨⟨p3, q3, w3⟩, ⟨u3, v3, y3⟩⟩ := x3
 obtain ⟨⟨p4, q4, w4⟩, ⟨u4, v4, y4⟩⟩ := x4
 obtain ⟨⟨p5, q5, w5⟩, ⟨u5, v5, y5⟩⟩ := x5
 obtain ⟨⟨p6, q6, w6⟩, ⟨u6, v6, y6⟩⟩ := x6
 unfold stN rC
 unfold z4V at Ad
 dsimp only at *
 exact piece [(0, 0), (1, 1), (2, 2)] [c OT, c OF, c Su, c Sg, eb e, c Ad] fol (by kernel_rfl)
theorem fr65p (b : Int) (x1 x2 x3 x4 x5 x6 : Rl × Rl) (fl fh tl th lo hi s' S' s S : Rat) (z : Int) (H : RLen b x6 fl fh tl th lo hi z) (e : decide (z < 0) = false) (Ad : Sp Tryz.prog 94 [] [oV s S, oV lo hi] (oV s' S') []) :
    CodeOk Tryz.prog (nthLoop 0 (Tryz.f25.body.getD .skip)) (stN 6 (its [x1, x2, x3, x4, x5, x6]) b 5 (rC s ++ rC S)) .normal (stN 6 (its [x1, x2, x3, x4, x5, x6]) b 6 (rC s' ++ rC S')) := by
 obtain ⟨OF, OT, Su, Sg⟩ := H
 obtain ⟨⟨p1, q1, w1⟩, ⟨u1, v1, y1⟩⟩ := x1
 obtain ⟨⟨p2, q2, w2⟩, ⟨u2, v2, y2⟩⟩ := x2
 obtain ⟨⟨p3, q3, w3⟩, ⟨u3, v3, y3⟩⟩ := x3
 obtain ⟨⟨p4, q4, w4⟩, ⟨u4, v4, y4⟩⟩ := x4
 obtain ⟨⟨p5, q5, w5⟩, ⟨u5, v5, y5⟩⟩ := x5
 obtain ⟨⟨p6, q6, w6⟩, ⟨u6, v6, y6⟩⟩ := x6
 unfold stN rC
 dsimp only at *
 exact piece [(0, 0), (1, 1), (2, 2)] [c OT, c OF, c Su, c Sg, eb e, c Ad] fol (by kernel_rfl)
theorem fr6x (b : Int) (x1 x2 x3 x4 x5 x6 : Rl × Rl) (s S : Rat) : CodeOk Tryz.prog (nthLoop 0 (Tryz.f25.body.getD .skip)) (stN 6 (its [x1, x2, x3, x4, x5, x6]) b 6 (rC s ++ rC S)) (.exit 0) (stN 6 (its [x1, x2, x3, x4, x5, x6]) b 6 (rC s ++ rC S)) := by
 obtain ⟨⟨p1, q1, w1⟩, ⟨u1, v1, y1⟩⟩ := x1
 obtain ⟨⟨p2, q2, w2⟩, ⟨u2, v2, y2⟩⟩ := x2
 obtain ⟨⟨p3, q3, w3⟩, ⟨u3, v3, y3⟩⟩ := x3
 obtain ⟨⟨p4, q4, w4⟩, ⟨u4, v4, y4⟩⟩ := x4
 obtain ⟨⟨p5, q5, w5⟩, ⟨u5, v5, y5⟩⟩ := x5
 obtain ⟨⟨p6, q6, w6⟩, ⟨u6, v6, y6⟩⟩ := x6
 unfold stN rC
 exact piece [(0, 0), (1, 1), (2, 2)] [] fol (by kernel_rfl)
theorem fLen6 (b : Int) (x1 x2 x3 x4 x5 x6 : Rl × Rl) (s S : Rat) (hl : CodeOk Tryz.prog (.loop (nthLoop 0 (Tryz.f25.body.getD .skip))) (stN 6 (its [x1, x2, x3, x4, x5, x6]) b 0 oZC) (.exit 0) (stN 6 (its [x1, x2, x3, x4, x5, x6]) b 6 (rC s ++ rC S))) :
    Sp Tryz.prog 25 [(6, its [x1, x2, x3, x4, x5, x6])] [row 0 6, nV b] (oV s S) [] := by
 obtain ⟨⟨p1, q1, w1⟩, ⟨u1, v1, y1⟩⟩ := x1
 obtain ⟨⟨p2, q2, w2⟩, ⟨u2, v2, y2⟩⟩ := x2
 obtain ⟨⟨p3, q3, w3⟩, ⟨u3, v3, y3⟩⟩ := x3
 obtain ⟨⟨p4, q4, w4⟩, ⟨u4, v4, y4⟩⟩ := x4
 obtain ⟨⟨p5, q5, w5⟩, ⟨u5, v5, y5⟩⟩ := x5
 obtain ⟨⟨p6, q6, w6⟩, ⟨u6, v6, y6⟩⟩ := x6
 unfold stN oZC rC at hl
 exact walk (code := Tryz.f25.body.getD .skip) [lp [(0, 0), (1, 1), (2, 2)] hl] fol Tryz.func25 (by kernel_rfl) (fun xs w => Tryz.call25 xs w) (by kernel_rfl)
end Go.Proofs.YtlblfgbpogljoaaGreatDoor

end
section
/- Lengths of up to 6 intervals: the package and the reference. -/
namespace Go.Proofs.YtlblfgbpogljoaaGreatDoor
open Go Go.RowKit Go.Sy
open Vi
theorem sgQ_neg5 (a : Rat) : decide (sgQ a < 0) = decide (a < 0) := by
 rcases sgQ_cases a with ⟨h, g⟩ | ⟨h, g⟩ | ⟨h, g⟩ <;> rw [h]
 ·simp [g]
 ·have : ¬ a < 0 := by grind
  simp [this]
 ·have : ¬ a < 0 := by grind
  simp [this]
theorem rC0 : rC 0 = [.bool false, .string ⟨#[]⟩, .bool false, .string ⟨#[]⟩] := by unfold rC; rw [show (0 : Rat).num = 0 from rfl, show dn 0 = 0 from rfl, sg0, mg0]
theorem lnA_hs (x : Rl × Rl) (hx : IvOk x) (n : Nat) (hn : n ≤ 128) : HasSz (lnA x.1 x.2 n) 1805 ∧ HasSz (lnB x.1 x.2 n) 1805 := by
 obtain ⟨_, _, _, h1, h2, h3, h4⟩ := hx
 obtain ⟨a1, a2⟩ := of_sz x.1 n hn
 obtain ⟨b1, b2⟩ := of_sz x.2 n hn
 unfold lnA lnB
 exact ⟨inferInstance, inferInstance⟩
theorem ln_hs (x : Rl × Rl) (hx : IvOk x) (n : Nat) (hn : n ≤ 128) (s S : Rat) (k : Nat) [h1 : HasSz s k] [h2 : HasSz S k] : HasSz (s + maxQ (lnA x.1 x.2 n) 0) (k + 2000) ∧ HasSz (S + lnB x.1 x.2 n) (k + 2000) := by
 obtain ⟨a1, a2⟩ := lnA_hs x hx n hn
 exact ⟨hs_mono (inferInstance : HasSz (s + maxQ (lnA x.1 x.2 n) 0) (k + (1805 + 1) + 1)) (by omega), hs_mono (inferInstance : HasSz (S + lnB x.1 x.2 n) (k + 1805 + 1)) (by omega)⟩
theorem lenOk (x : Rl × Rl) (hx : IvOk x) (n : Nat) (hn : n ≤ 128) (s S : Rat) (k : Nat) [h1 : HasSz s k] [h2 : HasSz S k] (hk : k ≤ 20000) :
    LenOk n x (oV s S) (ofLow x.1 n) (ofHigh x.1 n) (ofLow x.2 n) (ofHigh x.2 n) (lnA x.1 x.2 n) (lnB x.1 x.2 n) (maxQ (lnA x.1 x.2 n) 0) (s + maxQ (lnA x.1 x.2 n) 0) (S + lnB x.1 x.2 n) := by
 obtain ⟨a1, a2⟩ := lnA_hs x hx n hn
 obtain ⟨o1, o2, _, g1, g2, g3, g4⟩ := hx
 obtain ⟨c1, c2⟩ := of_sz x.1 n hn
 obtain ⟨d1, d2⟩ := of_sz x.2 n hn
 have Su := eSub (ofLow x.2 n) (ofHigh x.2 n) (ofLow x.1 n) (ofHigh x.1 n) fz fz fz fz
 rw [show ofLow x.2 n + -ofHigh x.1 n = lnA x.1 x.2 n by unfold lnA; grind, show ofHigh x.2 n + -ofLow x.1 n = lnB x.1 x.2 n by unfold lnB; grind] at Su
 have Gr := eGreatest2 (lnA x.1 x.2 n) 0 fz fz
 rw [rC0] at Gr
 exact ⟨eOf x.1 n hn 10 (by omega) o1, eOf x.2 n hn 10 (by omega) o2, Su, Gr, eAdd s S (maxQ (lnA x.1 x.2 n) 0) (lnB x.1 x.2 n) fz fz fz fz⟩
theorem rLenOk (x : Rl × Rl) (hx : IvOk x) (n : Nat) (hn : n ≤ 128) : RLen n x (ofLow x.1 n) (ofHigh x.1 n) (ofLow x.2 n) (ofHigh x.2 n) (lnA x.1 x.2 n) (lnB x.1 x.2 n) (sgQ (lnA x.1 x.2 n)) := by
 obtain ⟨a1, a2⟩ := lnA_hs x hx n hn
 obtain ⟨o1, o2, _, g1, g2, g3, g4⟩ := hx
 obtain ⟨c1, c2⟩ := of_sz x.1 n hn
 obtain ⟨d1, d2⟩ := of_sz x.2 n hn
 have e1 : Fits (ofLow x.2 n - ofHigh x.1 n) := fz
 have e2 : Fits (ofHigh x.2 n - ofLow x.1 n) := fz
 have Su := fSubB (ofLow x.2 n) (ofHigh x.2 n) (ofLow x.1 n) (ofHigh x.1 n) fz fz fz fz e1 e2 (ln_le o1 o2)
 exact ⟨fOfR x.1 n hn o1, fOfR x.2 n hn o2, Su, rSgn _⟩
theorem z4V_eq (hi : Rat) : oV 0 hi = z4V hi := by unfold oV z4V; rw [show (0 : Rat).num = 0 from rfl, show dn 0 = 0 from rfl, sg0, mg0]
theorem rAdds (x : Rl × Rl) (hx : IvOk x) (n : Nat) (hn : n ≤ 128) (s S : Rat) (k : Nat) [h1 : HasSz s k] [h2 : HasSz S k] (hk : k ≤ 20000) (hs : s ≤ S) :
    (decide (sgQ (lnA x.1 x.2 n) < 0) = true ∧ Sp Tryz.prog 94 [] [oV s S, z4V (lnB x.1 x.2 n)] (oV (s + maxQ (lnA x.1 x.2 n) 0) (S + lnB x.1 x.2 n)) []) ∨
    (decide (sgQ (lnA x.1 x.2 n) < 0) = false ∧ Sp Tryz.prog 94 [] [oV s S, oV (lnA x.1 x.2 n) (lnB x.1 x.2 n)] (oV (s + maxQ (lnA x.1 x.2 n) 0) (S + lnB x.1 x.2 n)) []) := by
 obtain ⟨a1, a2⟩ := lnA_hs x hx n hn
 have e := sgQ_neg5 (lnA x.1 x.2 n)
 have hp := ln_pos (n := n) hx.1 hx.2.1 hx.2.2.1
 have hle := ln_le (n := n) hx.1 hx.2.1
 rw [maxQ0]
 by_cases h : lnA x.1 x.2 n < 0
 ·rw [if_pos h, ← z4V_eq]
  exact .inl ⟨by rw [e]; exact decide_eq_true h, fAddB s S 0 (lnB x.1 x.2 n) fz fz fz fz fz fz (by grind)⟩
 ·rw [if_neg h]
  exact .inr ⟨by rw [e]; exact decide_eq_false h, fAddB s S (lnA x.1 x.2 n) (lnB x.1 x.2 n) fz fz fz fz fz fz (by grind)⟩
theorem sum_le (x : Rl × Rl) (hx : IvOk x) (n : Nat) {s S : Rat} (h : s ≤ S) : s + maxQ (lnA x.1 x.2 n) 0 ≤ S + lnB x.1 x.2 n := by
 have := max_le (n := n) hx.1 hx.2.1 hx.2.2.1
 grind
theorem fs10 (x1 : Rl × Rl) (hx : IvOk x1) (n : Nat) (hn : n ≤ 128) : CodeOk Tryz.prog (nthLoop 0 (Tryz.f25.body.getD .skip)) (stN 1 (its [x1]) n 0 oZC) .normal (stN 1 (its [x1]) n 1 (rC (0 + maxQ (lnA x1.1 x1.2 n) 0) ++ rC (0 + lnB x1.1 x1.2 n))) := by
 have H := rLenOk x1 hx n hn
 have A := rAdds x1 hx n hn 0 0 1 (by omega) Rat.le_refl
 rw [oV0] at A
 rcases A with ⟨e, A⟩ | ⟨e, A⟩
 ·exact fr10n n x1 _ _ _ _ _ _ _ _ _ H e A
 ·exact fr10p n x1 _ _ _ _ _ _ _ _ _ H e A
theorem fs20 (x1 x2 : Rl × Rl) (hx : IvOk x1) (n : Nat) (hn : n ≤ 128) : CodeOk Tryz.prog (nthLoop 0 (Tryz.f25.body.getD .skip)) (stN 2 (its [x1, x2]) n 0 oZC) .normal (stN 2 (its [x1, x2]) n 1 (rC (0 + maxQ (lnA x1.1 x1.2 n) 0) ++ rC (0 + lnB x1.1 x1.2 n))) := by
 have H := rLenOk x1 hx n hn
 have A := rAdds x1 hx n hn 0 0 1 (by omega) Rat.le_refl
 rw [oV0] at A
 rcases A with ⟨e, A⟩ | ⟨e, A⟩
 ·exact fr20n n x1 x2 _ _ _ _ _ _ _ _ _ H e A
 ·exact fr20p n x1 x2 _ _ _ _ _ _ _ _ _ H e A
theorem fs21 (x1 x2 : Rl × Rl) (hx : IvOk x2) (n : Nat) (hn : n ≤ 128) (s S : Rat) (k : Nat) [h1 : HasSz s k] [h2 : HasSz S k] (hk : k ≤ 20000) (hs : s ≤ S) : CodeOk Tryz.prog (nthLoop 0 (Tryz.f25.body.getD .skip)) (stN 2 (its [x1, x2]) n 1 (rC s ++ rC S)) .normal (stN 2 (its [x1, x2]) n 2 (rC (s + maxQ (lnA x2.1 x2.2 n) 0) ++ rC (S + lnB x2.1 x2.2 n))) := by
 have H := rLenOk x2 hx n hn
 rcases rAdds x2 hx n hn s S k hk hs with ⟨e, A⟩ | ⟨e, A⟩
 ·exact fr21n n x1 x2 _ _ _ _ _ _ _ _ s S _ H e A
 ·exact fr21p n x1 x2 _ _ _ _ _ _ _ _ s S _ H e A
theorem fs30 (x1 x2 x3 : Rl × Rl) (hx : IvOk x1) (n : Nat) (hn : n ≤ 128) : CodeOk Tryz.prog (nthLoop 0 (Tryz.f25.body.getD .skip)) (stN 3 (its [x1, x2, x3]) n 0 oZC) .normal (stN 3 (its [x1, x2, x3]) n 1 (rC (0 + maxQ (lnA x1.1 x1.2 n) 0) ++ rC (0 + lnB x1.1 x1.2 n))) := by
 have H := rLenOk x1 hx n hn
 have A := rAdds x1 hx n hn 0 0 1 (by omega) Rat.le_refl
 rw [oV0] at A
 rcases A with ⟨e, A⟩ | ⟨e, A⟩
 ·exact fr30n n x1 x2 x3 _ _ _ _ _ _ _ _ _ H e A
 ·exact fr30p n x1 x2 x3 _ _ _ _ _ _ _ _ _ H e A
theorem fs31 (x1 x2 x3 : Rl × Rl) (hx : IvOk x2) (n : Nat) (hn : n ≤ 128) (s S : Rat) (k : Nat) [h1 : HasSz s k] [h2 : HasSz S k] (hk : k ≤ 20000) (hs : s ≤ S) : CodeOk Tryz.prog (nthLoop 0 (Tryz.f25.body.getD .skip)) (stN 3 (its [x1, x2, x3]) n 1 (rC s ++ rC S)) .normal (stN 3 (its [x1, x2, x3]) n 2 (rC (s + maxQ (lnA x2.1 x2.2 n) 0) ++ rC (S + lnB x2.1 x2.2 n))) := by
 have H := rLenOk x2 hx n hn
 rcases rAdds x2 hx n hn s S k hk hs with ⟨e, A⟩ | ⟨e, A⟩
 ·exact fr31n n x1 x2 x3 _ _ _ _ _ _ _ _ s S _ H e A
 ·exact fr31p n x1 x2 x3 _ _ _ _ _ _ _ _ s S _ H e A
theorem fs32 (x1 x2 x3 : Rl × Rl) (hx : IvOk x3) (n : Nat) (hn : n ≤ 128) (s S : Rat) (k : Nat) [h1 : HasSz s k] [h2 : HasSz S k] (hk : k ≤ 20000) (hs : s ≤ S) : CodeOk Tryz.prog (nthLoop 0 (Tryz.f25.body.getD .skip)) (stN 3 (its [x1, x2, x3]) n 2 (rC s ++ rC S)) .normal (stN 3 (its [x1, x2, x3]) n 3 (rC (s + maxQ (lnA x3.1 x3.2 n) 0) ++ rC (S + lnB x3.1 x3.2 n))) := by
 have H := rLenOk x3 hx n hn
 rcases rAdds x3 hx n hn s S k hk hs with ⟨e, A⟩ | ⟨e, A⟩
 ·exact fr32n n x1 x2 x3 _ _ _ _ _ _ _ _ s S _ H e A
 ·exact fr32p n x1 x2 x3 _ _ _ _ _ _ _ _ s S _ H e A
theorem fs40 (x1 x2 x3 x4 : Rl × Rl) (hx : IvOk x1) (n : Nat) (hn : n ≤ 128) : CodeOk Tryz.prog (nthLoop 0 (Tryz.f25.body.getD .skip)) (stN 4 (its [x1, x2, x3, x4]) n 0 oZC) .normal (stN 4 (its [x1, x2, x3, x4]) n 1 (rC (0 + maxQ (lnA x1.1 x1.2 n) 0) ++ rC (0 + lnB x1.1 x1.2 n))) := by
 have H := rLenOk x1 hx n hn
 have A := rAdds x1 hx n hn 0 0 1 (by omega) Rat.le_refl
 rw [oV0] at A
 rcases A with ⟨e, A⟩ | ⟨e, A⟩
 ·exact fr40n n x1 x2 x3 x4 _ _ _ _ _ _ _ _ _ H e A
 ·exact fr40p n x1 x2 x3 x4 _ _ _ _ _ _ _ _ _ H e A
theorem fs41 (x1 x2 x3 x4 : Rl × Rl) (hx : IvOk x2) (n : Nat) (hn : n ≤ 128) (s S : Rat) (k : Nat) [h1 : HasSz s k] [h2 : HasSz S k] (hk : k ≤ 20000) (hs : s ≤ S) : CodeOk Tryz.prog (nthLoop 0 (Tryz.f25.body.getD .skip)) (stN 4 (its [x1, x2, x3, x4]) n 1 (rC s ++ rC S)) .normal (stN 4 (its [x1, x2, x3, x4]) n 2 (rC (s + maxQ (lnA x2.1 x2.2 n) 0) ++ rC (S + lnB x2.1 x2.2 n))) := by
 have H := rLenOk x2 hx n hn
 rcases rAdds x2 hx n hn s S k hk hs with ⟨e, A⟩ | ⟨e, A⟩
 ·exact fr41n n x1 x2 x3 x4 _ _ _ _ _ _ _ _ s S _ H e A
 ·exact fr41p n x1 x2 x3 x4 _ _ _ _ _ _ _ _ s S _ H e A
theorem fs42 (x1 x2 x3 x4 : Rl × Rl) (hx : IvOk x3) (n : Nat) (hn : n ≤ 128) (s S : Rat) (k : Nat) [h1 : HasSz s k] [h2 : HasSz S k] (hk : k ≤ 20000) (hs : s ≤ S) : CodeOk Tryz.prog (nthLoop 0 (Tryz.f25.body.getD .skip)) (stN 4 (its [x1, x2, x3, x4]) n 2 (rC s ++ rC S)) .normal (stN 4 (its [x1, x2, x3, x4]) n 3 (rC (s + maxQ (lnA x3.1 x3.2 n) 0) ++ rC (S + lnB x3.1 x3.2 n))) := by
 have H := rLenOk x3 hx n hn
 rcases rAdds x3 hx n hn s S k hk hs with ⟨e, A⟩ | ⟨e, A⟩
 ·exact fr42n n x1 x2 x3 x4 _ _ _ _ _ _ _ _ s S _ H e A
 ·exact fr42p n x1 x2 x3 x4 _ _ _ _ _ _ _ _ s S _ H e A
theorem fs43 (x1 x2 x3 x4 : Rl × Rl) (hx : IvOk x4) (n : Nat) (hn : n ≤ 128) (s S : Rat) (k : Nat) [h1 : HasSz s k] [h2 : HasSz S k] (hk : k ≤ 20000) (hs : s ≤ S) : CodeOk Tryz.prog (nthLoop 0 (Tryz.f25.body.getD .skip)) (stN 4 (its [x1, x2, x3, x4]) n 3 (rC s ++ rC S)) .normal (stN 4 (its [x1, x2, x3, x4]) n 4 (rC (s + maxQ (lnA x4.1 x4.2 n) 0) ++ rC (S + lnB x4.1 x4.2 n))) := by
 have H := rLenOk x4 hx n hn
 rcases rAdds x4 hx n hn s S k hk hs with ⟨e, A⟩ | ⟨e, A⟩
 ·exact fr43n n x1 x2 x3 x4 _ _ _ _ _ _ _ _ s S _ H e A
 ·exact fr43p n x1 x2 x3 x4 _ _ _ _ _ _ _ _ s S _ H e A
theorem fs50 (x1 x2 x3 x4 x5 : Rl × Rl) (hx : IvOk x1) (n : Nat) (hn : n ≤ 128) : CodeOk Tryz.prog (nthLoop 0 (Tryz.f25.body.getD .skip)) (stN 5 (its [x1, x2, x3, x4, x5]) n 0 oZC) .normal (stN 5 (its [x1, x2, x3, x4, x5]) n 1 (rC (0 + maxQ (lnA x1.1 x1.2 n) 0) ++ rC (0 + lnB x1.1 x1.2 n))) := by
 have H := rLenOk x1 hx n hn
 have A := rAdds x1 hx n hn 0 0 1 (by omega) Rat.le_refl
 rw [oV0] at A
 rcases A with ⟨e, A⟩ | ⟨e, A⟩
 ·exact fr50n n x1 x2 x3 x4 x5 _ _ _ _ _ _ _ _ _ H e A
 ·exact fr50p n x1 x2 x3 x4 x5 _ _ _ _ _ _ _ _ _ H e A
theorem fs51 (x1 x2 x3 x4 x5 : Rl × Rl) (hx : IvOk x2) (n : Nat) (hn : n ≤ 128) (s S : Rat) (k : Nat) [h1 : HasSz s k] [h2 : HasSz S k] (hk : k ≤ 20000) (hs : s ≤ S) : CodeOk Tryz.prog (nthLoop 0 (Tryz.f25.body.getD .skip)) (stN 5 (its [x1, x2, x3, x4, x5]) n 1 (rC s ++ rC S)) .normal (stN 5 (its [x1, x2, x3, x4, x5]) n 2 (rC (s + maxQ (lnA x2.1 x2.2 n) 0) ++ rC (S + lnB x2.1 x2.2 n))) := by
 have H := rLenOk x2 hx n hn
 rcases rAdds x2 hx n hn s S k hk hs with ⟨e, A⟩ | ⟨e, A⟩
 ·exact fr51n n x1 x2 x3 x4 x5 _ _ _ _ _ _ _ _ s S _ H e A
 ·exact fr51p n x1 x2 x3 x4 x5 _ _ _ _ _ _ _ _ s S _ H e A
theorem fs52 (x1 x2 x3 x4 x5 : Rl × Rl) (hx : IvOk x3) (n : Nat) (hn : n ≤ 128) (s S : Rat) (k : Nat) [h1 : HasSz s k] [h2 : HasSz S k] (hk : k ≤ 20000) (hs : s ≤ S) : CodeOk Tryz.prog (nthLoop 0 (Tryz.f25.body.getD .skip)) (stN 5 (its [x1, x2, x3, x4, x5]) n 2 (rC s ++ rC S)) .normal (stN 5 (its [x1, x2, x3, x4, x5]) n 3 (rC (s + maxQ (lnA x3.1 x3.2 n) 0) ++ rC (S + lnB x3.1 x3.2 n))) := by
 have H := rLenOk x3 hx n hn
 rcases rAdds x3 hx n hn s S k hk hs with ⟨e, A⟩ | ⟨e, A⟩
 ·exact fr52n n x1 x2 x3 x4 x5 _ _ _ _ _ _ _ _ s S _ H e A
 ·exact fr52p n x1 x2 x3 x4 x5 _ _ _ _ _ _ _ _ s S _ H e A
theorem fs53 (x1 x2 x3 x4 x5 : Rl × Rl) (hx : IvOk x4) (n : Nat) (hn : n ≤ 128) (s S : Rat) (k : Nat) [h1 : HasSz s k] [h2 : HasSz S k] (hk : k ≤ 20000) (hs : s ≤ S) : CodeOk Tryz.prog (nthLoop 0 (Tryz.f25.body.getD .skip)) (stN 5 (its [x1, x2, x3, x4, x5]) n 3 (rC s ++ rC S)) .normal (stN 5 (its [x1, x2, x3, x4, x5]) n 4 (rC (s + maxQ (lnA x4.1 x4.2 n) 0) ++ rC (S + lnB x4.1 x4.2 n))) := by
 have H := rLenOk x4 hx n hn
 rcases rAdds x4 hx n hn s S k hk hs with ⟨e, A⟩ | ⟨e, A⟩
 ·exact fr53n n x1 x2 x3 x4 x5 _ _ _ _ _ _ _ _ s S _ H e A
 ·exact fr53p n x1 x2 x3 x4 x5 _ _ _ _ _ _ _ _ s S _ H e A
theorem fs54 (x1 x2 x3 x4 x5 : Rl × Rl) (hx : IvOk x5) (n : Nat) (hn : n ≤ 128) (s S : Rat) (k : Nat) [h1 : HasSz s k] [h2 : HasSz S k] (hk : k ≤ 20000) (hs : s ≤ S) : CodeOk Tryz.prog (nthLoop 0 (Tryz.f25.body.getD .skip)) (stN 5 (its [x1, x2, x3, x4, x5]) n 4 (rC s ++ rC S)) .normal (stN 5 (its [x1, x2, x3, x4, x5]) n 5 (rC (s + maxQ (lnA x5.1 x5.2 n) 0) ++ rC (S + lnB x5.1 x5.2 n))) := by
 have H := rLenOk x5 hx n hn
 rcases rAdds x5 hx n hn s S k hk hs with ⟨e, A⟩ | ⟨e, A⟩
 ·exact fr54n n x1 x2 x3 x4 x5 _ _ _ _ _ _ _ _ s S _ H e A
 ·exact fr54p n x1 x2 x3 x4 x5 _ _ _ _ _ _ _ _ s S _ H e A
theorem fs60 (x1 x2 x3 x4 x5 x6 : Rl × Rl) (hx : IvOk x1) (n : Nat) (hn : n ≤ 128) : CodeOk Tryz.prog (nthLoop 0 (Tryz.f25.body.getD .skip)) (stN 6 (its [x1, x2, x3, x4, x5, x6]) n 0 oZC) .normal (stN 6 (its [x1, x2, x3, x4, x5, x6]) n 1 (rC (0 + maxQ (lnA x1.1 x1.2 n) 0) ++ rC (0 + lnB x1.1 x1.2 n))) := by
 have H := rLenOk x1 hx n hn
 have A := rAdds x1 hx n hn 0 0 1 (by omega) Rat.le_refl
 rw [oV0] at A
 rcases A with ⟨e, A⟩ | ⟨e, A⟩
 ·exact fr60n n x1 x2 x3 x4 x5 x6 _ _ _ _ _ _ _ _ _ H e A
 ·exact fr60p n x1 x2 x3 x4 x5 x6 _ _ _ _ _ _ _ _ _ H e A
theorem fs61 (x1 x2 x3 x4 x5 x6 : Rl × Rl) (hx : IvOk x2) (n : Nat) (hn : n ≤ 128) (s S : Rat) (k : Nat) [h1 : HasSz s k] [h2 : HasSz S k] (hk : k ≤ 20000) (hs : s ≤ S) : CodeOk Tryz.prog (nthLoop 0 (Tryz.f25.body.getD .skip)) (stN 6 (its [x1, x2, x3, x4, x5, x6]) n 1 (rC s ++ rC S)) .normal (stN 6 (its [x1, x2, x3, x4, x5, x6]) n 2 (rC (s + maxQ (lnA x2.1 x2.2 n) 0) ++ rC (S + lnB x2.1 x2.2 n))) := by
 have H := rLenOk x2 hx n hn
 rcases rAdds x2 hx n hn s S k hk hs with ⟨e, A⟩ | ⟨e, A⟩
 ·exact fr61n n x1 x2 x3 x4 x5 x6 _ _ _ _ _ _ _ _ s S _ H e A
 ·exact fr61p n x1 x2 x3 x4 x5 x6 _ _ _ _ _ _ _ _ s S _ H e A
theorem fs62 (x1 x2 x3 x4 x5 x6 : Rl × Rl) (hx : IvOk x3) (n : Nat) (hn : n ≤ 128) (s S : Rat) (k : Nat) [h1 : HasSz s k] [h2 : HasSz S k] (hk : k ≤ 20000) (hs : s ≤ S) : CodeOk Tryz.prog (nthLoop 0 (Tryz.f25.body.getD .skip)) (stN 6 (its [x1, x2, x3, x4, x5, x6]) n 2 (rC s ++ rC S)) .normal (stN 6 (its [x1, x2, x3, x4, x5, x6]) n 3 (rC (s + maxQ (lnA x3.1 x3.2 n) 0) ++ rC (S + lnB x3.1 x3.2 n))) := by
 have H := rLenOk x3 hx n hn
 rcases rAdds x3 hx n hn s S k hk hs with ⟨e, A⟩ | ⟨e, A⟩
 ·exact fr62n n x1 x2 x3 x4 x5 x6 _ _ _ _ _ _ _ _ s S _ H e A
 ·exact fr62p n x1 x2 x3 x4 x5 x6 _ _ _ _ _ _ _ _ s S _ H e A
theorem fs63 (x1 x2 x3 x4 x5 x6 : Rl × Rl) (hx : IvOk x4) (n : Nat) (hn : n ≤ 128) (s S : Rat) (k : Nat) [h1 : HasSz s k] [h2 : HasSz S k] (hk : k ≤ 20000) (hs : s ≤ S) : CodeOk Tryz.prog (nthLoop 0 (Tryz.f25.body.getD .skip)) (stN 6 (its [x1, x2, x3, x4, x5, x6]) n 3 (rC s ++ rC S)) .normal (stN 6 (its [x1, x2, x3, x4, x5, x6]) n 4 (rC (s + maxQ (lnA x4.1 x4.2 n) 0) ++ rC (S + lnB x4.1 x4.2 n))) := by
 have H := rLenOk x4 hx n hn
 rcases rAdds x4 hx n hn s S k hk hs with ⟨e, A⟩ | ⟨e, A⟩
 ·exact fr63n n x1 x2 x3 x4 x5 x6 _ _ _ _ _ _ _ _ s S _ H e A
 ·exact fr63p n x1 x2 x3 x4 x5 x6 _ _ _ _ _ _ _ _ s S _ H e A
theorem fs64 (x1 x2 x3 x4 x5 x6 : Rl × Rl) (hx : IvOk x5) (n : Nat) (hn : n ≤ 128) (s S : Rat) (k : Nat) [h1 : HasSz s k] [h2 : HasSz S k] (hk : k ≤ 20000) (hs : s ≤ S) : CodeOk Tryz.prog (nthLoop 0 (Tryz.f25.body.getD .skip)) (stN 6 (its [x1, x2, x3, x4, x5, x6]) n 4 (rC s ++ rC S)) .normal (stN 6 (its [x1, x2, x3, x4, x5, x6]) n 5 (rC (s + maxQ (lnA x5.1 x5.2 n) 0) ++ rC (S + lnB x5.1 x5.2 n))) := by
 have H := rLenOk x5 hx n hn
 rcases rAdds x5 hx n hn s S k hk hs with ⟨e, A⟩ | ⟨e, A⟩
 ·exact fr64n n x1 x2 x3 x4 x5 x6 _ _ _ _ _ _ _ _ s S _ H e A
 ·exact fr64p n x1 x2 x3 x4 x5 x6 _ _ _ _ _ _ _ _ s S _ H e A
theorem fs65 (x1 x2 x3 x4 x5 x6 : Rl × Rl) (hx : IvOk x6) (n : Nat) (hn : n ≤ 128) (s S : Rat) (k : Nat) [h1 : HasSz s k] [h2 : HasSz S k] (hk : k ≤ 20000) (hs : s ≤ S) : CodeOk Tryz.prog (nthLoop 0 (Tryz.f25.body.getD .skip)) (stN 6 (its [x1, x2, x3, x4, x5, x6]) n 5 (rC s ++ rC S)) .normal (stN 6 (its [x1, x2, x3, x4, x5, x6]) n 6 (rC (s + maxQ (lnA x6.1 x6.2 n) 0) ++ rC (S + lnB x6.1 x6.2 n))) := by
 have H := rLenOk x6 hx n hn
 rcases rAdds x6 hx n hn s S k hk hs with ⟨e, A⟩ | ⟨e, A⟩
 ·exact fr65n n x1 x2 x3 x4 x5 x6 _ _ _ _ _ _ _ _ s S _ H e A
 ·exact fr65p n x1 x2 x3 x4 x5 x6 _ _ _ _ _ _ _ _ s S _ H e A
theorem len1 (x1 : Rl × Rl) (hx1 : IvOk x1) (n : Nat) (hn : n ≤ 128) :
    Sp Tryz.prog 18 [(1, its [x1])] [row 0 1, nV n] (.tuple #[oV (lnS n [x1] 0 0).1 (lnS n [x1] 0 0).2, nV 0]) [] ∧ Sp Tryz.prog 25 [(1, its [x1])] [row 0 1, nV n] (oV (lnS n [x1] 0 0).1 (lnS n [x1] 0 0).2) [] := by
 have b1 : decide ((n : Int) < 0) = false := decide_eq_false (by omega)
 have b2 : decide ((n : Int) > 128) = false := decide_eq_false (by omega)
 haveI z0 : HasSz (0 : Rat) 1 := inferInstance
 have l0 : (0 : Rat) ≤ 0 := Rat.le_refl
 have H1 := lenOk x1 hx1 n hn 0 0 1 (by omega)
 rw [oV0] at H1
 have c1 := fs10 x1 hx1 n hn
 obtain ⟨s1, es1⟩ : ∃ t, t = 0 + maxQ (lnA x1.1 x1.2 n) 0 := ⟨_, rfl⟩
 obtain ⟨S1, eS1⟩ : ∃ t, t = 0 + lnB x1.1 x1.2 n := ⟨_, rfl⟩
 have l1 : s1 ≤ S1 := by rw [es1, eS1]; exact sum_le x1 hx1 n l0
 obtain ⟨z1, y1⟩ : HasSz s1 2001 ∧ HasSz S1 2001 := by rw [es1, eS1]; exact ln_hs x1 hx1 n hn 0 0 1
 rw [← es1, ← eS1] at H1 c1
 have e1 : (lnS n [x1] 0 0).1 = s1 := by rw [es1]; rfl
 have e2 : (lnS n [x1] 0 0).2 = S1 := by rw [eS1]; rfl
 rw [e1, e2]
 refine ⟨eLen1 (b := n) (h := b1) (h2 := b2) (H1 := H1), fLen1 n x1 _ _ (RoundsOk.more c1 (RoundsOk.out (by simp) (fr1x n x1 s1 S1))).loop⟩
theorem len2 (x1 x2 : Rl × Rl) (hx1 : IvOk x1) (hx2 : IvOk x2) (n : Nat) (hn : n ≤ 128) :
    Sp Tryz.prog 18 [(2, its [x1, x2])] [row 0 2, nV n] (.tuple #[oV (lnS n [x1, x2] 0 0).1 (lnS n [x1, x2] 0 0).2, nV 0]) [] ∧ Sp Tryz.prog 25 [(2, its [x1, x2])] [row 0 2, nV n] (oV (lnS n [x1, x2] 0 0).1 (lnS n [x1, x2] 0 0).2) [] := by
 have b1 : decide ((n : Int) < 0) = false := decide_eq_false (by omega)
 have b2 : decide ((n : Int) > 128) = false := decide_eq_false (by omega)
 haveI z0 : HasSz (0 : Rat) 1 := inferInstance
 have l0 : (0 : Rat) ≤ 0 := Rat.le_refl
 have H1 := lenOk x1 hx1 n hn 0 0 1 (by omega)
 rw [oV0] at H1
 have c1 := fs20 x1 x2 hx1 n hn
 obtain ⟨s1, es1⟩ : ∃ t, t = 0 + maxQ (lnA x1.1 x1.2 n) 0 := ⟨_, rfl⟩
 obtain ⟨S1, eS1⟩ : ∃ t, t = 0 + lnB x1.1 x1.2 n := ⟨_, rfl⟩
 have l1 : s1 ≤ S1 := by rw [es1, eS1]; exact sum_le x1 hx1 n l0
 obtain ⟨z1, y1⟩ : HasSz s1 2001 ∧ HasSz S1 2001 := by rw [es1, eS1]; exact ln_hs x1 hx1 n hn 0 0 1
 rw [← es1, ← eS1] at H1 c1
 have H2 := lenOk x2 hx2 n hn s1 S1 2001 (by omega)
 have c2 := fs21 x1 x2 hx2 n hn s1 S1 2001 (by omega) l1
 obtain ⟨s2, es2⟩ : ∃ t, t = s1 + maxQ (lnA x2.1 x2.2 n) 0 := ⟨_, rfl⟩
 obtain ⟨S2, eS2⟩ : ∃ t, t = S1 + lnB x2.1 x2.2 n := ⟨_, rfl⟩
 have l2 : s2 ≤ S2 := by rw [es2, eS2]; exact sum_le x2 hx2 n l1
 obtain ⟨z2, y2⟩ : HasSz s2 4001 ∧ HasSz S2 4001 := by rw [es2, eS2]; exact ln_hs x2 hx2 n hn s1 S1 2001
 rw [← es2, ← eS2] at H2 c2
 have e1 : (lnS n [x1, x2] 0 0).1 = s2 := by rw [es2, es1]; rfl
 have e2 : (lnS n [x1, x2] 0 0).2 = S2 := by rw [eS2, eS1]; rfl
 rw [e1, e2]
 refine ⟨eLen2 (b := n) (h := b1) (h2 := b2) (H1 := H1) (H2 := H2), fLen2 n x1 x2 _ _ (RoundsOk.more c1 (RoundsOk.more c2 (RoundsOk.out (by simp) (fr2x n x1 x2 s2 S2)))).loop⟩
theorem len3 (x1 x2 x3 : Rl × Rl) (hx1 : IvOk x1) (hx2 : IvOk x2) (hx3 : IvOk x3) (n : Nat) (hn : n ≤ 128) :
    Sp Tryz.prog 18 [(3, its [x1, x2, x3])] [row 0 3, nV n] (.tuple #[oV (lnS n [x1, x2, x3] 0 0).1 (lnS n [x1, x2, x3] 0 0).2, nV 0]) [] ∧ Sp Tryz.prog 25 [(3, its [x1, x2, x3])] [row 0 3, nV n] (oV (lnS n [x1, x2, x3] 0 0).1 (lnS n [x1, x2, x3] 0 0).2) [] := by
 have b1 : decide ((n : Int) < 0) = false := decide_eq_false (by omega)
 have b2 : decide ((n : Int) > 128) = false := decide_eq_false (by omega)
 haveI z0 : HasSz (0 : Rat) 1 := inferInstance
 have l0 : (0 : Rat) ≤ 0 := Rat.le_refl
 have H1 := lenOk x1 hx1 n hn 0 0 1 (by omega)
 rw [oV0] at H1
 have c1 := fs30 x1 x2 x3 hx1 n hn
 obtain ⟨s1, es1⟩ : ∃ t, t = 0 + maxQ (lnA x1.1 x1.2 n) 0 := ⟨_, rfl⟩
 obtain ⟨S1, eS1⟩ : ∃ t, t = 0 + lnB x1.1 x1.2 n := ⟨_, rfl⟩
 have l1 : s1 ≤ S1 := by rw [es1, eS1]; exact sum_le x1 hx1 n l0
 obtain ⟨z1, y1⟩ : HasSz s1 2001 ∧ HasSz S1 2001 := by rw [es1, eS1]; exact ln_hs x1 hx1 n hn 0 0 1
 rw [← es1, ← eS1] at H1 c1
 have H2 := lenOk x2 hx2 n hn s1 S1 2001 (by omega)
 have c2 := fs31 x1 x2 x3 hx2 n hn s1 S1 2001 (by omega) l1
 obtain ⟨s2, es2⟩ : ∃ t, t = s1 + maxQ (lnA x2.1 x2.2 n) 0 := ⟨_, rfl⟩
 obtain ⟨S2, eS2⟩ : ∃ t, t = S1 + lnB x2.1 x2.2 n := ⟨_, rfl⟩
 have l2 : s2 ≤ S2 := by rw [es2, eS2]; exact sum_le x2 hx2 n l1
 obtain ⟨z2, y2⟩ : HasSz s2 4001 ∧ HasSz S2 4001 := by rw [es2, eS2]; exact ln_hs x2 hx2 n hn s1 S1 2001
 rw [← es2, ← eS2] at H2 c2
 have H3 := lenOk x3 hx3 n hn s2 S2 4001 (by omega)
 have c3 := fs32 x1 x2 x3 hx3 n hn s2 S2 4001 (by omega) l2
 obtain ⟨s3, es3⟩ : ∃ t, t = s2 + maxQ (lnA x3.1 x3.2 n) 0 := ⟨_, rfl⟩
 obtain ⟨S3, eS3⟩ : ∃ t, t = S2 + lnB x3.1 x3.2 n := ⟨_, rfl⟩
 have l3 : s3 ≤ S3 := by rw [es3, eS3]; exact sum_le x3 hx3 n l2
 obtain ⟨z3, y3⟩ : HasSz s3 6001 ∧ HasSz S3 6001 := by rw [es3, eS3]; exact ln_hs x3 hx3 n hn s2 S2 4001
 rw [← es3, ← eS3] at H3 c3
 have e1 : (lnS n [x1, x2, x3] 0 0).1 = s3 := by rw [es3, es2, es1]; rfl
 have e2 : (lnS n [x1, x2, x3] 0 0).2 = S3 := by rw [eS3, eS2, eS1]; rfl
 rw [e1, e2]
 refine ⟨eLen3 (b := n) (h := b1) (h2 := b2) (H1 := H1) (H2 := H2) (H3 := H3), fLen3 n x1 x2 x3 _ _ (RoundsOk.more c1 (RoundsOk.more c2 (RoundsOk.more c3 (RoundsOk.out (by simp) (fr3x n x1 x2 x3 s3 S3))))).loop⟩
theorem len4 (x1 x2 x3 x4 : Rl × Rl) (hx1 : IvOk x1) (hx2 : IvOk x2) (hx3 : IvOk x3) (hx4 : IvOk x4) (n : Nat) (hn : n ≤ 128) :
    Sp Tryz.prog 18 [(4, its [x1, x2, x3, x4])] [row 0 4, nV n] (.tuple #[oV (lnS n [x1, x2, x3, x4] 0 0).1 (lnS n [x1, x2, x3, x4] 0 0).2, nV 0]) [] ∧ Sp Tryz.prog 25 [(4, its [x1, x2, x3, x4])] [row 0 4, nV n] (oV (lnS n [x1, x2, x3, x4] 0 0).1 (lnS n [x1, x2, x3, x4] 0 0).2) [] := by
 have b1 : decide ((n : Int) < 0) = false := decide_eq_false (by omega)
 have b2 : decide ((n : Int) > 128) = false := decide_eq_false (by omega)
 haveI z0 : HasSz (0 : Rat) 1 := inferInstance
 have l0 : (0 : Rat) ≤ 0 := Rat.le_refl
 have H1 := lenOk x1 hx1 n hn 0 0 1 (by omega)
 rw [oV0] at H1
 have c1 := fs40 x1 x2 x3 x4 hx1 n hn
 obtain ⟨s1, es1⟩ : ∃ t, t = 0 + maxQ (lnA x1.1 x1.2 n) 0 := ⟨_, rfl⟩
 obtain ⟨S1, eS1⟩ : ∃ t, t = 0 + lnB x1.1 x1.2 n := ⟨_, rfl⟩
 have l1 : s1 ≤ S1 := by rw [es1, eS1]; exact sum_le x1 hx1 n l0
 obtain ⟨z1, y1⟩ : HasSz s1 2001 ∧ HasSz S1 2001 := by rw [es1, eS1]; exact ln_hs x1 hx1 n hn 0 0 1
 rw [← es1, ← eS1] at H1 c1
 have H2 := lenOk x2 hx2 n hn s1 S1 2001 (by omega)
 have c2 := fs41 x1 x2 x3 x4 hx2 n hn s1 S1 2001 (by omega) l1
 obtain ⟨s2, es2⟩ : ∃ t, t = s1 + maxQ (lnA x2.1 x2.2 n) 0 := ⟨_, rfl⟩
 obtain ⟨S2, eS2⟩ : ∃ t, t = S1 + lnB x2.1 x2.2 n := ⟨_, rfl⟩
 have l2 : s2 ≤ S2 := by rw [es2, eS2]; exact sum_le x2 hx2 n l1
 obtain ⟨z2, y2⟩ : HasSz s2 4001 ∧ HasSz S2 4001 := by rw [es2, eS2]; exact ln_hs x2 hx2 n hn s1 S1 2001
 rw [← es2, ← eS2] at H2 c2
 have H3 := lenOk x3 hx3 n hn s2 S2 4001 (by omega)
 have c3 := fs42 x1 x2 x3 x4 hx3 n hn s2 S2 4001 (by omega) l2
 obtain ⟨s3, es3⟩ : ∃ t, t = s2 + maxQ (lnA x3.1 x3.2 n) 0 := ⟨_, rfl⟩
 obtain ⟨S3, eS3⟩ : ∃ t, t = S2 + lnB x3.1 x3.2 n := ⟨_, rfl⟩
 have l3 : s3 ≤ S3 := by rw [es3, eS3]; exact sum_le x3 hx3 n l2
 obtain ⟨z3, y3⟩ : HasSz s3 6001 ∧ HasSz S3 6001 := by rw [es3, eS3]; exact ln_hs x3 hx3 n hn s2 S2 4001
 rw [← es3, ← eS3] at H3 c3
 have H4 := lenOk x4 hx4 n hn s3 S3 6001 (by omega)
 have c4 := fs43 x1 x2 x3 x4 hx4 n hn s3 S3 6001 (by omega) l3
 obtain ⟨s4, es4⟩ : ∃ t, t = s3 + maxQ (lnA x4.1 x4.2 n) 0 := ⟨_, rfl⟩
 obtain ⟨S4, eS4⟩ : ∃ t, t = S3 + lnB x4.1 x4.2 n := ⟨_, rfl⟩
 have l4 : s4 ≤ S4 := by rw [es4, eS4]; exact sum_le x4 hx4 n l3
 obtain ⟨z4, y4⟩ : HasSz s4 8001 ∧ HasSz S4 8001 := by rw [es4, eS4]; exact ln_hs x4 hx4 n hn s3 S3 6001
 rw [← es4, ← eS4] at H4 c4
 have e1 : (lnS n [x1, x2, x3, x4] 0 0).1 = s4 := by rw [es4, es3, es2, es1]; rfl
 have e2 : (lnS n [x1, x2, x3, x4] 0 0).2 = S4 := by rw [eS4, eS3, eS2, eS1]; rfl
 rw [e1, e2]
 refine ⟨eLen4 (b := n) (h := b1) (h2 := b2) (H1 := H1) (H2 := H2) (H3 := H3) (H4 := H4), fLen4 n x1 x2 x3 x4 _ _ (RoundsOk.more c1 (RoundsOk.more c2 (RoundsOk.more c3 (RoundsOk.more c4 (RoundsOk.out (by simp) (fr4x n x1 x2 x3 x4 s4 S4)))))).loop⟩
theorem len5 (x1 x2 x3 x4 x5 : Rl × Rl) (hx1 : IvOk x1) (hx2 : IvOk x2) (hx3 : IvOk x3) (hx4 : IvOk x4) (hx5 : IvOk x5) (n : Nat) (hn : n ≤ 128) :
    Sp Tryz.prog 18 [(5, its [x1, x2, x3, x4, x5])] [row 0 5, nV n] (.tuple #[oV (lnS n [x1, x2, x3, x4, x5] 0 0).1 (lnS n [x1, x2, x3, x4, x5] 0 0).2, nV 0]) [] ∧ Sp Tryz.prog 25 [(5, its [x1, x2, x3, x4, x5])] [row 0 5, nV n] (oV (lnS n [x1, x2, x3, x4, x5] 0 0).1 (lnS n [x1, x2, x3, x4, x5] 0 0).2) [] := by
 have b1 : decide ((n : Int) < 0) = false := decide_eq_false (by omega)
 have b2 : decide ((n : Int) > 128) = false := decide_eq_false (by omega)
 haveI z0 : HasSz (0 : Rat) 1 := inferInstance
 have l0 : (0 : Rat) ≤ 0 := Rat.le_refl
 have H1 := lenOk x1 hx1 n hn 0 0 1 (by omega)
 rw [oV0] at H1
 have c1 := fs50 x1 x2 x3 x4 x5 hx1 n hn
 obtain ⟨s1, es1⟩ : ∃ t, t = 0 + maxQ (lnA x1.1 x1.2 n) 0 := ⟨_, rfl⟩
 obtain ⟨S1, eS1⟩ : ∃ t, t = 0 + lnB x1.1 x1.2 n := ⟨_, rfl⟩
 have l1 : s1 ≤ S1 := by rw [es1, eS1]; exact sum_le x1 hx1 n l0
 obtain ⟨z1, y1⟩ : HasSz s1 2001 ∧ HasSz S1 2001 := by rw [es1, eS1]; exact ln_hs x1 hx1 n hn 0 0 1
 rw [← es1, ← eS1] at H1 c1
 have H2 := lenOk x2 hx2 n hn s1 S1 2001 (by omega)
 have c2 := fs51 x1 x2 x3 x4 x5 hx2 n hn s1 S1 2001 (by omega) l1
 obtain ⟨s2, es2⟩ : ∃ t, t = s1 + maxQ (lnA x2.1 x2.2 n) 0 := ⟨_, rfl⟩
 obtain ⟨S2, eS2⟩ : ∃ t, t = S1 + lnB x2.1 x2.2 n := ⟨_, rfl⟩
 have l2 : s2 ≤ S2 := by rw [es2, eS2]; exact sum_le x2 hx2 n l1
 obtain ⟨z2, y2⟩ : HasSz s2 4001 ∧ HasSz S2 4001 := by rw [es2, eS2]; exact ln_hs x2 hx2 n hn s1 S1 2001
 rw [← es2, ← eS2] at H2 c2
 have H3 := lenOk x3 hx3 n hn s2 S2 4001 (by omega)
 have c3 := fs52 x1 x2 x3 x4 x5 hx3 n hn s2 S2 4001 (by omega) l2
 obtain ⟨s3, es3⟩ : ∃ t, t = s2 + maxQ (lnA x3.1 x3.2 n) 0 := ⟨_, rfl⟩
 obtain ⟨S3, eS3⟩ : ∃ t, t = S2 + lnB x3.1 x3.2 n := ⟨_, rfl⟩
 have l3 : s3 ≤ S3 := by rw [es3, eS3]; exact sum_le x3 hx3 n l2
 obtain ⟨z3, y3⟩ : HasSz s3 6001 ∧ HasSz S3 6001 := by rw [es3, eS3]; exact ln_hs x3 hx3 n hn s2 S2 4001
 rw [← es3, ← eS3] at H3 c3
 have H4 := lenOk x4 hx4 n hn s3 S3 6001 (by omega)
 have c4 := fs53 x1 x2 x3 x4 x5 hx4 n hn s3 S3 6001 (by omega) l3
 obtain ⟨s4, es4⟩ : ∃ t, t = s3 + maxQ (lnA x4.1 x4.2 n) 0 := ⟨_, rfl⟩
 obtain ⟨S4, eS4⟩ : ∃ t, t = S3 + lnB x4.1 x4.2 n := ⟨_, rfl⟩
 have l4 : s4 ≤ S4 := by rw [es4, eS4]; exact sum_le x4 hx4 n l3
 obtain ⟨z4, y4⟩ : HasSz s4 8001 ∧ HasSz S4 8001 := by rw [es4, eS4]; exact ln_hs x4 hx4 n hn s3 S3 6001
 rw [← es4, ← eS4] at H4 c4
 have H5 := lenOk x5 hx5 n hn s4 S4 8001 (by omega)
 have c5 := fs54 x1 x2 x3 x4 x5 hx5 n hn s4 S4 8001 (by omega) l4
 obtain ⟨s5, es5⟩ : ∃ t, t = s4 + maxQ (lnA x5.1 x5.2 n) 0 := ⟨_, rfl⟩
 obtain ⟨S5, eS5⟩ : ∃ t, t = S4 + lnB x5.1 x5.2 n := ⟨_, rfl⟩
 have l5 : s5 ≤ S5 := by rw [es5, eS5]; exact sum_le x5 hx5 n l4
 obtain ⟨z5, y5⟩ : HasSz s5 10001 ∧ HasSz S5 10001 := by rw [es5, eS5]; exact ln_hs x5 hx5 n hn s4 S4 8001
 rw [← es5, ← eS5] at H5 c5
 have e1 : (lnS n [x1, x2, x3, x4, x5] 0 0).1 = s5 := by rw [es5, es4, es3, es2, es1]; rfl
 have e2 : (lnS n [x1, x2, x3, x4, x5] 0 0).2 = S5 := by rw [eS5, eS4, eS3, eS2, eS1]; rfl
 rw [e1, e2]
 refine ⟨eLen5 (b := n) (h := b1) (h2 := b2) (H1 := H1) (H2 := H2) (H3 := H3) (H4 := H4) (H5 := H5), fLen5 n x1 x2 x3 x4 x5 _ _ (RoundsOk.more c1 (RoundsOk.more c2 (RoundsOk.more c3 (RoundsOk.more c4 (RoundsOk.more c5 (RoundsOk.out (by simp) (fr5x n x1 x2 x3 x4 x5 s5 S5))))))).loop⟩
theorem len6 (x1 x2 x3 x4 x5 x6 : Rl × Rl) (hx1 : IvOk x1) (hx2 : IvOk x2) (hx3 : IvOk x3) (hx4 : IvOk x4) (hx5 : IvOk x5) (hx6 : IvOk x6) (n : Nat) (hn : n ≤ 128) :
    Sp Tryz.prog 18 [(6, its [x1, x2, x3, x4, x5, x6])] [row 0 6, nV n] (.tuple #[oV (lnS n [x1, x2, x3, x4, x5, x6] 0 0).1 (lnS n [x1, x2, x3, x4, x5, x6] 0 0).2, nV 0]) [] ∧ Sp Tryz.prog 25 [(6, its [x1, x2, x3, x4, x5, x6])] [row 0 6, nV n] (oV (lnS n [x1, x2, x3, x4, x5, x6] 0 0).1 (lnS n [x1, x2, x3, x4, x5, x6] 0 0).2) [] := by
 have b1 : decide ((n : Int) < 0) = false := decide_eq_false (by omega)
 have b2 : decide ((n : Int) > 128) = false := decide_eq_false (by omega)
 haveI z0 : HasSz (0 : Rat) 1 := inferInstance
 have l0 : (0 : Rat) ≤ 0 := Rat.le_refl
 have H1 := lenOk x1 hx1 n hn 0 0 1 (by omega)
 rw [oV0] at H1
 have c1 := fs60 x1 x2 x3 x4 x5 x6 hx1 n hn
 obtain ⟨s1, es1⟩ : ∃ t, t = 0 + maxQ (lnA x1.1 x1.2 n) 0 := ⟨_, rfl⟩
 obtain ⟨S1, eS1⟩ : ∃ t, t = 0 + lnB x1.1 x1.2 n := ⟨_, rfl⟩
 have l1 : s1 ≤ S1 := by rw [es1, eS1]; exact sum_le x1 hx1 n l0
 obtain ⟨z1, y1⟩ : HasSz s1 2001 ∧ HasSz S1 2001 := by rw [es1, eS1]; exact ln_hs x1 hx1 n hn 0 0 1
 rw [← es1, ← eS1] at H1 c1
 have H2 := lenOk x2 hx2 n hn s1 S1 2001 (by omega)
 have c2 := fs61 x1 x2 x3 x4 x5 x6 hx2 n hn s1 S1 2001 (by omega) l1
 obtain ⟨s2, es2⟩ : ∃ t, t = s1 + maxQ (lnA x2.1 x2.2 n) 0 := ⟨_, rfl⟩
 obtain ⟨S2, eS2⟩ : ∃ t, t = S1 + lnB x2.1 x2.2 n := ⟨_, rfl⟩
 have l2 : s2 ≤ S2 := by rw [es2, eS2]; exact sum_le x2 hx2 n l1
 obtain ⟨z2, y2⟩ : HasSz s2 4001 ∧ HasSz S2 4001 := by rw [es2, eS2]; exact ln_hs x2 hx2 n hn s1 S1 2001
 rw [← es2, ← eS2] at H2 c2
 have H3 := lenOk x3 hx3 n hn s2 S2 4001 (by omega)
 have c3 := fs62 x1 x2 x3 x4 x5 x6 hx3 n hn s2 S2 4001 (by omega) l2
 obtain ⟨s3, es3⟩ : ∃ t, t = s2 + maxQ (lnA x3.1 x3.2 n) 0 := ⟨_, rfl⟩
 obtain ⟨S3, eS3⟩ : ∃ t, t = S2 + lnB x3.1 x3.2 n := ⟨_, rfl⟩
 have l3 : s3 ≤ S3 := by rw [es3, eS3]; exact sum_le x3 hx3 n l2
 obtain ⟨z3, y3⟩ : HasSz s3 6001 ∧ HasSz S3 6001 := by rw [es3, eS3]; exact ln_hs x3 hx3 n hn s2 S2 4001
 rw [← es3, ← eS3] at H3 c3
 have H4 := lenOk x4 hx4 n hn s3 S3 6001 (by omega)
 have c4 := fs63 x1 x2 x3 x4 x5 x6 hx4 n hn s3 S3 6001 (by omega) l3
 obtain ⟨s4, es4⟩ : ∃ t, t = s3 + maxQ (lnA x4.1 x4.2 n) 0 := ⟨_, rfl⟩
 obtain ⟨S4, eS4⟩ : ∃ t, t = S3 + lnB x4.1 x4.2 n := ⟨_, rfl⟩
 have l4 : s4 ≤ S4 := by rw [es4, eS4]; exact sum_le x4 hx4 n l3
 obtain ⟨z4, y4⟩ : HasSz s4 8001 ∧ HasSz S4 8001 := by rw [es4, eS4]; exact ln_hs x4 hx4 n hn s3 S3 6001
 rw [← es4, ← eS4] at H4 c4
 have H5 := lenOk x5 hx5 n hn s4 S4 8001 (by omega)
 have c5 := fs64 x1 x2 x3 x4 x5 x6 hx5 n hn s4 S4 8001 (by omega) l4
 obtain ⟨s5, es5⟩ : ∃ t, t = s4 + maxQ (lnA x5.1 x5.2 n) 0 := ⟨_, rfl⟩
 obtain ⟨S5, eS5⟩ : ∃ t, t = S4 + lnB x5.1 x5.2 n := ⟨_, rfl⟩
 have l5 : s5 ≤ S5 := by rw [es5, eS5]; exact sum_le x5 hx5 n l4
 obtain ⟨z5, y5⟩ : HasSz s5 10001 ∧ HasSz S5 10001 := by rw [es5, eS5]; exact ln_hs x5 hx5 n hn s4 S4 8001
 rw [← es5, ← eS5] at H5 c5
 have H6 := lenOk x6 hx6 n hn s5 S5 10001 (by omega)
 have c6 := fs65 x1 x2 x3 x4 x5 x6 hx6 n hn s5 S5 10001 (by omega) l5
 obtain ⟨s6, es6⟩ : ∃ t, t = s5 + maxQ (lnA x6.1 x6.2 n) 0 := ⟨_, rfl⟩
 obtain ⟨S6, eS6⟩ : ∃ t, t = S5 + lnB x6.1 x6.2 n := ⟨_, rfl⟩
 have l6 : s6 ≤ S6 := by rw [es6, eS6]; exact sum_le x6 hx6 n l5
 obtain ⟨z6, y6⟩ : HasSz s6 12001 ∧ HasSz S6 12001 := by rw [es6, eS6]; exact ln_hs x6 hx6 n hn s5 S5 10001
 rw [← es6, ← eS6] at H6 c6
 have e1 : (lnS n [x1, x2, x3, x4, x5, x6] 0 0).1 = s6 := by rw [es6, es5, es4, es3, es2, es1]; rfl
 have e2 : (lnS n [x1, x2, x3, x4, x5, x6] 0 0).2 = S6 := by rw [eS6, eS5, eS4, eS3, eS2, eS1]; rfl
 rw [e1, e2]
 refine ⟨eLen6 (b := n) (h := b1) (h2 := b2) (H1 := H1) (H2 := H2) (H3 := H3) (H4 := H4) (H5 := H5) (H6 := H6), fLen6 n x1 x2 x3 x4 x5 x6 _ _ (RoundsOk.more c1 (RoundsOk.more c2 (RoundsOk.more c3 (RoundsOk.more c4 (RoundsOk.more c5 (RoundsOk.more c6 (RoundsOk.out (by simp) (fr6x n x1 x2 x3 x4 x5 x6 s6 S6)))))))).loop⟩
theorem lnS_pos (n : Nat) : ∀ (l : List (Rl × Rl)) (s S : Rat), 0 ≤ s → 0 ≤ (lnS n l s S).1
 | [], s, S, h => h
 | x :: l, s, S, h => by
  unfold lnS
  refine lnS_pos n l _ _ ?_
  have := (maxQ_ge (lnA x.1 x.2 n) 0).2
  grind
theorem lnS_wide (n : Nat) : ∀ (l : List (Rl × Rl)) (s S : Rat), (lnS n l s S).2 - (lnS n l s S).1 ≤ S - s + ((2 * l.length : Nat) : Rat) * (1 / ((p2 n : Int) : Rat))
 | [], s, S => by
  show S - s ≤ S - s + ((0 : Nat) : Rat) * _
  rw [show ((0 : Nat) : Rat) = 0 from rfl]
  grind
 | x :: l, s, S => by
  unfold lnS
  have h1 := lnS_wide n l (s + maxQ (lnA x.1 x.2 n) 0) (S + lnB x.1 x.2 n)
  have h2 := ln_wide x.1 x.2 n
  have e : ((2 * (x :: l).length : Nat) : Rat) = ((2 * l.length : Nat) : Rat) + 2 := by
   rw [List.length_cons, show 2 * (l.length + 1) = 2 * l.length + 2 by omega, Rat.natCast_add]; rfl
  rw [e]
  grind
end Go.Proofs.YtlblfgbpogljoaaGreatDoor

end
section
/- The laws of lengths: an interval, and a list of one. -/
namespace Go.Proofs.YtlblfgbpogljoaaGreatDoor
open Go Go.RowKit Go.Sy
open Vi
structure En where
 (a b c d : Int)
 m : Bool
 (e f g h : Int)
 n : Bool
def enC (q : En) : List Value := [.int .i32 q.a, .int .u16 q.b, .int .i32 q.c, .int .u16 q.d, .bool q.m, .int .i32 q.e, .int .u16 q.f, .int .i32 q.g, .int .u16 q.h, .bool q.n]
def EnOk (q : En) : Prop := RootOk q.a q.b q.c q.d ∧ RootOk q.e q.f q.g q.h
def enS : List En → List Value
 | [] => []
 | q :: l => enC q ++ enS l
def enI (q : En) (x : Rl × Rl) : Prop := Sp Tryz.prog 17 [] [rootV q.a q.b q.c q.d q.m, rootV q.e q.f q.g q.h q.n] (itV x) []
theorem vInterval (q : En) (h : EnOk q) : ∃ x, IvOk x ∧ enI q x := by
 obtain ⟨u, v⟩ := h
 obtain ⟨x, hx, s1, s2, A⟩ := vRoot q.a q.b q.c q.d q.m u
 obtain ⟨y, hy, s3, s4, B⟩ := vRoot q.e q.f q.g q.h q.n v
 have C := qCompare x y 10 (by omega) (by omega) hx.nonneg hy.nonneg
 unfold enI
 obtain ⟨a, b, c, d, m, e, f, g, h, n⟩ := q
 dsimp only at *
 rcases RR.sg_cases (x.val - y.val) with ⟨g1, g2⟩ | ⟨g1, g2⟩ | ⟨g1, g2⟩
 ·have hle : x.val ≤ y.val := RR.le_of_lt (RR.not_le.1 fun h => absurd g2 (RR.sub_nonneg.2 h))
  have e1 : decide (Rl.cmp x y > 0) = false := by unfold Rl.cmp; rw [g1]; rfl
  refine ⟨(x, y), ⟨hx, hy, hle, s1, s2, s3, s4⟩, ?_⟩
  clear hx hy s1 s2 s3 s4 g1 g2 u v hle
  generalize Rl.cmp x y = t at *
  obtain ⟨p1, r1, w1⟩ := x
  obtain ⟨p2, r2, w2⟩ := y
  exact walk (code := Tryz.f17.body.getD .skip) [Sy.c A, Sy.c B, Sy.c C, eb e1] fol Tryz.func17 (by kernel_rfl) (fun xs w => Tryz.call17 xs w) (by kernel_rfl)
 ·have hle : x.val ≤ y.val := RR.le_of_eq (RR.sub_zero' g2)
  have e1 : decide (Rl.cmp x y > 0) = false := by unfold Rl.cmp; rw [g1]; rfl
  refine ⟨(x, y), ⟨hx, hy, hle, s1, s2, s3, s4⟩, ?_⟩
  clear hx hy s1 s2 s3 s4 g1 g2 u v hle
  generalize Rl.cmp x y = t at *
  obtain ⟨p1, r1, w1⟩ := x
  obtain ⟨p2, r2, w2⟩ := y
  exact walk (code := Tryz.f17.body.getD .skip) [Sy.c A, Sy.c B, Sy.c C, eb e1] fol Tryz.func17 (by kernel_rfl) (fun xs w => Tryz.call17 xs w) (by kernel_rfl)
 ·have hle : y.val ≤ x.val := RR.le_of_lt (RR.sub_pos.1 g2)
  have e1 : decide (Rl.cmp x y > 0) = true := by unfold Rl.cmp; rw [g1]; rfl
  refine ⟨(y, x), ⟨hy, hx, hle, s3, s4, s1, s2⟩, ?_⟩
  clear hx hy s1 s2 s3 s4 g1 g2 u v hle
  generalize Rl.cmp x y = t at *
  obtain ⟨p1, r1, w1⟩ := x
  obtain ⟨p2, r2, w2⟩ := y
  exact walk (code := Tryz.f17.body.getD .skip) [Sy.c A, Sy.c B, Sy.c C, eb e1] fol Tryz.func17 (by kernel_rfl) (fun xs w => Tryz.call17 xs w) (by kernel_rfl)
theorem lw_one (x : Rl × Rl) (n : Nat) (h : IvOk x) (hn : n ≤ 128) : HasSz (lnS n [x] 0 0).1 2001 ∧ HasSz (lnS n [x] 0 0).2 2001 ∧
    decide (Rl.cmp ⟨x.1.p + (lnS n [x] 0 0).1, x.1.r, x.1.neg⟩ x.2 ≤ 0) = true ∧ decide (Rl.cmp ⟨x.1.p + (lnS n [x] 0 0).2, x.1.r, x.1.neg⟩ x.2 ≥ 0) = true := by
 obtain ⟨z1, y1⟩ : HasSz (lnS n [x] 0 0).1 2001 ∧ HasSz (lnS n [x] 0 0).2 2001 := ln_hs x h n hn 0 0 1
 obtain ⟨hF, hT, hle, _⟩ := h
 have f1 := of_in x.1 n hF
 have f2 := of_in x.2 n hT
 have g1 := RR.sub_nonneg.2 hle
 have g2 := RR.add_nonneg (RR.sub_nonneg.2 f1.2) (RR.sub_nonneg.2 f2.1)
 have g3 := RR.add_nonneg (RR.sub_nonneg.2 f1.1) (RR.sub_nonneg.2 f2.2)
 refine ⟨z1, y1, ?_, ?_⟩
 ·have : x.1.val + RR.ofRat (lnS n [x] 0 0).1 ≤ x.2.val := by
    rw [show (lnS n [x] 0 0).1 = 0 + maxQ (lnA x.1 x.2 n) 0 from rfl, maxQ0]
    split
    ·rw [Rat.add_zero]
     exact RR.le_of_nonneg _ g1 (RR.ring (x := x.2.val - (x.1.val + 0)) [x.1.val, x.2.val] (by decide +kernel))
    ·rw [Rat.zero_add]
     unfold lnA
     rw [RR.rat_sub]
     exact RR.le_of_nonneg _ g2 (RR.ring [x.1.val, x.2.val, RR.ofRat (ofLow x.2 n), RR.ofRat (ofHigh x.1 n)] (by decide +kernel))
  rw [← Rl.shift_val] at this
  unfold Rl.cmp
  rcases RR.sg_cases (Rl.val ⟨x.1.p + (lnS n [x] 0 0).1, x.1.r, x.1.neg⟩ - x.2.val) with ⟨h1, h2⟩ | ⟨h1, h2⟩ | ⟨h1, h2⟩ <;> rw [h1]
  ·rfl
  ·rfl
  ·exact absurd (RR.sub_pos.1 h2) this
 ·have : x.2.val ≤ x.1.val + RR.ofRat (lnS n [x] 0 0).2 := by
    rw [show (lnS n [x] 0 0).2 = 0 + lnB x.1 x.2 n from rfl, Rat.zero_add]
    unfold lnB
    rw [RR.rat_sub]
    exact RR.le_of_nonneg _ g3 (RR.ring [x.1.val, x.2.val, RR.ofRat (ofHigh x.2 n), RR.ofRat (ofLow x.1 n)] (by decide +kernel))
  rw [← Rl.shift_val] at this
  unfold Rl.cmp
  rcases RR.sg_cases (Rl.val ⟨x.1.p + (lnS n [x] 0 0).2, x.1.r, x.1.neg⟩ - x.2.val) with ⟨h1, h2⟩ | ⟨h1, h2⟩ | ⟨h1, h2⟩ <;> rw [h1]
  ·exact absurd h2 (RR.sub_nonneg.2 this)
  ·rfl
  ·rfl
theorem lw1 (b : Int) (q1 : En) (h1 : EnOk q1) : SpG Tryz.prog 4 [(1, enS [q1])] [row 0 1, nV b] (.bool true) := by
 have K := vKnown5
 obtain ⟨x1, ox1, I1⟩ := vInterval q1 h1
 by_cases g1 : b < 0
 ·have e1 : decide (b < 0) = true := decide_eq_true g1
  have L := eLenA b e1 1 (its [x1])
  clear h1 ox1
  unfold enI at I1
  obtain ⟨⟨p1, r1, w1⟩, ⟨u1, v1, y1⟩⟩ := x1
  obtain ⟨qa1, qb1, qc1, qd1, qm1, qe1, qf1, qg1, qh1, qn1⟩ := q1
  dsimp only at *
  exact walkG (code := Tryz.f4.body.getD .skip) [c K, c I1, cr L, eb e1, Sy.L, x2 binOZ] fol Tryz.func4 (by kernel_rfl) (by kernel_rfl) (by kernel_rfl)
 by_cases g2 : b > 128
 ·have e1 : decide (b < 0) = false := decide_eq_false g1
  have e2 : decide (b > 128) = true := decide_eq_true g2
  have L := eLenB b e1 e2 1 (its [x1])
  clear h1 ox1
  unfold enI at I1
  obtain ⟨⟨p1, r1, w1⟩, ⟨u1, v1, y1⟩⟩ := x1
  obtain ⟨qa1, qb1, qc1, qd1, qm1, qe1, qf1, qg1, qh1, qn1⟩ := q1
  dsimp only at *
  exact walkG (code := Tryz.f4.body.getD .skip) [c K, c I1, cr L, eb e1, eb e2, Sy.L, x2 binOZ] fol Tryz.func4 (by kernel_rfl) (by kernel_rfl) (by kernel_rfl)
 ·have e1 : decide (b < 0) = false := decide_eq_false g1
  have e2 : decide (b > 128) = false := decide_eq_false g2
  obtain ⟨n, rfl⟩ : ∃ n : Nat, b = (n : Int) := ⟨b.toNat, by omega⟩
  have ln := len1 x1 ox1 n (by omega)
  obtain ⟨L, M⟩ := ln
  have N := rSgn (lnS n [x1] 0 0).1
  have e3 : decide (sgQ (lnS n [x1] 0 0).1 < 0) = false := by rw [sgQ_neg5]; exact decide_eq_false (Rat.not_lt.2 (lnS_pos n _ 0 0 Rat.le_refl))
  have V := vSame (lnS n [x1] 0 0).1 (lnS n [x1] 0 0).2
  obtain ⟨o1, o2, o3, z1, z2, z3, z4⟩ := ox1
  obtain ⟨t1, t2, t3, t4⟩ := lw_one x1 n ⟨o1, o2, o3, z1, z2, z3, z4⟩ (by omega)
  have A := qShift x1.1 (lnS n [x1] 0 0).1 fz fz
  have B := qShift x1.1 (lnS n [x1] 0 0).2 fz fz
  haveI t5 := hs_mono (inferInstance : HasSz (x1.1.p + (lnS n [x1] 0 0).1) (10 + 2001 + 1)) (show 10 + 2001 + 1 ≤ 2900 by omega)
  haveI t6 := hs_mono (inferInstance : HasSz (x1.1.p + (lnS n [x1] 0 0).2) (10 + 2001 + 1)) (show 10 + 2001 + 1 ≤ 2900 by omega)
  haveI y1 := hs_mono z1 (show 10 ≤ 2900 by omega)
  haveI y2 := hs_mono z2 (show 10 ≤ 2900 by omega)
  haveI y3 := hs_mono z3 (show 10 ≤ 2900 by omega)
  haveI y4 := hs_mono z4 (show 10 ≤ 2900 by omega)
  have C := qCompare ⟨x1.1.p + (lnS n [x1] 0 0).1, x1.1.r, x1.1.neg⟩ x1.2 2900 (by omega) (by omega) o1.nonneg o2.nonneg
  have D := qCompare ⟨x1.1.p + (lnS n [x1] 0 0).2, x1.1.r, x1.1.neg⟩ x1.2 2900 (by omega) (by omega) o1.nonneg o2.nonneg
  clear o1 o2 o3 z1 z2 z3 z4 t1 t2 t5 t6 y1 y2 y3 y4
  generalize Rl.cmp ⟨x1.1.p + (lnS n [x1] 0 0).1, x1.1.r, x1.1.neg⟩ x1.2 = c1 at *
  generalize Rl.cmp ⟨x1.1.p + (lnS n [x1] 0 0).2, x1.1.r, x1.1.neg⟩ x1.2 = c2 at *
  clear h1
  generalize (lnS n [x1] 0 0).1 = s at *
  generalize (lnS n [x1] 0 0).2 = S at *
  generalize x1.1.p + s = m1 at *
  generalize x1.1.p + S = m2 at *
  unfold enI at I1
  obtain ⟨⟨p1, r1, w1⟩, ⟨u1, v1, y1⟩⟩ := x1
  obtain ⟨qa1, qb1, qc1, qd1, qm1, qe1, qf1, qg1, qh1, qn1⟩ := q1
  dsimp only at *
  exact walkG (code := Tryz.f4.body.getD .skip) [c K, c I1, cr L, eb e1, eb e2, cr M, c V, c N, eb e3, c A, c C, eb t3, c B, c D, eb t4] fol Tryz.func4 (by kernel_rfl) (by kernel_rfl) (by kernel_rfl)
end Go.Proofs.YtlblfgbpogljoaaGreatDoor

end
section
/- Law of lengths: no element, more than six; the facts of the law of widths. -/
namespace Go.Proofs.YtlblfgbpogljoaaGreatDoor
open Go Go.RowKit Go.Sy
open Vi
theorem big_len (n : Nat) (h : 6 < n) : decide (((n : Nat) : Int) > 6) = true := decide_eq_true (by omega)
theorem lw7 (b : Int) (u o n c : Nat) (h : 6 < n) (hn : n ≤ maxLen) : Sp Tryz.prog 4 [] [.slice (some ⟨u, o, none⟩) n c, nV b] (.bool true) [] := by
 have K := vKnown5
 have e1 := big_len n h
 clear h
 exact walk (code := Tryz.f4.body.getD .skip) [Sy.c K, L, L, eb e1, Sy.c K] fol Tryz.func4 (by kernel_rfl) (fun xs w => Tryz.call4 xs w) (by kernel_rfl)
theorem ww7 (m u o n c : Nat) (h : 6 < n) (hn : n ≤ maxLen) : Sp Tryz.prog 3 [] [.slice (some ⟨u, o, none⟩) n c, bV m] (.bool true) [] := by
 have K := vKnown5
 have e1 := big_len n h
 clear h
 exact walk (code := Tryz.f3.body.getD .skip) [Sy.c K, L, L, eb e1, Sy.c K] fol Tryz.func3 (by kernel_rfl) (fun xs w => Tryz.call3 xs w) (by kernel_rfl)
theorem lw0 (b : Int) : Sp Tryz.prog 4 [] [.slice none 0 0, nV b] (.bool true) [] := by
 have K := vKnown5
 by_cases g1 : b < 0
 ·have e1 : decide (b < 0) = true := decide_eq_true g1
  have L := eLenA0 b e1
  exact walk (code := Tryz.f4.body.getD .skip) [c K, c L, eb e1, Sy.L, x2 binOZ] fol Tryz.func4 (by kernel_rfl) (fun xs w => Tryz.call4 xs w) (by kernel_rfl)
 by_cases g2 : b > 128
 ·have e1 : decide (b < 0) = false := decide_eq_false g1
  have e2 : decide (b > 128) = true := decide_eq_true g2
  have L := eLenB0 b e1 e2
  exact walk (code := Tryz.f4.body.getD .skip) [c K, c L, eb e1, eb e2, Sy.L, x2 binOZ] fol Tryz.func4 (by kernel_rfl) (fun xs w => Tryz.call4 xs w) (by kernel_rfl)
 ·have e1 : decide (b < 0) = false := decide_eq_false g1
  have e2 : decide (b > 128) = false := decide_eq_false g2
  obtain ⟨n, rfl⟩ : ∃ n : Nat, b = (n : Int) := ⟨b.toNat, by omega⟩
  have L := eLen0 n e1 e2
  have M := fLen0 n
  have V := vSame 0 0
  rw [oV0] at V
  have N := rSgn 0
  rw [rV0] at N
  have e3 : sgQ 0 = 0 := by decide +kernel
  rw [e3] at N
  exact walk (code := Tryz.f4.body.getD .skip) [c K, c L, eb e1, eb e2, c M, c V, c N] fol Tryz.func4 (by kernel_rfl) (fun xs w => Tryz.call4 xs w) (by kernel_rfl)
theorem lw0s (b : Int) (u o c : Nat) : Sp Tryz.prog 4 [] [.slice (some ⟨u, o, none⟩) 0 c, nV b] (.bool true) [] := by
 have K := vKnown5
 by_cases g1 : b < 0
 ·have e1 : decide (b < 0) = true := decide_eq_true g1
  have L := eLenA0 b e1
  exact walk (code := Tryz.f4.body.getD .skip) [Sy.c K, Sy.c L, eb e1, Sy.L, x2 binOZ] fol Tryz.func4 (by kernel_rfl) (fun xs w => Tryz.call4 xs w) (by kernel_rfl)
 by_cases g2 : b > 128
 ·have e1 : decide (b < 0) = false := decide_eq_false g1
  have e2 : decide (b > 128) = true := decide_eq_true g2
  have L := eLenB0 b e1 e2
  exact walk (code := Tryz.f4.body.getD .skip) [Sy.c K, Sy.c L, eb e1, eb e2, Sy.L, x2 binOZ] fol Tryz.func4 (by kernel_rfl) (fun xs w => Tryz.call4 xs w) (by kernel_rfl)
 ·have e1 : decide (b < 0) = false := decide_eq_false g1
  have e2 : decide (b > 128) = false := decide_eq_false g2
  obtain ⟨n, rfl⟩ : ∃ n : Nat, b = (n : Int) := ⟨b.toNat, by omega⟩
  have L := eLen0 n e1 e2
  have M := fLen0 n
  have V := vSame 0 0
  rw [oV0] at V
  have N := rSgn 0
  rw [rV0] at N
  have e3 : sgQ 0 = 0 := by decide +kernel
  rw [e3] at N
  exact walk (code := Tryz.f4.body.getD .skip) [Sy.c K, Sy.c L, eb e1, eb e2, Sy.c M, Sy.c V, Sy.c N] fol Tryz.func4 (by kernel_rfl) (fun xs w => Tryz.call4 xs w) (by kernel_rfl)
theorem f2 {q : Rat} {k : Nat} (h : HasSz q k) (hk : k ≤ 131000 := by simp) : Fits q := h.sz.fits hk
theorem rV_i (z : Int) : rV (z : Rat) = .agg #[.bool (sg z), .string (mg z), .bool false, .string ⟨#[]⟩] := by
 unfold rV; rw [Rat.num_intCast, dn_int, sg0, mg0]
theorem wd_facts (m : Nat) (hm : m < 256) : ∃ (t : Nat) (z : Int), Bin .rem 5 (bV m) (bV 41) (bV t) ∧ IntKind.i64.wrap ((t : Nat) : Int) = t ∧ t ≤ 40 ∧ z = p2 t ∧ Bin .shl 3 (nV 1) (nV t) (nV z) ∧
    Sp Tryz.prog 21 [] [nV z] (iV z) [] ∧ HasSz (z : Rat) 6 ∧ 0 < z := by
 have h1 : m % 41 < 41 := Nat.mod_lt _ (by omega)
 have hpw : ((2 ^ (m % 41) : Nat) : Int) ≤ 2 ^ 40 := by exact_mod_cast Nat.pow_le_pow_right (by omega) (show m % 41 ≤ 40 by omega)
 have h0 : (0 : Int) < ((2 ^ (m % 41) : Nat) : Int) := by exact_mod_cast Nat.pow_pos (n := m % 41) (show 0 < 2 by omega)
 refine ⟨m % 41, ((2 ^ (m % 41) : Nat) : Int), bin_rem8 m 41 (by omega) (by omega), w64 (by omega) (by omega), by omega, ?_, bin_shl1 (m % 41) (by omega), jFromInt _ (by omega) (by omega), ?_, h0⟩
 ·unfold p2; rw [Int.natCast_pow]; rfl
 ·exact int_hs _ 5 (by
    have : (256 : Nat) ^ (5 + 1) = 281474976710656 := by decide
    omega)
theorem wd_end (t : Nat) (z : Int) (ez : z = p2 t) (hz : HasSz (z : Rat) 6) (h0 : 0 < z) (k : Nat) (hk : k ≤ 6) (s S : Rat) (N : Nat) (hN : N ≤ 13000) (h1 : HasSz s N) (h2 : HasSz S N) (hw : S - s ≤ 0 - 0 + ((2 * k : Nat) : Rat) * (1 / ((p2 t : Int) : Rat))) :
    Sp Tryz.prog 20 [] [nV ((2 * k : Nat) : Int), nV 1] (rV (((2 * k : Nat) : Int) : Rat)) [] ∧
    Sp Tryz.prog 19 [] [rV (((2 * k : Nat) : Int) : Rat), .agg #[.bool (sg z), .string (mg z), .bool false, .string ⟨#[]⟩]] (rV ((((2 * k : Nat) : Int) : Rat) / (z : Rat))) [] ∧
    Sp Tryz.prog 22 [] [rV (S - s), rV ((((2 * k : Nat) : Int) : Rat) / (z : Rat))] (nV (cmpQ (S - s) ((((2 * k : Nat) : Int) : Rat) / (z : Rat)))) [] ∧
    decide (cmpQ (S - s) ((((2 * k : Nat) : Int) : Rat) / (z : Rat)) ≤ 0) = true := by
 have hzr : ((z : Int) : Rat) ≠ 0 := by
  intro e
  have : z = 0 := by exact_mod_cast e
  omega
 haveI k1 : HasSz (((2 * k : Nat) : Int) : Rat) 1 := int_hs _ 0 (by omega)
 haveI k2 := hs_div (((2 * k : Nat) : Int) : Rat) (z : Rat) 1 6 hzr
 have O := rOf ((2 * k : Nat) : Int) 1 (by omega) (by omega) (by omega) (by omega) (by omega)
 rw [divInt1] at O
 have D := rDiv (((2 * k : Nat) : Int) : Rat) (z : Rat) hzr fz fz
 rw [rV_i z] at D
 refine ⟨O, D, rCompare _ _ fz fz, cmpQ_leq (decide_eq_true ?_)⟩
 rw [← ez] at hw
 have e : ((2 * k : Nat) : Rat) = (((2 * k : Nat) : Int) : Rat) := rfl
 rw [e] at hw
 rw [Rat.div_def] at *
 rw [Rat.one_mul] at hw
 grind
theorem lnS_hs (n : Nat) (hn : n ≤ 128) : ∀ (l : List (Rl × Rl)), (∀ x ∈ l, IvOk x) → ∀ (s S : Rat) (k : Nat) [HasSz s k] [HasSz S k], HasSz (lnS n l s S).1 (k + 2000 * l.length) ∧ HasSz (lnS n l s S).2 (k + 2000 * l.length)
 | [], _, s, S, k, h1, h2 => ⟨h1, h2⟩
 | x :: l, h, s, S, k, h1, h2 => by
  obtain ⟨a, b⟩ := ln_hs x (h x List.mem_cons_self) n hn s S k
  have ih := @lnS_hs n hn l (fun y hy => h y (List.mem_cons_of_mem _ hy)) (s + maxQ (lnA x.1 x.2 n) 0) (S + lnB x.1 x.2 n) (k + 2000) a b
  rw [List.length_cons, show k + 2000 * (l.length + 1) = k + 2000 + 2000 * l.length by omega]
  exact ih
theorem ww0 (m : Nat) (hm : m < 256) : Sp Tryz.prog 3 [] [.slice none 0 0, bV m] (.bool true) [] := by
 have K := vKnown5
 obtain ⟨t, z, B, wW, ht, ez, SH, FI, z1, z2⟩ := wd_facts m hm
 have L := eLen0 t (decide_eq_false (by omega)) (decide_eq_false (by omega))
 obtain ⟨O, D, C, e1⟩ := wd_end t z ez z1 z2 0 (by omega) 0 0 1 (by omega) inferInstance inferInstance (by rw [show ((2 * 0 : Nat) : Rat) = 0 from rfl, Rat.zero_mul]; decide +kernel)
 have W := eWidth 0 0 fz fz
 rw [oV0] at W
 clear ez z1 z2 ht hm
 generalize (0 : Rat) - 0 = wd at *
 generalize (((2 * 0 : Nat) : Int) : Rat) = tw at *
 generalize tw / ((z : Int) : Rat) = mo at *
 exact walk (code := Tryz.f3.body.getD .skip) [c K, Sy.L, Sy.L, Sy.L, Sy.L, Sy.L, x2 B, Go.Sy.e (congrArg (Value.int IntKind.i64) wW), c L, c O, x2 SH, c FI, c D, c W, c C, eb e1] fol Tryz.func3 (by kernel_rfl) (fun xs w => Tryz.call3 xs w) (by kernel_rfl)
theorem ww0s (m : Nat) (hm : m < 256) (u o c : Nat) : Sp Tryz.prog 3 [] [.slice (some ⟨u, o, none⟩) 0 c, bV m] (.bool true) [] := by
 have K := vKnown5
 obtain ⟨t, z, B, wW, ht, ez, SH, FI, z1, z2⟩ := wd_facts m hm
 have L := eLen0 t (decide_eq_false (by omega)) (decide_eq_false (by omega))
 obtain ⟨O, D, C, e1⟩ := wd_end t z ez z1 z2 0 (by omega) 0 0 1 (by omega) inferInstance inferInstance (by rw [show ((2 * 0 : Nat) : Rat) = 0 from rfl, Rat.zero_mul]; decide +kernel)
 have W := eWidth 0 0 fz fz
 rw [oV0] at W
 clear ez z1 z2 ht hm
 generalize (0 : Rat) - 0 = wd at *
 generalize (((2 * 0 : Nat) : Int) : Rat) = tw at *
 generalize tw / ((z : Int) : Rat) = mo at *
 exact walk (code := Tryz.f3.body.getD .skip) [Sy.c K, Sy.L, Sy.L, Sy.L, Sy.L, Sy.L, x2 B, Go.Sy.e (congrArg (Value.int IntKind.i64) wW), Sy.c L, Sy.c O, x2 SH, Sy.c FI, Sy.c D, Sy.c W, Sy.c C, eb e1] fol Tryz.func3 (by kernel_rfl) (fun xs w => Tryz.call3 xs w) (by kernel_rfl)
end Go.Proofs.YtlblfgbpogljoaaGreatDoor

end
section
/- Both laws for 2 elements. -/
namespace Go.Proofs.YtlblfgbpogljoaaGreatDoor
open Go Go.RowKit Go.Sy
open Vi
theorem lw2 (b : Int) (q1 q2 : En) (h1 : EnOk q1) (h2 : EnOk q2) : SpG Tryz.prog 4 [(2, enS [q1, q2])] [row 0 2, nV b] (.bool true) := by
 have K := vKnown5
 obtain ⟨x1, ox1, I1⟩ := vInterval q1 h1
 obtain ⟨x2, ox2, I2⟩ := vInterval q2 h2
 by_cases g1 : b < 0
 ·have e1 : decide (b < 0) = true := decide_eq_true g1
  have L := eLenA b e1 2 (its [x1, x2])
  clear h1 ox1 h2 ox2
  unfold enI at I1
  obtain ⟨⟨p1, r1, w1⟩, ⟨u1, v1, y1⟩⟩ := x1
  obtain ⟨qa1, qb1, qc1, qd1, qm1, qe1, qf1, qg1, qh1, qn1⟩ := q1
  unfold enI at I2
  obtain ⟨⟨p2, r2, w2⟩, ⟨u2, v2, y2⟩⟩ := x2
  obtain ⟨qa2, qb2, qc2, qd2, qm2, qe2, qf2, qg2, qh2, qn2⟩ := q2
  dsimp only at *
  exact walkG (code := Tryz.f4.body.getD .skip) [c K, c I1, c I2, cr L, eb e1, Sy.L, x2 binOZ] fol Tryz.func4 (by kernel_rfl) (by kernel_rfl) (by kernel_rfl)
 by_cases g2 : b > 128
 ·have e1 : decide (b < 0) = false := decide_eq_false g1
  have e2 : decide (b > 128) = true := decide_eq_true g2
  have L := eLenB b e1 e2 2 (its [x1, x2])
  clear h1 ox1 h2 ox2
  unfold enI at I1
  obtain ⟨⟨p1, r1, w1⟩, ⟨u1, v1, y1⟩⟩ := x1
  obtain ⟨qa1, qb1, qc1, qd1, qm1, qe1, qf1, qg1, qh1, qn1⟩ := q1
  unfold enI at I2
  obtain ⟨⟨p2, r2, w2⟩, ⟨u2, v2, y2⟩⟩ := x2
  obtain ⟨qa2, qb2, qc2, qd2, qm2, qe2, qf2, qg2, qh2, qn2⟩ := q2
  dsimp only at *
  exact walkG (code := Tryz.f4.body.getD .skip) [c K, c I1, c I2, cr L, eb e1, eb e2, Sy.L, x2 binOZ] fol Tryz.func4 (by kernel_rfl) (by kernel_rfl) (by kernel_rfl)
 ·have e1 : decide (b < 0) = false := decide_eq_false g1
  have e2 : decide (b > 128) = false := decide_eq_false g2
  obtain ⟨n, rfl⟩ : ∃ n : Nat, b = (n : Int) := ⟨b.toNat, by omega⟩
  have ln := len2 x1 x2 ox1 ox2 n (by omega)
  obtain ⟨L, M⟩ := ln
  have N := rSgn (lnS n [x1, x2] 0 0).1
  have e3 : decide (sgQ (lnS n [x1, x2] 0 0).1 < 0) = false := by rw [sgQ_neg5]; exact decide_eq_false (Rat.not_lt.2 (lnS_pos n _ 0 0 Rat.le_refl))
  have V := vSame (lnS n [x1, x2] 0 0).1 (lnS n [x1, x2] 0 0).2
  clear h1 ox1 h2 ox2
  generalize (lnS n [x1, x2] 0 0).1 = s at *
  generalize (lnS n [x1, x2] 0 0).2 = S at *
  unfold enI at I1
  obtain ⟨⟨p1, r1, w1⟩, ⟨u1, v1, y1⟩⟩ := x1
  obtain ⟨qa1, qb1, qc1, qd1, qm1, qe1, qf1, qg1, qh1, qn1⟩ := q1
  unfold enI at I2
  obtain ⟨⟨p2, r2, w2⟩, ⟨u2, v2, y2⟩⟩ := x2
  obtain ⟨qa2, qb2, qc2, qd2, qm2, qe2, qf2, qg2, qh2, qn2⟩ := q2
  dsimp only at *
  exact walkG (code := Tryz.f4.body.getD .skip) [c K, c I1, c I2, cr L, eb e1, eb e2, cr M, c V, c N, eb e3] fol Tryz.func4 (by kernel_rfl) (by kernel_rfl) (by kernel_rfl)
theorem ww2 (m : Nat) (hm : m < 256) (q1 q2 : En) (h1 : EnOk q1) (h2 : EnOk q2) : SpG Tryz.prog 3 [(2, enS [q1, q2])] [row 0 2, bV m] (.bool true) := by
 have K := vKnown5
 obtain ⟨x1, ox1, I1⟩ := vInterval q1 h1
 obtain ⟨x2, ox2, I2⟩ := vInterval q2 h2
 obtain ⟨t, z, B, wW, ht, ez, SH, FI, z1, z2⟩ := wd_facts m hm
 have L := (len2 x1 x2 ox1 ox2 t (by omega)).1
 obtain ⟨s1, s2⟩ := lnS_hs t (by omega) [x1, x2] (by simp only [List.mem_cons, List.not_mem_nil, or_false]; intro x hx; rcases hx with rfl | rfl <;> assumption) 0 0 1
 obtain ⟨O, D, C, e1⟩ := wd_end t z ez z1 z2 2 (by omega) (lnS t [x1, x2] 0 0).1 (lnS t [x1, x2] 0 0).2 4001 (by omega) (hs_mono s1 (by simp)) (hs_mono s2 (by simp)) (lnS_wide t [x1, x2] 0 0)
 have W := eWidth (lnS t [x1, x2] 0 0).1 (lnS t [x1, x2] 0 0).2 (f2 s1) (f2 s2)
 clear ez z1 z2 ht s1 s2 hm h1 ox1 h2 ox2
 generalize (lnS t [x1, x2] 0 0).1 = s at *
 generalize (lnS t [x1, x2] 0 0).2 = S at *
 generalize S - s = wd at *
 generalize (((2 * 2 : Nat) : Int) : Rat) = tw at *
 generalize tw / ((z : Int) : Rat) = mo at *
 unfold enI at I1
 obtain ⟨⟨p1, r1, w1⟩, ⟨u1, v1, y1⟩⟩ := x1
 obtain ⟨qa1, qb1, qc1, qd1, qm1, qe1, qf1, qg1, qh1, qn1⟩ := q1
 unfold enI at I2
 obtain ⟨⟨p2, r2, w2⟩, ⟨u2, v2, y2⟩⟩ := x2
 obtain ⟨qa2, qb2, qc2, qd2, qm2, qe2, qf2, qg2, qh2, qn2⟩ := q2
 dsimp only at *
 exact walkG (code := Tryz.f3.body.getD .skip) [c K, c I1, c I2, Sy.L, Sy.L, x2 B, Go.Sy.e (congrArg (Value.int IntKind.i64) wW), cr L, c O, x2 SH, c FI, c D, c W, c C, eb e1] fol Tryz.func3 (by kernel_rfl) (by kernel_rfl) (by kernel_rfl)
theorem ww1 (m : Nat) (hm : m < 256) (q1 : En) (h1 : EnOk q1) : SpG Tryz.prog 3 [(1, enS [q1])] [row 0 1, bV m] (.bool true) := by
 have K := vKnown5
 obtain ⟨x1, ox1, I1⟩ := vInterval q1 h1
 obtain ⟨t, z, B, wW, ht, ez, SH, FI, z1, z2⟩ := wd_facts m hm
 have L := (len1 x1 ox1 t (by omega)).1
 obtain ⟨s1, s2⟩ := lnS_hs t (by omega) [x1] (by simp only [List.mem_cons, List.not_mem_nil, or_false]; intro x hx; rcases hx with rfl <;> assumption) 0 0 1
 obtain ⟨O, D, C, e1⟩ := wd_end t z ez z1 z2 1 (by omega) (lnS t [x1] 0 0).1 (lnS t [x1] 0 0).2 2001 (by omega) (hs_mono s1 (by simp)) (hs_mono s2 (by simp)) (lnS_wide t [x1] 0 0)
 have W := eWidth (lnS t [x1] 0 0).1 (lnS t [x1] 0 0).2 (f2 s1) (f2 s2)
 clear ez z1 z2 ht s1 s2 hm h1 ox1
 generalize (lnS t [x1] 0 0).1 = s at *
 generalize (lnS t [x1] 0 0).2 = S at *
 generalize S - s = wd at *
 generalize (((2 * 1 : Nat) : Int) : Rat) = tw at *
 generalize tw / ((z : Int) : Rat) = mo at *
 unfold enI at I1
 obtain ⟨⟨p1, r1, w1⟩, ⟨u1, v1, y1⟩⟩ := x1
 obtain ⟨qa1, qb1, qc1, qd1, qm1, qe1, qf1, qg1, qh1, qn1⟩ := q1
 dsimp only at *
 exact walkG (code := Tryz.f3.body.getD .skip) [c K, c I1, Sy.L, Sy.L, x2 B, Go.Sy.e (congrArg (Value.int IntKind.i64) wW), cr L, c O, x2 SH, c FI, c D, c W, c C, eb e1] fol Tryz.func3 (by kernel_rfl) (by kernel_rfl) (by kernel_rfl)
end Go.Proofs.YtlblfgbpogljoaaGreatDoor

end
section
/- Both laws for 3 elements. -/
namespace Go.Proofs.YtlblfgbpogljoaaGreatDoor
open Go Go.RowKit Go.Sy
open Vi
theorem lw3 (b : Int) (q1 q2 q3 : En) (h1 : EnOk q1) (h2 : EnOk q2) (h3 : EnOk q3) : SpG Tryz.prog 4 [(3, enS [q1, q2, q3])] [row 0 3, nV b] (.bool true) := by
 have K := vKnown5
 obtain ⟨x1, ox1, I1⟩ := vInterval q1 h1
 obtain ⟨x2, ox2, I2⟩ := vInterval q2 h2
 obtain ⟨x3, ox3, I3⟩ := vInterval q3 h3
 by_cases g1 : b < 0
 ·have e1 : decide (b < 0) = true := decide_eq_true g1
  have L := eLenA b e1 3 (its [x1, x2, x3])
  clear h1 ox1 h2 ox2 h3 ox3
  unfold enI at I1
  obtain ⟨⟨p1, r1, w1⟩, ⟨u1, v1, y1⟩⟩ := x1
  obtain ⟨qa1, qb1, qc1, qd1, qm1, qe1, qf1, qg1, qh1, qn1⟩ := q1
  unfold enI at I2
  obtain ⟨⟨p2, r2, w2⟩, ⟨u2, v2, y2⟩⟩ := x2
  obtain ⟨qa2, qb2, qc2, qd2, qm2, qe2, qf2, qg2, qh2, qn2⟩ := q2
  unfold enI at I3
  obtain ⟨⟨p3, r3, w3⟩, ⟨u3, v3, y3⟩⟩ := x3
  obtain ⟨qa3, qb3, qc3, qd3, qm3, qe3, qf3, qg3, qh3, qn3⟩ := q3
  dsimp only at *
  exact walkG (code := Tryz.f4.body.getD .skip) [c K, c I1, c I2, c I3, cr L, eb e1, Sy.L, x2 binOZ] fol Tryz.func4 (by kernel_rfl) (by kernel_rfl) (by kernel_rfl)
 by_cases g2 : b > 128
 ·have e1 : decide (b < 0) = false := decide_eq_false g1
  have e2 : decide (b > 128) = true := decide_eq_true g2
  have L := eLenB b e1 e2 3 (its [x1, x2, x3])
  clear h1 ox1 h2 ox2 h3 ox3
  unfold enI at I1
  obtain ⟨⟨p1, r1, w1⟩, ⟨u1, v1, y1⟩⟩ := x1
  obtain ⟨qa1, qb1, qc1, qd1, qm1, qe1, qf1, qg1, qh1, qn1⟩ := q1
  unfold enI at I2
  obtain ⟨⟨p2, r2, w2⟩, ⟨u2, v2, y2⟩⟩ := x2
  obtain ⟨qa2, qb2, qc2, qd2, qm2, qe2, qf2, qg2, qh2, qn2⟩ := q2
  unfold enI at I3
  obtain ⟨⟨p3, r3, w3⟩, ⟨u3, v3, y3⟩⟩ := x3
  obtain ⟨qa3, qb3, qc3, qd3, qm3, qe3, qf3, qg3, qh3, qn3⟩ := q3
  dsimp only at *
  exact walkG (code := Tryz.f4.body.getD .skip) [c K, c I1, c I2, c I3, cr L, eb e1, eb e2, Sy.L, x2 binOZ] fol Tryz.func4 (by kernel_rfl) (by kernel_rfl) (by kernel_rfl)
 ·have e1 : decide (b < 0) = false := decide_eq_false g1
  have e2 : decide (b > 128) = false := decide_eq_false g2
  obtain ⟨n, rfl⟩ : ∃ n : Nat, b = (n : Int) := ⟨b.toNat, by omega⟩
  have ln := len3 x1 x2 x3 ox1 ox2 ox3 n (by omega)
  obtain ⟨L, M⟩ := ln
  have N := rSgn (lnS n [x1, x2, x3] 0 0).1
  have e3 : decide (sgQ (lnS n [x1, x2, x3] 0 0).1 < 0) = false := by rw [sgQ_neg5]; exact decide_eq_false (Rat.not_lt.2 (lnS_pos n _ 0 0 Rat.le_refl))
  have V := vSame (lnS n [x1, x2, x3] 0 0).1 (lnS n [x1, x2, x3] 0 0).2
  clear h1 ox1 h2 ox2 h3 ox3
  generalize (lnS n [x1, x2, x3] 0 0).1 = s at *
  generalize (lnS n [x1, x2, x3] 0 0).2 = S at *
  unfold enI at I1
  obtain ⟨⟨p1, r1, w1⟩, ⟨u1, v1, y1⟩⟩ := x1
  obtain ⟨qa1, qb1, qc1, qd1, qm1, qe1, qf1, qg1, qh1, qn1⟩ := q1
  unfold enI at I2
  obtain ⟨⟨p2, r2, w2⟩, ⟨u2, v2, y2⟩⟩ := x2
  obtain ⟨qa2, qb2, qc2, qd2, qm2, qe2, qf2, qg2, qh2, qn2⟩ := q2
  unfold enI at I3
  obtain ⟨⟨p3, r3, w3⟩, ⟨u3, v3, y3⟩⟩ := x3
  obtain ⟨qa3, qb3, qc3, qd3, qm3, qe3, qf3, qg3, qh3, qn3⟩ := q3
  dsimp only at *
  exact walkG (code := Tryz.f4.body.getD .skip) [c K, c I1, c I2, c I3, cr L, eb e1, eb e2, cr M, c V, c N, eb e3] fol Tryz.func4 (by kernel_rfl) (by kernel_rfl) (by kernel_rfl)
theorem ww3 (m : Nat) (hm : m < 256) (q1 q2 q3 : En) (h1 : EnOk q1) (h2 : EnOk q2) (h3 : EnOk q3) : SpG Tryz.prog 3 [(3, enS [q1, q2, q3])] [row 0 3, bV m] (.bool true) := by
 have K := vKnown5
 obtain ⟨x1, ox1, I1⟩ := vInterval q1 h1
 obtain ⟨x2, ox2, I2⟩ := vInterval q2 h2
 obtain ⟨x3, ox3, I3⟩ := vInterval q3 h3
 obtain ⟨t, z, B, wW, ht, ez, SH, FI, z1, z2⟩ := wd_facts m hm
 have L := (len3 x1 x2 x3 ox1 ox2 ox3 t (by omega)).1
 obtain ⟨s1, s2⟩ := lnS_hs t (by omega) [x1, x2, x3] (by simp only [List.mem_cons, List.not_mem_nil, or_false]; intro x hx; rcases hx with rfl | rfl | rfl <;> assumption) 0 0 1
 obtain ⟨O, D, C, e1⟩ := wd_end t z ez z1 z2 3 (by omega) (lnS t [x1, x2, x3] 0 0).1 (lnS t [x1, x2, x3] 0 0).2 6001 (by omega) (hs_mono s1 (by simp)) (hs_mono s2 (by simp)) (lnS_wide t [x1, x2, x3] 0 0)
 have W := eWidth (lnS t [x1, x2, x3] 0 0).1 (lnS t [x1, x2, x3] 0 0).2 (f2 s1) (f2 s2)
 clear ez z1 z2 ht s1 s2 hm h1 ox1 h2 ox2 h3 ox3
 generalize (lnS t [x1, x2, x3] 0 0).1 = s at *
 generalize (lnS t [x1, x2, x3] 0 0).2 = S at *
 generalize S - s = wd at *
 generalize (((2 * 3 : Nat) : Int) : Rat) = tw at *
 generalize tw / ((z : Int) : Rat) = mo at *
 unfold enI at I1
 obtain ⟨⟨p1, r1, w1⟩, ⟨u1, v1, y1⟩⟩ := x1
 obtain ⟨qa1, qb1, qc1, qd1, qm1, qe1, qf1, qg1, qh1, qn1⟩ := q1
 unfold enI at I2
 obtain ⟨⟨p2, r2, w2⟩, ⟨u2, v2, y2⟩⟩ := x2
 obtain ⟨qa2, qb2, qc2, qd2, qm2, qe2, qf2, qg2, qh2, qn2⟩ := q2
 unfold enI at I3
 obtain ⟨⟨p3, r3, w3⟩, ⟨u3, v3, y3⟩⟩ := x3
 obtain ⟨qa3, qb3, qc3, qd3, qm3, qe3, qf3, qg3, qh3, qn3⟩ := q3
 dsimp only at *
 exact walkG (code := Tryz.f3.body.getD .skip) [c K, c I1, c I2, c I3, Sy.L, Sy.L, x2 B, Go.Sy.e (congrArg (Value.int IntKind.i64) wW), cr L, c O, x2 SH, c FI, c D, c W, c C, eb e1] fol Tryz.func3 (by kernel_rfl) (by kernel_rfl) (by kernel_rfl)
end Go.Proofs.YtlblfgbpogljoaaGreatDoor

end
