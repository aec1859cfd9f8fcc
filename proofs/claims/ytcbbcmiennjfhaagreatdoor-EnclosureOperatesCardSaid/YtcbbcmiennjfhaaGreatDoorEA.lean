import Derived.Test.YtcbbcmiennjfhaaGreatDoorFz
import Derived.Test.YtcbbcmiennjfhaaGreatDoorIntL
import Derived.Test.YtcbbcmiennjfhaaGreatDoorRefM
/- Equality of structs, field by field; of bounds. -/
set_option linter.unusedSimpArgs false
set_option linter.unusedVariables false
namespace Go.Sy
open Go Go.RowKit
section
variable {P : Program}
inductive FE (P : Program) (d : Nat) (xs ys : Array Value) : List (TypeId × Nat) → Bool → Prop where
 | nil : FE P d xs ys [] true
 | cons {t : TypeId} {off : Nat} {l : List (TypeId × Nat)} {a b : Value} {r q : Bool} (ha : pureRun P (part t xs off) = some a) (hb : pureRun P (part t ys off) = some b)
     (hr : ∀ w, (Op.equalIn d t a b).run P w = .ok r w) (h : FE P d xs ys l q) : FE P d xs ys ((t, off) :: l) (r && q)
theorem FE.run {d : Nat} {xs ys : Array Value} : ∀ {fs : List Field} {l : List (TypeId × Nat)} {q : Bool}, fs.map (fun f => (f.name == "_", f.type, f.offset)) = l.map (fun p => (false, p.1, p.2)) → FE P d xs ys l q →
    ∀ w, (Op.eqFields d xs ys fs).run P w = .ok q w
 | [], [], _, _, h, w => by cases h; rfl
 | f :: fs, [], _, hm, _, _ => by simp at hm
 | [], _ :: _, _, hm, _, _ => by simp at hm
 | f :: fs, _ :: l, _, hm, h, w => by
  cases h with
  | cons ha hb hr h =>
   rename_i t off a b r q
   simp only [List.map_cons, List.cons.injEq, Prod.mk.injEq] at hm
   obtain ⟨⟨h1, h2, h3⟩, hm⟩ := hm
   have hn : f.name ≠ "_" := by simpa using h1
   have ih := FE.run hm h w
   simp only [Op.eqFields, if_pos hn, Sem.run_bind, h2, h3, pureRun_run ha, pureRun_run hb, Result.andThen_ok, hr]
   cases r
   ·simp
   ·simp [ih]
theorem eqStruct {d : Nat} {t : TypeId} {xs ys : Array Value} {l : List (TypeId × Nat)} {q : Bool} (ht : P.underlying t = some (.struct (P.fieldsOf t))) (hp : P.stoodInHeld t = false)
    (hm : (P.fieldsOf t).toList.map (fun f => (f.name == "_", f.type, f.offset)) = l.map (fun p => (false, p.1, p.2))) (h : FE P d xs ys l q) (w : World) : (Op.equalIn (d + 1) t (.agg xs) (.agg ys)).run P w = .ok q w := by
 rw [run_equalIn_agg _ _ _ _ _ ht hp]
 exact h.run hm w
end
end Go.Sy
namespace Go.Proofs.YtcbbcmiennjfhaaGreatDoor
open Go Go.RowKit Go.Sy
open Vi
theorem binS {T : TypeId} {xs ys : Array Value} {q : Bool} (h : ∀ w, (Op.equalIn 10000 T (.agg xs) (.agg ys)).run Tryz.prog w = .ok q w) (hg : Tryz.prog.eqGuardType Tryz.prog.depth T = false) : Bin .eql T (.agg xs) (.agg ys) (.bool q) := fun ox oy w => by
 rw [Sem.run_bind, run_eqGuard_agg _ _ _ _ _ _ _ hg, Result.andThen_ok, run_eql_struct, h]
 rfl
theorem binS' {T : TypeId} {xs ys : Array Value} {q : Bool} (h : ∀ w, (Op.equalIn 10000 T (.agg xs) (.agg ys)).run Tryz.prog w = .ok q w) (hg : Tryz.prog.eqGuardType Tryz.prog.depth T = false) : Bin .neq T (.agg xs) (.agg ys) (.bool (!q)) := fun ox oy w => by
 rw [Sem.run_bind, run_eqGuard_agg _ _ _ _ _ _ _ hg, Result.andThen_ok, run_neq_struct, h]
 rfl
theorem eqO_run (d : Nat) (a b x y : Rat) (w : World) : (Op.equalIn (d + 4) 51 (oV a b) (oV x y)).run Tryz.prog w = .ok (decide (a = x) && (decide (b = y) && true)) w :=
 eqStruct (l := [(28, 0), (28, 4)]) (by kernel_rfl) (by kernel_rfl) (by kernel_rfl)
  (.cons (a := rV a) (b := rV x) (by kernel_rfl) (by kernel_rfl) (eqR_run d a x) (.cons (a := rV b) (b := rV y) (by kernel_rfl) (by kernel_rfl) (eqR_run d b y) .nil)) w
theorem binO (a b x y : Rat) {q : Bool} (e : (decide (a = x) && decide (b = y)) = q) : Bin .eql 51 (oV a b) (oV x y) (.bool q) := by
 have h := binS (T := 51) (fun w => eqO_run 9996 a b x y w) (by kernel_rfl)
 rw [Bool.and_true, e] at h
 exact h
theorem eqB_run (d : Nat) (a b x y : Rat) (w : World) : (Op.equalIn (d + 4) 57 (oV a b) (oV x y)).run Tryz.prog w = .ok (decide (a = x) && (decide (b = y) && true)) w :=
 eqStruct (l := [(28, 0), (28, 4)]) (by kernel_rfl) (by kernel_rfl) (by kernel_rfl)
  (.cons (a := rV a) (b := rV x) (by kernel_rfl) (by kernel_rfl) (eqR_run d a x) (.cons (a := rV b) (b := rV y) (by kernel_rfl) (by kernel_rfl) (eqR_run d b y) .nil)) w
theorem binO' (a b x y : Rat) {q : Bool} (e : (decide (a = x) && decide (b = y)) = q) : Bin .eql 57 (oV a b) (oV x y) (.bool q) := by
 have h := binS (T := 57) (fun w => eqB_run 9996 a b x y w) (by kernel_rfl)
 rw [Bool.and_true, e] at h
 exact h
theorem oV0 : oV 0 0 = oZ := by
 have := rV0
 unfold rV rZ at this
 unfold oV oZ
 simp only [Value.agg.injEq, Array.mk.injEq, List.cons.injEq, and_true] at this
 obtain ⟨h1, h2, h3, h4⟩ := this
 rw [h1, h2, h3, h4]
theorem binOZ : Bin .eql 51 oZ oZ (.bool true) := by
 rw [← oV0]; exact binO 0 0 0 0 (by decide +kernel)
end Go.Proofs.YtcbbcmiennjfhaaGreatDoor
set_option linter.unusedSimpArgs false
set_option linter.unusedVariables false
namespace Go.Proofs.YtcbbcmiennjfhaaGreatDoor
open Go Go.RowKit Go.Sy
open Vi
theorem eExact (r : Rat) : Sp Tryz.prog 35 [] [rV r] (oV r r) [] := by exact walk (code := Tryz.f35.body.getD .skip) [] fol Tryz.func35 (by kernel_rfl) (fun xs w => Tryz.call35 xs w) (by kernel_rfl)
theorem eNeg (l h : Rat) : Sp Tryz.prog 47 [] [oV l h] (oV (-h) (-l)) [] := by exact walk (code := Tryz.f47.body.getD .skip) [c (pNeg h), c (pNeg l)] fol Tryz.func47 (by kernel_rfl) (fun xs w => Tryz.call47 xs w) (by kernel_rfl)
theorem eAdd (a b c d : Rat) (ha : Fits a) (hb : Fits b) (hc : Fits c) (hd : Fits d) : Sp Tryz.prog 39 [] [oV a b, oV c d] (oV (a + c) (b + d)) [] := by exact walk (code := Tryz.f39.body.getD .skip) [Sy.c (pAdd a c ha hc), Sy.c (pAdd b d hb hd)] fol Tryz.func39 (by kernel_rfl) (fun xs w => Tryz.call39 xs w) (by kernel_rfl)
theorem eSub (a b c d : Rat) (ha : Fits a) (hb : Fits b) (hc : Fits c) (hd : Fits d) : Sp Tryz.prog 41 [] [oV a b, oV c d] (oV (a + -d) (b + -c)) [] := by
 have h1 := hd.neg
 have h2 := hc.neg
 exact walk (code := Tryz.f41.body.getD .skip) [Sy.c (eNeg c d), Sy.c (eAdd a b (-d) (-c) ha hb h1 h2)] fol Tryz.func41 (by kernel_rfl) (fun xs w => Tryz.call41 xs w) (by kernel_rfl)
theorem eLeast2 (a b : Rat) (ha : Fits a) (hb : Fits b) : Sp Tryz.prog 157 [(2, rC a ++ rC b)] [row 0 2] (rV (minQ a b)) [] := by
 have M0 := pMinQ a a ha ha
 rw [minQ_self] at M0
 exact walk (code := Tryz.f157.body.getD .skip) [c M0, c (pMinQ a b ha hb)] fol Tryz.func157 (by kernel_rfl) (fun xs w => Tryz.call157 xs w) (by kernel_rfl)
theorem eGreatest2 (a b : Rat) (ha : Fits a) (hb : Fits b) : Sp Tryz.prog 127 [(2, rC a ++ rC b)] [row 0 2] (rV (maxQ a b)) [] := by
 have M0 := pMaxQ a a ha ha
 rw [maxQ_self] at M0
 exact walk (code := Tryz.f127.body.getD .skip) [c M0, c (pMaxQ a b ha hb)] fol Tryz.func127 (by kernel_rfl) (fun xs w => Tryz.call127 xs w) (by kernel_rfl)
theorem eLeast4 (a b c d : Rat) (k : Nat) (hk : k ≤ 1000) [HasSz a k] [HasSz b k] [HasSz c k] [HasSz d k] : Sp Tryz.prog 157 [(4, rC a ++ rC b ++ rC c ++ rC d)] [row 0 4] (rV (minQ (minQ (minQ a b) c) d)) [] := by
 have M0 := pMinQ a a fz fz
 rw [minQ_self] at M0
 exact walk (code := Tryz.f157.body.getD .skip) [Sy.c M0, Sy.c (pMinQ a b fz fz), Sy.c (pMinQ (minQ a b) c fz fz), Sy.c (pMinQ (minQ (minQ a b) c) d fz fz)] fol Tryz.func157 (by kernel_rfl) (fun xs w => Tryz.call157 xs w) (by kernel_rfl)
theorem eGreatest4 (a b c d : Rat) (k : Nat) (hk : k ≤ 1000) [HasSz a k] [HasSz b k] [HasSz c k] [HasSz d k] : Sp Tryz.prog 127 [(4, rC a ++ rC b ++ rC c ++ rC d)] [row 0 4] (rV (maxQ (maxQ (maxQ a b) c) d)) [] := by
 have M0 := pMaxQ a a fz fz
 rw [maxQ_self] at M0
 exact walk (code := Tryz.f127.body.getD .skip) [Sy.c M0, Sy.c (pMaxQ a b fz fz), Sy.c (pMaxQ (maxQ a b) c fz fz), Sy.c (pMaxQ (maxQ (maxQ a b) c) d fz fz)] fol Tryz.func127 (by kernel_rfl) (fun xs w => Tryz.call127 xs w) (by kernel_rfl)
theorem eAround2 (a b : Rat) (ha : Fits a) (hb : Fits b) : Sp Tryz.prog 111 [(2, rC a ++ rC b)] [row 0 2] (oV (minQ a b) (maxQ a b)) [] := by exact walk (code := Tryz.f111.body.getD .skip) [cr (eLeast2 a b ha hb), cr (eGreatest2 a b ha hb)] fol Tryz.func111 (by kernel_rfl) (fun xs w => Tryz.call111 xs w) (by kernel_rfl)
theorem eAround4 (a b c d : Rat) (k : Nat) (hk : k ≤ 1000) [HasSz a k] [HasSz b k] [HasSz c k] [HasSz d k] : Sp Tryz.prog 111 [(4, rC a ++ rC b ++ rC c ++ rC d)] [row 0 4] (oV (minQ (minQ (minQ a b) c) d) (maxQ (maxQ (maxQ a b) c) d)) [] := by exact walk (code := Tryz.f111.body.getD .skip) [cr (eLeast4 a b c d k hk), cr (eGreatest4 a b c d k hk)] fol Tryz.func111 (by kernel_rfl) (fun xs w => Tryz.call111 xs w) (by kernel_rfl)
theorem eMul (a b c d : Rat) (k : Nat) (hk : k ≤ 500) [HasSz a k] [HasSz b k] [HasSz c k] [HasSz d k] : Sp Tryz.prog 43 [] [oV a b, oV c d] (oV (minQ (minQ (minQ (a * c) (a * d)) (b * c)) (b * d)) (maxQ (maxQ (maxQ (a * c) (a * d)) (b * c)) (b * d))) [] := by
 have A := eAround4 (a * c) (a * d) (b * c) (b * d) (k + k) (by omega)
 exact walk (code := Tryz.f43.body.getD .skip) [Sy.c (pMul a c fz fz), Sy.c (pMul a d fz fz), Sy.c (pMul b c fz fz), Sy.c (pMul b d fz fz), cr A] fol Tryz.func43 (by kernel_rfl) (fun xs w => Tryz.call43 xs w) (by kernel_rfl)
theorem eContains (l h r : Rat) (hl : Fits l) (hh : Fits h) (hr : Fits r) : Sp Tryz.prog 53 [] [oV l h, rV r] (.bool (decide (l ≤ r) && decide (r ≤ h))) [] := by
 have C1 := pCompare l r hl hr
 have C2 := pCompare r h hr hh
 cases h1 : decide (l ≤ r)
 ·have e1 := cmpQ_leq h1
  exact walk (code := Tryz.f53.body.getD .skip) [c C1, eb e1] fol Tryz.func53 (by kernel_rfl) (fun xs w => Tryz.call53 xs w) (by kernel_rfl)
 ·have e1 := cmpQ_leq h1
  cases h2 : decide (r ≤ h)
  ·have e2 := cmpQ_leq h2
   exact walk (code := Tryz.f53.body.getD .skip) [c C1, eb e1, c C2, eb e2] fol Tryz.func53 (by kernel_rfl) (fun xs w => Tryz.call53 xs w) (by kernel_rfl)
  ·have e2 := cmpQ_leq h2
   exact walk (code := Tryz.f53.body.getD .skip) [c C1, eb e1, c C2, eb e2] fol Tryz.func53 (by kernel_rfl) (fun xs w => Tryz.call53 xs w) (by kernel_rfl)
end Go.Proofs.YtcbbcmiennjfhaaGreatDoor
set_option linter.unusedSimpArgs false
set_option linter.unusedVariables false
namespace Go.Proofs.YtcbbcmiennjfhaaGreatDoor
open Go Go.RowKit Go.Sy
open Vi
def lsQ (x y : Rat) : Rat := if y < x then y else x
def grQ (x y : Rat) : Rat := if x < y then y else x
theorem lsQ_cases (x y : Rat) : (decide (y < x) = true ∧ lsQ x y = y) ∨ (decide (y < x) = false ∧ lsQ x y = x) := by
 unfold lsQ
 by_cases h : y < x
 ·exact .inl ⟨decide_eq_true h, if_pos h⟩
 ·exact .inr ⟨decide_eq_false h, if_neg h⟩
theorem grQ_cases (x y : Rat) : (decide (x < y) = true ∧ grQ x y = y) ∨ (decide (x < y) = false ∧ grQ x y = x) := by
 unfold grQ
 by_cases h : x < y
 ·exact .inl ⟨decide_eq_true h, if_pos h⟩
 ·exact .inr ⟨decide_eq_false h, if_neg h⟩
instance (p q : Rat) (i j : Nat) [h : HasSz p i] [g : HasSz q j] : HasSz (lsQ p q) (i + j) := by
 unfold lsQ; split
 ·exact hs_mono g (by omega)
 ·exact hs_mono h (by omega)
instance (p q : Rat) (i j : Nat) [h : HasSz p i] [g : HasSz q j] : HasSz (grQ p q) (i + j) := by
 unfold grQ; split
 ·exact hs_mono g (by omega)
 ·exact hs_mono h (by omega)
theorem rCmp0 (p : Rat) (hp : Fits p) : Sp Tryz.prog 18 [] [rV p, rV p] (nV 0) [] := by
 have := rCompare p p hp hp
 rwa [cmpQ_self] at this
theorem fLeast2 (a b : Rat) (k : Nat) (hk : k ≤ 1000) [HasSz a k] [HasSz b k] : Sp Tryz.prog 155 [(2, rC a ++ rC b)] [row 0 2] (rV (lsQ a b)) [] := by
 have C0 := rCmp0 a fz
 have C1 := rCompare b a fz fz
 rcases lsQ_cases a b with ⟨h1, g1⟩ | ⟨h1, g1⟩ <;> have e1 := cmpQ_lss h1 <;> rw [g1] <;> exact walk (code := Tryz.f155.body.getD .skip) [c C0, c C1, eb e1] fol Tryz.func155 (by kernel_rfl) (fun xs w => Tryz.call155 xs w) (by kernel_rfl)
theorem fGreatest2 (a b : Rat) (k : Nat) (hk : k ≤ 1000) [HasSz a k] [HasSz b k] : Sp Tryz.prog 156 [(2, rC a ++ rC b)] [row 0 2] (rV (grQ a b)) [] := by
 have C0 := rCmp0 a fz
 have C1 := rCompare b a fz fz
 rcases grQ_cases a b with ⟨h1, g1⟩ | ⟨h1, g1⟩ <;> have e1 := cmpQ_gtr h1 <;> rw [g1] <;> exact walk (code := Tryz.f156.body.getD .skip) [c C0, c C1, eb e1] fol Tryz.func156 (by kernel_rfl) (fun xs w => Tryz.call156 xs w) (by kernel_rfl)
theorem fLeast4 (a b c d : Rat) (k : Nat) (hk : k ≤ 1000) [HasSz a k] [HasSz b k] [HasSz c k] [HasSz d k] : Sp Tryz.prog 155 [(4, rC a ++ rC b ++ rC c ++ rC d)] [row 0 4] (rV (lsQ (lsQ (lsQ a b) c) d)) [] := by
 have C0 := rCmp0 a fz
 have C1 := rCompare b a fz fz
 have C2 := rCompare c (lsQ a b) fz fz
 have C3 := rCompare d (lsQ (lsQ a b) c) fz fz
 rcases lsQ_cases a b with ⟨h1, g1⟩ | ⟨h1, g1⟩ <;> rcases lsQ_cases (lsQ a b) c with ⟨h2, g2⟩ | ⟨h2, g2⟩ <;> rcases lsQ_cases (lsQ (lsQ a b) c) d with ⟨h3, g3⟩ | ⟨h3, g3⟩ <;> have e1 := cmpQ_lss h1 <;> have e2 := cmpQ_lss h2 <;> have e3 := cmpQ_lss h3 <;> rw [g3] <;> (try rw [g2]) <;> (try rw [g1]) <;> (try rw [g2] at C3 e3) <;> (try rw [g1] at C3 e3) <;> (try rw [g1] at C2 e2) <;> exact walk (code := Tryz.f155.body.getD .skip) [Sy.c C0, Sy.c C1, eb e1, Sy.c C2, eb e2, Sy.c C3, eb e3] fol Tryz.func155 (by kernel_rfl) (fun xs w => Tryz.call155 xs w) (by kernel_rfl)
theorem fGreatest4 (a b c d : Rat) (k : Nat) (hk : k ≤ 1000) [HasSz a k] [HasSz b k] [HasSz c k] [HasSz d k] : Sp Tryz.prog 156 [(4, rC a ++ rC b ++ rC c ++ rC d)] [row 0 4] (rV (grQ (grQ (grQ a b) c) d)) [] := by
 have C0 := rCmp0 a fz
 have C1 := rCompare b a fz fz
 have C2 := rCompare c (grQ a b) fz fz
 have C3 := rCompare d (grQ (grQ a b) c) fz fz
 rcases grQ_cases a b with ⟨h1, g1⟩ | ⟨h1, g1⟩ <;> rcases grQ_cases (grQ a b) c with ⟨h2, g2⟩ | ⟨h2, g2⟩ <;> rcases grQ_cases (grQ (grQ a b) c) d with ⟨h3, g3⟩ | ⟨h3, g3⟩ <;> have e1 := cmpQ_gtr h1 <;> have e2 := cmpQ_gtr h2 <;> have e3 := cmpQ_gtr h3 <;> rw [g3] <;> (try rw [g2]) <;> (try rw [g1]) <;> (try rw [g2] at C3 e3) <;> (try rw [g1] at C3 e3) <;> (try rw [g1] at C2 e2) <;> exact walk (code := Tryz.f156.body.getD .skip) [Sy.c C0, Sy.c C1, eb e1, Sy.c C2, eb e2, Sy.c C3, eb e3] fol Tryz.func156 (by kernel_rfl) (fun xs w => Tryz.call156 xs w) (by kernel_rfl)
theorem fAround2 (a b : Rat) (k : Nat) (hk : k ≤ 1000) [HasSz a k] [HasSz b k] : Sp Tryz.prog 110 [(2, rC a ++ rC b)] [row 0 2] (oV (lsQ a b) (grQ a b)) [] := by
 have L1 := fLeast2 a b k hk
 have G1 := fGreatest2 a b k hk
 exact walk (code := Tryz.f110.body.getD .skip) [cr L1, cr G1] fol Tryz.func110 (by kernel_rfl) (fun xs w => Tryz.call110 xs w) (by kernel_rfl)
theorem fAround4 (a b c d : Rat) (k : Nat) (hk : k ≤ 1000) [HasSz a k] [HasSz b k] [HasSz c k] [HasSz d k] : Sp Tryz.prog 110 [(4, rC a ++ rC b ++ rC c ++ rC d)] [row 0 4] (oV (lsQ (lsQ (lsQ a b) c) d) (grQ (grQ (grQ a b) c) d)) [] := by
 have L1 := fLeast4 a b c d k hk
 have G1 := fGreatest4 a b c d k hk
 exact walk (code := Tryz.f110.body.getD .skip) [cr L1, cr G1] fol Tryz.func110 (by kernel_rfl) (fun xs w => Tryz.call110 xs w) (by kernel_rfl)
theorem fAdd (a b c d : Rat) (k : Nat) (hk : k ≤ 400) [HasSz a k] [HasSz b k] [HasSz c k] [HasSz d k] : Sp Tryz.prog 40 [] [oV a b, oV c d] (oV (lsQ (a + c) (b + d)) (grQ (a + c) (b + d))) [] := by
 have A := fAround2 (a + c) (b + d) (k + k + 1) (by omega)
 exact walk (code := Tryz.f40.body.getD .skip) [Sy.c (rAdd a c fz fz), Sy.c (rAdd b d fz fz), cr A] fol Tryz.func40 (by kernel_rfl) (fun xs w => Tryz.call40 xs w) (by kernel_rfl)
theorem fSub (a b c d : Rat) (k : Nat) (hk : k ≤ 400) [HasSz a k] [HasSz b k] [HasSz c k] [HasSz d k] : Sp Tryz.prog 42 [] [oV a b, oV c d] (oV (lsQ (a - d) (b - c)) (grQ (a - d) (b - c))) [] := by
 have A := fAround2 (a - d) (b - c) (k + k + 1) (by omega)
 exact walk (code := Tryz.f42.body.getD .skip) [Sy.c (rSub a d fz fz), Sy.c (rSub b c fz fz), cr A] fol Tryz.func42 (by kernel_rfl) (fun xs w => Tryz.call42 xs w) (by kernel_rfl)
theorem fMul (a b c d : Rat) (k : Nat) (hk : k ≤ 400) [HasSz a k] [HasSz b k] [HasSz c k] [HasSz d k] : Sp Tryz.prog 44 [] [oV a b, oV c d] (oV (lsQ (lsQ (lsQ (a * c) (a * d)) (b * c)) (b * d)) (grQ (grQ (grQ (a * c) (a * d)) (b * c)) (b * d))) [] := by
 have A := fAround4 (a * c) (a * d) (b * c) (b * d) (k + k) (by omega)
 exact walk (code := Tryz.f44.body.getD .skip) [Sy.c (rMul a c fz fz), Sy.c (rMul a d fz fz), Sy.c (rMul b c fz fz), Sy.c (rMul b d fz fz), cr A] fol Tryz.func44 (by kernel_rfl) (fun xs w => Tryz.call44 xs w) (by kernel_rfl)
theorem fContains (l h r : Rat) (hl : Fits l) (hh : Fits h) (hr : Fits r) : Sp Tryz.prog 50 [] [oV l h, rV r] (.bool (decide (l ≤ r) && decide (r ≤ h))) [] := by
 have C1 := rCompare l r hl hr
 have C2 := rCompare r h hr hh
 cases h1 : decide (l ≤ r)
 ·have e1 := cmpQ_leq h1
  exact walk (code := Tryz.f50.body.getD .skip) [c C1, eb e1] fol Tryz.func50 (by kernel_rfl) (fun xs w => Tryz.call50 xs w) (by kernel_rfl)
 ·have e1 := cmpQ_leq h1
  cases h2 : decide (r ≤ h)
  ·have e2 := cmpQ_leq h2
   exact walk (code := Tryz.f50.body.getD .skip) [c C1, eb e1, c C2, eb e2] fol Tryz.func50 (by kernel_rfl) (fun xs w => Tryz.call50 xs w) (by kernel_rfl)
  ·have e2 := cmpQ_leq h2
   exact walk (code := Tryz.f50.body.getD .skip) [c C1, eb e1, c C2, eb e2] fol Tryz.func50 (by kernel_rfl) (fun xs w => Tryz.call50 xs w) (by kernel_rfl)
end Go.Proofs.YtcbbcmiennjfhaaGreatDoor
set_option linter.unusedSimpArgs false
set_option linter.unusedVariables false
namespace Go.Proofs.YtcbbcmiennjfhaaGreatDoor
open Go Go.RowKit Go.Sy
open Vi
theorem part_sz (n d : Int) (hn : -2147483648 ≤ n ∧ n ≤ 2147483647) (hd : 0 ≤ d ∧ d ≤ 65535) : HasSz (Rat.divInt n (d + 1)) 4 := by
 have e : (256 : Nat) ^ 4 = 4294967296 := by decide
 exact ⟨Sz.of n (d + 1) 4 (by omega) (by omega) (by omega)⟩
theorem vPart (n d : Int) (hn : -2147483648 ≤ n ∧ n ≤ 2147483647) (hd : 0 ≤ d ∧ d ≤ 65535) : ∃ q : Rat, HasSz q 4 ∧ q = Rat.divInt n (d + 1) ∧ Sp Tryz.prog 33 [] [.agg #[.int .i32 n, .int .u16 d]] (rV q) [] := by
 have w1 : IntKind.i64.wrap n = n := w64 (by omega) (by omega)
 have w2 : IntKind.i64.wrap d = d := w64 (by omega) (by omega)
 have w3 : IntKind.i64.wrap (d + 1) = d + 1 := w64 (by omega) (by omega)
 have O := rOf n (d + 1) (by omega) (by omega) (by omega) (by omega) (by omega)
 refine ⟨Rat.divInt n (d + 1), part_sz n d hn hd, rfl, ?_⟩
 generalize Rat.divInt n (d + 1) = q at *
 exact walk (code := Tryz.f33.body.getD .skip) [Go.Sy.e (congrArg (Value.int IntKind.i64) w1), Go.Sy.e (congrArg (Value.int IntKind.i64) w2), Go.Sy.e (congrArg (Value.int IntKind.i64) w3), c O] fol Tryz.func33 (by kernel_rfl) (fun xs w => Tryz.call33 xs w) (by kernel_rfl)
theorem vPair (n1 d1 n2 d2 : Int) (hn1 : -2147483648 ≤ n1 ∧ n1 ≤ 2147483647) (hd1 : 0 ≤ d1 ∧ d1 ≤ 65535) (hn2 : -2147483648 ≤ n2 ∧ n2 ≤ 2147483647) (hd2 : 0 ≤ d2 ∧ d2 ≤ 65535) :
    ∃ l h : Rat, HasSz l 4 ∧ HasSz h 4 ∧ l ≤ h ∧ Sp Tryz.prog 26 [] [.agg #[.int .i32 n1, .int .u16 d1, .int .i32 n2, .int .u16 d2]] (oV l h) [] := by
 obtain ⟨a, sa, _, ka⟩ := vPart n1 d1 hn1 hd1
 obtain ⟨b, sb, _, kb⟩ := vPart n2 d2 hn2 hd2
 have C := rCompare a b fz fz
 by_cases hab : b < a
 ·have e := cmpQ_gtr (decide_eq_true hab)
  refine ⟨b, a, sb, sa, Rat.le_of_lt hab, ?_⟩
  exact walk (code := Tryz.f26.body.getD .skip) [c ka, c kb, c C, eb e] fol Tryz.func26 (by kernel_rfl) (fun xs w => Tryz.call26 xs w) (by kernel_rfl)
 ·have e := cmpQ_gtr (decide_eq_false hab)
  refine ⟨a, b, sa, sb, Rat.not_lt.1 hab, ?_⟩
  exact walk (code := Tryz.f26.body.getD .skip) [c ka, c kb, c C, eb e] fol Tryz.func26 (by kernel_rfl) (fun xs w => Tryz.call26 xs w) (by kernel_rfl)
theorem vLow (l h : Rat) : Sp Tryz.prog 32 [] [oV l h] (oV l h) [] := by exact walk (code := Tryz.f32.body.getD .skip) [] fol Tryz.func32 (by kernel_rfl) (fun xs w => Tryz.call32 xs w) (by kernel_rfl)
theorem divInt1 (n : Int) : Rat.divInt n 1 = (n : Rat) := by rw [Rat.divInt_eq_div]; show (n : Rat) / 1 = n; grind
theorem vBound (l h : Int) (l1 : -9223372036854775808 ≤ l) (l2 : l ≤ 9223372036854775807) (h1 : -9223372036854775808 ≤ h) (h2 : h ≤ 9223372036854775807) : Sp Tryz.prog 102 [] [nV l, nV h] (oV (l : Rat) (h : Rat)) [] := by
 have O1 := rOf l 1 l1 l2 (by omega) (by omega) (by omega)
 have O2 := rOf h 1 h1 h2 (by omega) (by omega) (by omega)
 rw [divInt1] at O1 O2
 exact walk (code := Tryz.f102.body.getD .skip) [c O1, c O2] fol Tryz.func102 (by kernel_rfl) (fun xs w => Tryz.call102 xs w) (by kernel_rfl)
theorem vWithin (l h : Rat) (w : Int) (hw : 0 ≤ w ∧ w ≤ 255) (hlh : l ≤ h) [HasSz l 4] [HasSz h 4] : ∃ x : Rat, HasSz x 30 ∧ l ≤ x ∧ x ≤ h ∧ Sp Tryz.prog 52 [] [oV l h, .int .u8 w] (rV x) [] := by
 obtain ⟨n, rfl⟩ : ∃ n : Nat, w = (n : Int) := ⟨w.toNat, by omega⟩
 have hm : n % 17 < 17 := Nat.mod_lt _ (by omega)
 have B : Bin .rem 5 (bV n) (bV 17) (bV (n % 17)) := bin_rem8 n 17 (by omega) (by omega)
 obtain ⟨m, hm2⟩ : ∃ m, m = n % 17 := ⟨_, rfl⟩
 rw [← hm2] at B hm
 have w2 : IntKind.i64.wrap ((m : Nat) : Int) = m := w64 (by omega) (by omega)
 have O := rOf (m : Int) 16 (by omega) (by omega) (by omega) (by omega) (by omega)
 obtain ⟨t, ht⟩ : ∃ t, t = Rat.divInt (m : Int) 16 := ⟨_, rfl⟩
 have st : HasSz t 1 := by rw [ht]; exact ⟨Sz.of _ _ 1 (by omega) (by omega) (by omega)⟩
 have t0 : 0 ≤ t := by rw [ht]; exact Rat.divInt_nonneg (by omega) (by omega)
 have t1 : t ≤ 1 := by
  rw [ht, Rat.divInt_eq_div]
  have h16 : ((m : Int) : Rat) ≤ 16 := by exact_mod_cast (show m ≤ 16 by omega)
  have : ((16 : Int) : Rat) = 16 := rfl
  grind
 rw [← ht] at O
 clear ht
 have A := rAdd l (t * (h - l)) fz fz
 refine ⟨l + t * (h - l), hs_mono inferInstance (by omega), ?_, ?_, ?_⟩
 ·have := Rat.mul_nonneg t0 (show 0 ≤ h - l by grind)
  grind
 ·have := Rat.mul_nonneg (show 0 ≤ 1 - t by grind) (show 0 ≤ h - l by grind)
  grind
 ·have M := rMul t (h - l) fz fz
  have D := rSub h l fz fz
  generalize l + t * (h - l) = x at *
  generalize t * (h - l) = y at *
  generalize h - l = z at *
  show Sp Tryz.prog 52 [] [oV l h, bV n] (rV x) []
  exact walk (code := Tryz.f52.body.getD .skip) [x2 B, Go.Sy.e (congrArg (Value.int IntKind.i64) w2), c O, c D, c M, c A] fol Tryz.func52 (by kernel_rfl) (fun xs w => Tryz.call52 xs w) (by kernel_rfl)
end Go.Proofs.YtcbbcmiennjfhaaGreatDoor
set_option linter.unusedSimpArgs false
set_option linter.unusedVariables false
namespace Go.Proofs.YtcbbcmiennjfhaaGreatDoor
open Go Go.RowKit Go.Sy
open Vi
theorem sameO (a b : Rat) : Bin .eql 51 (oV a b) (oV a b) (.bool true) := binO a b a b (by simp)
theorem vSame (l h : Rat) : Sp Tryz.prog 30 [] [oV l h, oV l h] (.bool true) [] := by exact walk (code := Tryz.f30.body.getD .skip) [x2 (same l), x2 (same h)] fol Tryz.func30 (by kernel_rfl) (fun xs w => Tryz.call30 xs w) (by kernel_rfl)
theorem minmax2 (a b : Rat) : minQ a b = lsQ a b ∧ maxQ a b = grQ a b := by
 unfold minQ maxQ lsQ grQ
 constructor <;> split <;> split <;> grind
def sqLow (l h : Rat) : Rat := if l ≤ 0 ∧ 0 ≤ h then 0 else minQ (l * l) (h * h)
theorem eSquare (l h : Rat) (k : Nat) (hk : k ≤ 500) [HasSz l k] [HasSz h k] : Sp Tryz.prog 45 [] [oV l h] (oV (sqLow l h) (maxQ (l * l) (h * h))) [] := by
 have A := eAround2 (l * l) (h * h) fz fz
 have C := eContains l h 0 fz fz fz
 rw [rV0] at C
 unfold sqLow
 by_cases h1 : l ≤ 0 ∧ 0 ≤ h
 ·rw [if_pos h1]
  rw [decide_eq_true h1.1, decide_eq_true h1.2, Bool.and_self] at C
  have z0 := rV0
  unfold oV
  rw [show (0 : Rat).num = 0 from rfl, show dn 0 = 0 from rfl, sg0, mg0]
  exact walk (code := Tryz.f45.body.getD .skip) [c (pMul l l fz fz), c (pMul h h fz fz), cr A, c C] fol Tryz.func45 (by kernel_rfl) (fun xs w => Tryz.call45 xs w) (by kernel_rfl)
 ·rw [if_neg h1]
  have e : (decide (l ≤ 0) && decide (0 ≤ h)) = false := by
   rw [← Bool.decide_and, decide_eq_false h1]
  rw [e] at C
  exact walk (code := Tryz.f45.body.getD .skip) [c (pMul l l fz fz), c (pMul h h fz fz), cr A, c C] fol Tryz.func45 (by kernel_rfl) (fun xs w => Tryz.call45 xs w) (by kernel_rfl)
theorem inv1 (x : Rat) (h0 : x ≠ 0) (hx : Fits x) : Sp Tryz.prog 113 [] [rV 1, rV x] (.tuple #[rV (1 / x), nV 0]) [] := pDiv 1 x h0 Fits.one hx
theorem eDiv0 (a b x y : Rat) (k : Nat) (hk : k ≤ 200) [HasSz a k] [HasSz b k] [HasSz x k] [HasSz y k] (h : x ≤ 0 ∧ 0 ≤ y) : Sp Tryz.prog 49 [] [oV a b, oV x y] (.tuple #[oZ, nV 6]) [] := by
 have C := eContains x y 0 fz fz fz
 rw [rV0, decide_eq_true h.1, decide_eq_true h.2, Bool.and_self] at C
 exact walk (code := Tryz.f49.body.getD .skip) [c C] fol Tryz.func49 (by kernel_rfl) (fun xs w => Tryz.call49 xs w) (by kernel_rfl)
theorem eDiv (a b x y : Rat) (k : Nat) (hk : k ≤ 100) [HasSz a k] [HasSz b k] [HasSz x k] [HasSz y k] (h : ¬ (x ≤ 0 ∧ 0 ≤ y)) (hx : x ≠ 0) (hy : y ≠ 0) : Sp Tryz.prog 49 [] [oV a b, oV x y] (.tuple #[oV (minQ (minQ (minQ (a * (1 / y)) (a * (1 / x))) (b * (1 / y))) (b * (1 / x))) (maxQ (maxQ (maxQ (a * (1 / y)) (a * (1 / x))) (b * (1 / y))) (b * (1 / x))), nV 0]) [] := by
 have C := eContains x y 0 fz fz fz
 have e : (decide (x ≤ 0) && decide (0 ≤ y)) = false := by
  rw [← Bool.decide_and, decide_eq_false h]
 rw [rV0, e] at C
 have I := pI 1 (by omega) (by omega)
 rw [show ((1 : Int) : Rat) = 1 from rfl] at I
 have D1 := inv1 x hx fz
 have D2 := inv1 y hy fz
 haveI : HasSz (1 / x) (k + 2) := hs_mono (hs_div 1 x 1 k hx) (by omega)
 haveI : HasSz (1 / y) (k + 2) := hs_mono (hs_div 1 y 1 k hy) (by omega)
 haveI : HasSz a (k + 2) := hs_mono ‹HasSz a k› (by omega)
 haveI : HasSz b (k + 2) := hs_mono ‹HasSz b k› (by omega)
 have M := eMul a b (1 / y) (1 / x) (k + 2) (by omega)
 generalize 1 / x = u at *
 generalize 1 / y = v at *
 exact walk (code := Tryz.f49.body.getD .skip) [c C, c I, c D2, c D1, c M] fol Tryz.func49 (by kernel_rfl) (fun xs w => Tryz.call49 xs w) (by kernel_rfl)
end Go.Proofs.YtcbbcmiennjfhaaGreatDoor
set_option linter.unusedSimpArgs false
set_option linter.unusedVariables false
namespace Go.Proofs.YtcbbcmiennjfhaaGreatDoor
open Go Go.RowKit Go.Sy
open Vi
def stP (a z : Int) (n i : Nat) : St := ⟨23, 0, [(4, ptr 1 0), (6, ptr 2 0), (2, ptr 0 0), (15, nV n), (16, nV i)], junk, [(0, blk 26 [.bool (sg a), .string (mg a)]), (1, blk 26 [.bool false, .string ⟨#[]⟩]), (2, blk 26 [.bool (sg z), .string (mg z)])], 3⟩
theorem pow_loop (a : Int) (n : Nat) (hn : n ≤ 64) (ha : (mg a).size ≤ 8) : ∀ m i z, i + m = n → (mg z).size ≤ 9 * i + 1 → RoundsOk Tryz.prog (nthLoop 0 (Tryz.f98.body.getD .skip)) (stP a z n i) (.exit 0) (stP a (z * a ^ m) n n)
 | 0, i, z, hi, hz => by
  obtain rfl : i = n := by omega
  have e : decide ((i : Int) < (i : Int)) = false := decide_eq_false (by omega)
  rw [Int.pow_zero, Int.mul_one]
  refine .out (by simp) ?_
  exact piece [(0, 0), (1, 1), (2, 2)] [eb e] fol (by kernel_rfl)
 | m + 1, i, z, hi, hz => by
  have e : decide ((i : Int) < (n : Int)) = true := decide_eq_true (by omega)
  have w1 : IntKind.i64.wrap ((i : Int) + 1) = ((i + 1 : Nat) : Int) := by rw [w64 (by omega) (by omega)]; omega
  have M := iMul z a (by omega) (by omega)
  have hs : (mg (z * a)).size ≤ 9 * (i + 1) + 1 := by
   rw [mg_nd, Int.natAbs_mul]
   rw [mg_nd] at hz ha
   have := nd_mul z.natAbs a.natAbs
   omega
  have ih := pow_loop a n hn ha m (i + 1) (z * a) (by omega) hs
  rw [Int.mul_assoc, ← Int.pow_succ'] at ih
  generalize z * a = z2 at *
  refine .more ?_ ih
  exact piece [(0, 0), (1, 1), (2, 2)] [eb e, c M, Go.Sy.e (congrArg (Value.int IntKind.i64) w1)] fol (by kernel_rfl)
theorem iPow (a : Int) (n : Nat) (hn : n ≤ 64) (ha : (mg a).size ≤ 8) : Sp Tryz.prog 98 [] [iV a, nV n] (.tuple #[iV (a ^ n), nV 0]) [] := by
 have e1 : decide ((n : Int) < 0) = false := decide_eq_false (by omega)
 have e2 : decide ((n : Int) > 64) = false := decide_eq_false (by omega)
 have F := iFromInt 1 (by omega) (by omega)
 have hl := (pow_loop a n hn ha n 0 1 (by omega) (by rw [mg1]; decide)).loop
 rw [Int.one_mul] at hl
 generalize a ^ n = z at *
 exact walk (code := Tryz.f98.body.getD .skip) [eb e1, eb e2, c F, lp [(0, 0), (1, 1), (2, 2)] hl] fol Tryz.func98 (by kernel_rfl) (fun xs w => Tryz.call98 xs w) (by kernel_rfl)
end Go.Proofs.YtcbbcmiennjfhaaGreatDoor
set_option linter.unusedSimpArgs false
set_option linter.unusedVariables false
namespace Go.Proofs.YtcbbcmiennjfhaaGreatDoor
open Go Go.RowKit Go.Sy
open Vi
noncomputable def isq (X : Nat) : Nat := Classical.choose (isRt_ex X)
theorem isq_spec (X : Nat) : IsRt X (isq X) := Classical.choose_spec (isRt_ex X)
theorem iSqrt (x : Int) (h0 : 0 ≤ x) (hx : (mg x).size ≤ 1048576) : Sp Tryz.prog 148 [] [iV x] (.tuple #[iV ((isq x.toNat : Nat) : Int), nV 0]) [] := by
 have h := isq_spec x.toNat
 have e : x.natAbs = x.toNat := by omega
 exact Sp.of (fun xs w => Tryz.call148 xs w) (by kernel_rfl) (by kernel_rfl) (fun w => Sqrt_c x (isq x.toNat) h0 (by rw [e]; exact h.1) (by rw [e]; exact h.2) w hx)
theorem jSqrt (x : Int) (h0 : 0 ≤ x) (hx : (mg x).size ≤ 1048576) : Sp Tryz.prog 152 [] [iV x] (iV ((isq x.toNat : Nat) : Int)) [] := by
 have h := isq_spec x.toNat
 have e : x.natAbs = x.toNat := by omega
 exact Sp.of (fun xs w => Tryz.call152 xs w) (by kernel_rfl) (by kernel_rfl) (fun w => rSqrt_c x (isq x.toNat) h0 (by rw [e]; exact h.1) (by rw [e]; exact h.2) w hx)
def p2 (n : Nat) : Int := 2 ^ n
theorem p2_pos (n : Nat) : 0 < p2 n := Int.pow_pos (by omega)
theorem p2_abs (n k : Nat) (h : n < 8 * k) : (p2 n).natAbs < 256 ^ k := by
 unfold p2
 rw [Int.natAbs_pow, pow8]
 exact Nat.pow_lt_pow_right (by decide) h
theorem p2_size (n k : Nat) (h : n < 8 * k) : (mg (p2 n)).size ≤ k := size_mag_le _ k (p2_abs n k h)
theorem p2_even (n : Nat) (h : n % 2 = 0) : (4 : Int) ^ (n / 2) = p2 n := by
 unfold p2
 rw [show (4 : Int) = 2 ^ 2 from rfl, ← Int.pow_mul]
 congr 1; omega
theorem p2_odd (n : Nat) (h : n % 2 = 1) : (4 : Int) ^ (n / 2) * 2 = p2 n := by
 unfold p2
 rw [show (4 : Int) = 2 ^ 2 from rfl, ← Int.pow_mul, ← Int.pow_succ]
 congr 1; omega
theorem p2_four (k : Nat) : (4 : Int) ^ k = p2 (2 * k) := by unfold p2; rw [Int.pow_mul]; rfl
noncomputable def rtI (a : Rat) (n : Nat) : Int := ((isq (a * ((p2 n * p2 n : Int) : Rat)).floor.toNat : Nat) : Int)
noncomputable def gridQ (a : Rat) (n : Nat) : Rat := Rat.divInt (rtI a n) (p2 n)
noncomputable def highQ (a : Rat) (n : Nat) : Rat := if gridQ a n * gridQ a n = a then gridQ a n else gridQ a n + Rat.divInt 1 (p2 n)
theorem rtI_le (a : Rat) (n : Nat) (h0 : 0 ≤ a) : 0 ≤ rtI a n ∧ ((rtI a n * rtI a n : Int) : Rat) ≤ a * ((p2 n * p2 n : Int) : Rat) ∧ a * ((p2 n * p2 n : Int) : Rat) < (((rtI a n + 1) * (rtI a n + 1) : Int) : Rat) := by
 have hP : 0 < p2 n * p2 n := Int.mul_pos (p2_pos n) (p2_pos n)
 have hs : 0 ≤ a * ((p2 n * p2 n : Int) : Rat) := Rat.mul_nonneg h0 (by exact_mod_cast Int.le_of_lt hP)
 unfold rtI
 generalize a * ((p2 n * p2 n : Int) : Rat) = x at *
 have hf : 0 ≤ x.floor := Rat.le_floor_iff.2 hs
 obtain ⟨h1, h2⟩ := isq_spec x.floor.toNat
 generalize isq x.floor.toNat = r at *
 refine ⟨by omega, ?_, ?_⟩
 ·refine Rat.le_floor_iff.1 ?_
  have : ((r * r : Nat) : Int) ≤ x.floor := by omega
  rwa [Int.natCast_mul] at this
 ·refine Rat.floor_lt_iff.1 ?_
  have : x.floor < (((r + 1) * (r + 1) : Nat) : Int) := by omega
  rwa [Int.natCast_mul, Int.natCast_add] at this
theorem rtI_nd (a : Rat) (n : Nat) (h0 : 0 ≤ a) (hn : n ≤ 256) [ha : HasSz a 40] : (rtI a n).natAbs < 256 ^ 110 := by
 have hP := p2_pos n
 have h1 := rtI_le a n h0
 have hs : Sz 108 (a * ((p2 n * p2 n : Int) : Rat)) := by
  have hp : (p2 n).natAbs < 256 ^ 33 := p2_abs n 33 (by omega)
  have hpp : (p2 n * p2 n).natAbs < 256 ^ (65 + 1) := by
   have := natAbs_mul_lt' hp hp
   exact this
  have := ha.sz.mul (int_hs (p2 n * p2 n) 65 hpp).sz
  exact this.mono (by omega)
 have hf : (a * ((p2 n * p2 n : Int) : Rat)).floor.natAbs < 256 ^ 109 := by
  rw [floor_of]
  have h2 := hs.1
  have h3 : (a * ((p2 n * p2 n : Int) : Rat)).num / ((a * ((p2 n * p2 n : Int) : Rat)).den : Int) ≤ _ := Int.le_refl _
  have h4 := Int.natAbs_ediv_le_natAbs (a * ((p2 n * p2 n : Int) : Rat)).num ((a * ((p2 n * p2 n : Int) : Rat)).den : Int)
  have h5 : (256 : Nat) ^ 109 = 256 ^ 108 * 256 := Nat.pow_succ ..
  omega
 have h6 := isq_spec (a * ((p2 n * p2 n : Int) : Rat)).floor.toNat
 unfold rtI
 have h7 := Nat.le_mul_self (isq (a * ((p2 n * p2 n : Int) : Rat)).floor.toNat)
 have h8 : (256 : Nat) ^ 110 = 256 ^ 109 * 256 := Nat.pow_succ ..
 have h9 := h6.1
 omega
theorem gridQ_nonneg (a : Rat) (n : Nat) (h0 : 0 ≤ a) : 0 ≤ gridQ a n := Rat.divInt_nonneg (rtI_le a n h0).1 (Int.le_of_lt (p2_pos n))
theorem gridQ_sz (a : Rat) (n : Nat) (h0 : 0 ≤ a) (hn : n ≤ 256) [ha : HasSz a 40] : HasSz (gridQ a n) 110 := by
 have h1 := rtI_nd a n h0 hn
 have h2 := Nat.lt_of_lt_of_le (p2_abs n 33 (by omega)) (Nat.pow_le_pow_right (by omega) (show 33 ≤ 110 by omega))
 exact ⟨Sz.of _ _ 110 (by have := p2_pos n; omega) h1 h2⟩
theorem eGrid (a : Rat) (n : Nat) (hn : n ≤ 128) (h0 : 0 ≤ a) [ha : HasSz a 40] : Sp Tryz.prog 97 [] [rV a, nV n] (.tuple #[rV (gridQ a n), .bool (decide (gridQ a n * gridQ a n = a))]) [] := by
 have F4 := iFromInt 4 (by omega) (by omega)
 have F2 := iFromInt 2 (by omega) (by omega)
 have B1 : Bin .quo 3 (nV n) (nV 2) (nV (n / 2 : Nat)) := bin_quo n 2 (by omega) (by omega)
 have B2 : Bin .rem 3 (nV n) (nV 2) (nV (n % 2 : Nat)) := bin_rem n 2 (by omega) (by omega)
 have P := iPow 4 (n / 2) (by omega) (by decide)
 have hP := p2_pos n
 have zP := p2_size n 20 (by omega)
 have PP := iMul (p2 n) (p2 n) (by omega) (by omega)
 haveI : HasSz (((p2 n * p2 n : Int)) : Rat) (39 + 1) := int_hs _ 39 (natAbs_mul_lt' (i := 20) (j := 20) (p2_abs n 20 (by omega)) (p2_abs n 20 (by omega)))
 have M := pMul a ((p2 n * p2 n : Int) : Rat) fz fz
 have fs : Fits (a * ((p2 n * p2 n : Int) : Rat)) := fz
 have Fl := pFloor _ fs
 have hfl : 0 ≤ (a * ((p2 n * p2 n : Int) : Rat)).floor := Rat.le_floor_iff.2 (Rat.mul_nonneg h0 (by exact_mod_cast Int.le_of_lt (Int.mul_pos hP hP)))
 have hfs : (mg (a * ((p2 n * p2 n : Int) : Rat)).floor).size ≤ 1000000 := by
  have h1 := fs.mn
  have h4 := Int.natAbs_ediv_le_natAbs (a * ((p2 n * p2 n : Int) : Rat)).num ((a * ((p2 n * p2 n : Int) : Rat)).den : Int)
  rw [← floor_of] at h4
  have := mg_le h4
  omega
 have R := iSqrt _ hfl (by omega)
 have hrs : (mg (rtI a n)).size ≤ 110 := size_mag_le _ _ (rtI_nd a n h0 (by omega))
 have Mk := pMake (rtI a n) (p2 n) (by omega) (by omega) (by omega)
 haveI := gridQ_sz a n h0 (by omega)
 have Q := pMul (gridQ a n) (gridQ a n) fz fz
 have C := pCompare (gridQ a n * gridQ a n) a fz fz
 have e3 : decide (cmpQ (gridQ a n * gridQ a n) a = 0) = decide (gridQ a n * gridQ a n = a) := by
  rcases cmpQ_cases (gridQ a n * gridQ a n) a with ⟨h1, h2⟩ | ⟨h1, h2⟩ | ⟨h1, h2⟩ <;> rw [h1]
  ·rw [decide_eq_false (show ¬ gridQ a n * gridQ a n = a by grind)]; rfl
  ·rw [decide_eq_true h2]; rfl
  ·rw [decide_eq_false (show ¬ gridQ a n * gridQ a n = a by grind)]; rfl
 have hrt : ((isq (a * ((p2 n * p2 n : Int) : Rat)).floor.toNat : Nat) : Int) = rtI a n := rfl
 have hg : Rat.divInt (rtI a n) (p2 n) = gridQ a n := rfl
 rw [hrt] at R
 rw [hg] at Mk
 rw [← e3]
 clear e3 hg hrt
 have m2 := Nat.mod_lt n (show 0 < 2 by omega)
 rcases (by omega : n % 2 = 0 ∨ n % 2 = 1) with hm | hm
 ·rw [p2_even n hm] at P
  rw [hm] at B2
  generalize gridQ a n * gridQ a n = gg at *
  generalize gridQ a n = g at *
  generalize rtI a n = rt at *
  generalize n / 2 = k at *
  rw [rV_int] at M
  generalize a * ((p2 n * p2 n : Int) : Rat) = s at *
  generalize p2 n * p2 n = q at *
  generalize p2 n = p at *
  exact walk (code := Tryz.f97.body.getD .skip) [c F4, x2 B1, c P, x2 B2, c PP, c M, c Fl, c R, c Mk, c Q, c C] fol Tryz.func97 (by kernel_rfl) (fun xs w => Tryz.call97 xs w) (by kernel_rfl)
 ·have P2 := iMul ((4 : Int) ^ (n / 2)) 2 (by have := p2_size (2 * (n / 2)) 20 (by omega); rw [p2_four]; omega) (by decide)
  rw [p2_odd n hm] at P2
  rw [hm] at B2
  generalize gridQ a n * gridQ a n = gg at *
  generalize gridQ a n = g at *
  generalize rtI a n = rt at *
  generalize (4 : Int) ^ (n / 2) = f at *
  generalize n / 2 = k at *
  rw [rV_int] at M
  generalize a * ((p2 n * p2 n : Int) : Rat) = s at *
  generalize p2 n * p2 n = q at *
  generalize p2 n = p at *
  exact walk (code := Tryz.f97.body.getD .skip) [c F4, x2 B1, c P, x2 B2, c F2, c P2, c PP, c M, c Fl, c R, c Mk, c Q, c C] fol Tryz.func97 (by kernel_rfl) (fun xs w => Tryz.call97 xs w) (by kernel_rfl)
theorem step_sz (n : Nat) (hn : n ≤ 256) : HasSz (Rat.divInt 1 (p2 n)) 33 :=
 ⟨Sz.of _ _ 33 (by have := p2_pos n; omega) (Nat.lt_of_lt_of_le (show (1 : Int).natAbs < 256 ^ 1 by decide) (Nat.pow_le_pow_right (by omega) (by omega))) (p2_abs n 33 (by omega))⟩
theorem highQ_sz (a : Rat) (n : Nat) (h0 : 0 ≤ a) (hn : n ≤ 256) [ha : HasSz a 40] : HasSz (highQ a n) 144 := by
 haveI := gridQ_sz a n h0 hn
 haveI := step_sz n hn
 unfold highQ
 split
 ·exact hs_mono ‹HasSz (gridQ a n) 110› (by omega)
 ·exact inferInstance
theorem eSqrt (l h : Rat) (n : Nat) (hn : n ≤ 128) (hl : 0 ≤ l) (hh : 0 ≤ h) [HasSz l 40] [HasSz h 40] : Sp Tryz.prog 27 [] [oV l h, nV n] (.tuple #[oV (gridQ l n) (highQ h n), nV 0]) [] := by
 have e1 : decide ((n : Int) < 0) = false := decide_eq_false (by omega)
 have e2 : decide ((n : Int) > 128) = false := decide_eq_false (by omega)
 have S := pSign l
 have G1 := eGrid l n hn hl
 have G2 := eGrid h n hn hh
 have F4 := iFromInt 4 (by omega) (by omega)
 have F2 := iFromInt 2 (by omega) (by omega)
 have F1 := iFromInt 1 (by omega) (by omega)
 have B1 : Bin .quo 3 (nV n) (nV 2) (nV (n / 2 : Nat)) := bin_quo n 2 (by omega) (by omega)
 have B2 : Bin .rem 3 (nV n) (nV 2) (nV (n % 2 : Nat)) := bin_rem n 2 (by omega) (by omega)
 have P := iPow 4 (n / 2) (by omega) (by decide)
 have hP := p2_pos n
 have zP := p2_size n 20 (by omega)
 have Mk := pMake 1 (p2 n) (by omega) (by decide) (by omega)
 haveI := gridQ_sz h n hh (by omega)
 haveI := step_sz n (by omega)
 have A := pAdd (gridQ h n) (Rat.divInt 1 (p2 n)) fz fz
 have hs : decide (cmpI l.num 0 < 0) = false := by
  rcases sgn_cases l with ⟨h1, h2⟩ | ⟨h1, h2⟩ | ⟨h1, h2⟩ <;> rw [h1]
  ·exact absurd h2 (Rat.not_lt.2 hl)
  ·rfl
  ·rfl
 unfold highQ
 have m2 := Nat.mod_lt n (show 0 < 2 by omega)
 by_cases hx : gridQ h n * gridQ h n = h
 ·rw [if_pos hx]
  rw [decide_eq_true hx] at G2
  clear A Mk hx
  generalize decide (gridQ l n * gridQ l n = l) = bb at *
  generalize gridQ h n = g at *
  generalize gridQ l n = gl at *
  exact walk (code := Tryz.f27.body.getD .skip) [eb e1, eb e2, c S, eb hs, c G1, c G2] fol Tryz.func27 (by kernel_rfl) (fun xs w => Tryz.call27 xs w) (by kernel_rfl)
 ·rw [if_neg hx]
  rw [decide_eq_false hx] at G2
  clear hx
  rcases (by omega : n % 2 = 0 ∨ n % 2 = 1) with hm | hm
  ·rw [p2_even n hm] at P
   rw [hm] at B2
   generalize decide (gridQ l n * gridQ l n = l) = bb at *
   generalize gridQ h n + Rat.divInt 1 (p2 n) = gs at *
   generalize gridQ h n = g at *
   generalize gridQ l n = gl at *
   generalize Rat.divInt 1 (p2 n) = st at *
   generalize n / 2 = k at *
   generalize p2 n = p at *
   exact walk (code := Tryz.f27.body.getD .skip) [eb e1, eb e2, c S, eb hs, c G1, c G2, c F4, x2 B1, c P, x2 B2, c F1, c Mk, c A] fol Tryz.func27 (by kernel_rfl) (fun xs w => Tryz.call27 xs w) (by kernel_rfl)
  ·have P2 := iMul ((4 : Int) ^ (n / 2)) 2 (by have := p2_size (2 * (n / 2)) 20 (by omega); rw [p2_four]; omega) (by decide)
   rw [p2_odd n hm] at P2
   rw [hm] at B2
   generalize decide (gridQ l n * gridQ l n = l) = bb at *
   generalize gridQ h n + Rat.divInt 1 (p2 n) = gs at *
   generalize gridQ h n = g at *
   generalize gridQ l n = gl at *
   generalize Rat.divInt 1 (p2 n) = st at *
   generalize (4 : Int) ^ (n / 2) = f at *
   generalize n / 2 = k at *
   generalize p2 n = p at *
   exact walk (code := Tryz.f27.body.getD .skip) [eb e1, eb e2, c S, eb hs, c G1, c G2, c F4, x2 B1, c P, x2 B2, c F2, c P2, c F1, c Mk, c A] fol Tryz.func27 (by kernel_rfl) (fun xs w => Tryz.call27 xs w) (by kernel_rfl)
theorem eSqrtNo (l h : Rat) (n : Int) (hn : n < 0 ∨ n > 128 ∨ l < 0) : Sp Tryz.prog 27 [] [oV l h, nV n] (.tuple #[oZ, nV 2]) [] := by
 have S := pSign l
 by_cases h1 : n < 0
 ·have e1 : decide (n < 0) = true := decide_eq_true h1
  exact walk (code := Tryz.f27.body.getD .skip) [eb e1] fol Tryz.func27 (by kernel_rfl) (fun xs w => Tryz.call27 xs w) (by kernel_rfl)
 ·have e1 : decide (n < 0) = false := decide_eq_false h1
  by_cases h2 : n > 128
  ·have e2 : decide (n > 128) = true := decide_eq_true h2
   exact walk (code := Tryz.f27.body.getD .skip) [eb e1, eb e2] fol Tryz.func27 (by kernel_rfl) (fun xs w => Tryz.call27 xs w) (by kernel_rfl)
  ·have e2 : decide (n > 128) = false := decide_eq_false h2
   have hs : decide (cmpI l.num 0 < 0) = true := by
    rcases sgn_cases l with ⟨h1, h2⟩ | ⟨h1, h2⟩ | ⟨h1, h2⟩ <;> rw [h1]
    ·rfl
    ·exfalso; rcases hn with h | h | h <;> first | omega | (rw [h2] at h; exact Rat.lt_irrefl h)
    ·exfalso; rcases hn with h | h | h <;> first | omega | exact Rat.lt_irrefl (lt_of_lt_of_le' h (Rat.le_of_lt h2))
   exact walk (code := Tryz.f27.body.getD .skip) [eb e1, eb e2, c S, eb hs] fol Tryz.func27 (by kernel_rfl) (fun xs w => Tryz.call27 xs w) (by kernel_rfl)
end Go.Proofs.YtcbbcmiennjfhaaGreatDoor
set_option linter.unusedSimpArgs false
set_option linter.unusedVariables false
namespace Go.Proofs.YtcbbcmiennjfhaaGreatDoor
open Go Go.RowKit Go.Sy
open Vi
theorem jFromInt (n : Int) (h1 : -9223372036854775808 ≤ n) (h2 : n ≤ 9223372036854775807) : Sp Tryz.prog 73 [] [nV n] (iV n) [] := Sp.of (fun xs w => Tryz.call73 xs w) (by kernel_rfl) (by kernel_rfl) (fun w => rFromInt_c n w h1 h2)
theorem jAdd (x y : Int) (hx : (mg x).size ≤ 4294967296) (hy : (mg y).size ≤ 4294967296) : Sp Tryz.prog 151 [] [iV x, iV y] (iV (x + y)) [] := Sp.of (fun xs w => Tryz.call151 xs w) (by kernel_rfl) (by kernel_rfl) (fun w => rAdd_c x y _ rfl w hx hy)
theorem p2_succ (n : Nat) : p2 n + p2 n = p2 (n + 1) := by unfold p2; rw [Int.pow_succ]; omega
def stPw (n i : Nat) : St := ⟨16, 0, [(0, nV n), (2, ptr 0 0), (3, ptr 1 0), (4, nV i)], junk, [(0, blk 28 [.bool false, .string ⟨#[]⟩, .bool false, .string ⟨#[]⟩]), (1, blk 26 [.bool (sg (p2 i)), .string (mg (p2 i))])], 2⟩
theorem pw_loop (n : Nat) (hn : n ≤ 256) : ∀ m i, i + m = n → RoundsOk Tryz.prog (nthLoop 0 (Tryz.f103.body.getD .skip)) (stPw n i) (.exit 0) (stPw n n)
 | 0, i, hi => by
  obtain rfl : i = n := by omega
  have e : decide ((i : Int) < (i : Int)) = false := decide_eq_false (by omega)
  refine .out (by simp) ?_
  unfold stPw
  generalize p2 i = z at *
  exact piece [(0, 0), (1, 1)] [eb e] fol (by kernel_rfl)
 | m + 1, i, hi => by
  have e : decide ((i : Int) < (n : Int)) = true := decide_eq_true (by omega)
  have w1 : IntKind.i64.wrap ((i : Int) + 1) = ((i + 1 : Nat) : Int) := by rw [w64 (by omega) (by omega)]; omega
  have zP := p2_size i 33 (by omega)
  have A := jAdd (p2 i) (p2 i) (by omega) (by omega)
  have ih := pw_loop n hn m (i + 1) (by omega)
  refine .more ?_ ih
  unfold stPw
  rw [← p2_succ i]
  generalize p2 i + p2 i = z2 at *
  generalize p2 i = z at *
  exact piece [(0, 0), (1, 1)] [eb e, c A, Go.Sy.e (congrArg (Value.int IntKind.i64) w1)] fol (by kernel_rfl)
theorem fPower (n : Nat) (hn : n ≤ 256) : Sp Tryz.prog 103 [] [nV n] (rV ((p2 n : Int) : Rat)) [] := by
 have F := jFromInt 1 (by omega) (by omega)
 have hl := (pw_loop n hn n 0 (by omega)).loop
 unfold stPw at hl
 rw [show p2 0 = 1 from rfl] at hl
 rw [rV_int]
 generalize p2 n = z at *
 exact walk (code := Tryz.f103.body.getD .skip) [c F, lp [(0, 0), (1, 1)] hl] fol Tryz.func103 (by kernel_rfl) (fun xs w => Tryz.call103 xs w) (by kernel_rfl)
theorem fRoot (a : Rat) (h0 : 0 ≤ a) (ha : Fits a) : Sp Tryz.prog 104 [] [rV a] (rV (((isq a.floor.toNat : Nat) : Int) : Rat)) [] := by
 have F := rFloor a ha
 have hfl : 0 ≤ a.floor := Rat.le_floor_iff.2 h0
 have hfs : (mg a.floor).size ≤ 1000000 := by
  have h1 := ha.mn
  have h4 := Int.natAbs_ediv_le_natAbs a.num (a.den : Int)
  rw [← floor_of] at h4
  have := mg_le h4
  omega
 have S := jSqrt a.floor hfl (by omega)
 rw [rV_int] at F
 rw [rV_int]
 generalize ((isq a.floor.toNat : Nat) : Int) = r at *
 generalize a.floor = f at *
 exact walk (code := Tryz.f104.body.getD .skip) [c F, c S] fol Tryz.func104 (by kernel_rfl) (fun xs w => Tryz.call104 xs w) (by kernel_rfl)
theorem grid_div (a : Rat) (n : Nat) : ((rtI a n : Int) : Rat) / ((p2 n : Int) : Rat) = gridQ a n := (Rat.divInt_eq_div ..).symm
theorem p2_rat (n : Nat) : 0 < ((p2 n : Int) : Rat) := by exact_mod_cast p2_pos n
theorem high_eq (a : Rat) (n : Nat) (h0 : 0 ≤ a) : (decide (((rtI a n : Int) : Rat) * ((rtI a n : Int) : Rat) < a * ((p2 n * p2 n : Int) : Rat)) = true ∧ highQ a n = (((rtI a n : Int) : Rat) + 1) / ((p2 n : Int) : Rat)) ∨
    (decide (((rtI a n : Int) : Rat) * ((rtI a n : Int) : Rat) < a * ((p2 n * p2 n : Int) : Rat)) = false ∧ highQ a n = ((rtI a n : Int) : Rat) / ((p2 n : Int) : Rat)) := by
 obtain ⟨h1, h2, h3⟩ := rtI_le a n h0
 have hp := p2_rat n
 have hg := grid_div a n
 rw [Rat.intCast_mul] at h2
 have hpp : ((p2 n * p2 n : Int) : Rat) = ((p2 n : Int) : Rat) * ((p2 n : Int) : Rat) := Rat.intCast_mul ..
 have hst : Rat.divInt 1 (p2 n) = 1 / ((p2 n : Int) : Rat) := Rat.divInt_eq_div ..
 rw [hpp] at h2 ⊢
 unfold highQ
 rw [hst, ← hg]
 clear hst hg h3 hpp
 generalize ((rtI a n : Int) : Rat) = r at *
 generalize ((p2 n : Int) : Rat) = p at *
 have hpi : p * p⁻¹ = 1 := Rat.mul_inv_cancel _ (by grind)
 by_cases hx : r / p * (r / p) = a
 ·right
  rw [if_pos hx]
  refine ⟨decide_eq_false ?_, rfl⟩
  have : a * (p * p) = r * r := by rw [← hx, Rat.div_def]; grind
  grind
 ·left
  rw [if_neg hx]
  refine ⟨decide_eq_true ?_, ?_⟩
  ·by_cases h : r * r < a * (p * p)
   ·exact h
   ·have h := Rat.le_antisymm h2 (Rat.not_lt.1 h)
    exfalso; apply hx
    have e : r / p * (r / p) = r * r * (p⁻¹ * p⁻¹) := by rw [Rat.div_def]; grind
    rw [e, h]; grind
  ·rw [Rat.div_def, Rat.div_def, Rat.div_def]; grind
theorem fSqrt (l h : Rat) (n : Nat) (hn : n ≤ 128) (hl : 0 ≤ l) (hh : 0 ≤ h) [HasSz l 40] [HasSz h 40] : Sp Tryz.prog 31 [] [oV l h, nV n] (oV (gridQ l n) (highQ h n)) [] := by
 have P := fPower n (by omega)
 have hP := p2_rat n
 have hpp : ((p2 n * p2 n : Int) : Rat) = ((p2 n : Int) : Rat) * ((p2 n : Int) : Rat) := Rat.intCast_mul ..
 haveI : HasSz ((p2 n : Int) : Rat) (33 + 1) := int_hs _ 33 (Nat.lt_of_lt_of_le (p2_abs n 33 (by omega)) (Nat.pow_le_pow_right (by omega) (by omega)))
 have PP := rMul ((p2 n : Int) : Rat) ((p2 n : Int) : Rat) fz fz
 have M1 := rMul l (((p2 n : Int) : Rat) * ((p2 n : Int) : Rat)) fz fz
 have M2 := rMul h (((p2 n : Int) : Rat) * ((p2 n : Int) : Rat)) fz fz
 have n1 : 0 ≤ l * (((p2 n : Int) : Rat) * ((p2 n : Int) : Rat)) := Rat.mul_nonneg hl (Rat.le_of_lt (Rat.mul_pos hP hP))
 have n2 : 0 ≤ h * (((p2 n : Int) : Rat) * ((p2 n : Int) : Rat)) := Rat.mul_nonneg hh (Rat.le_of_lt (Rat.mul_pos hP hP))
 have R1 := fRoot _ n1 fz
 have R2 := fRoot _ n2 fz
 rw [← hpp] at R1 R2 M1 M2 PP
 have f2 : Fits (h * ((p2 n * p2 n : Int) : Rat)) := by rw [hpp]; exact fz
 have t1 : ((isq (l * ((p2 n * p2 n : Int) : Rat)).floor.toNat : Nat) : Int) = rtI l n := rfl
 have t2 : ((isq (h * ((p2 n * p2 n : Int) : Rat)).floor.toNat : Nat) : Int) = rtI h n := rfl
 rw [t1] at R1
 rw [t2] at R2
 haveI : HasSz ((rtI l n : Int) : Rat) (110 + 1) := int_hs _ 110 (Nat.lt_of_lt_of_le (rtI_nd l n hl (by omega)) (Nat.pow_le_pow_right (by omega) (by omega)))
 haveI : HasSz ((rtI h n : Int) : Rat) (110 + 1) := int_hs _ 110 (Nat.lt_of_lt_of_le (rtI_nd h n hh (by omega)) (Nat.pow_le_pow_right (by omega) (by omega)))
 have Q := rMul ((rtI h n : Int) : Rat) ((rtI h n : Int) : Rat) fz fz
 have C := rCompare (((rtI h n : Int) : Rat) * ((rtI h n : Int) : Rat)) (h * ((p2 n * p2 n : Int) : Rat)) fz f2
 have D1 := rDiv ((rtI l n : Int) : Rat) ((p2 n : Int) : Rat) (by grind) fz fz
 rw [grid_div] at D1
 have A := rAdd ((rtI h n : Int) : Rat) 1 fz fz
 have O := rOne
 have D2 := rDiv ((rtI h n : Int) : Rat) ((p2 n : Int) : Rat) (by grind) fz fz
 have D3 := rDiv (((rtI h n : Int) : Rat) + 1) ((p2 n : Int) : Rat) (by grind) fz fz
 rcases high_eq h n hh with ⟨g1, g2⟩ | ⟨g1, g2⟩
 ·have e := cmpQ_lss g1
  rw [← g2] at D3
  clear t1 t2 n1 n2 hpp f2 g1 g2
  generalize highQ h n = hq at *
  generalize gridQ l n = gq at *
  generalize ((rtI h n : Int) : Rat) * ((rtI h n : Int) : Rat) = rr at *
  generalize ((rtI h n : Int) : Rat) + 1 = r1 at *
  generalize ((rtI h n : Int) : Rat) / ((p2 n : Int) : Rat) = x1 at *
  generalize r1 / ((p2 n : Int) : Rat) = x2 at *
  generalize ((rtI h n : Int) : Rat) = rh at *
  generalize ((rtI l n : Int) : Rat) = rl at *
  generalize h * ((p2 n * p2 n : Int) : Rat) = mh at *
  generalize l * ((p2 n * p2 n : Int) : Rat) = ml at *
  generalize ((p2 n * p2 n : Int) : Rat) = qq at *
  generalize ((p2 n : Int) : Rat) = p at *
  exact walk (code := Tryz.f31.body.getD .skip) [c P, c PP, c M1, c R1, c PP, c M2, c R2, c Q, c C, eb e, c O, c A, c D1, c D3] fol Tryz.func31 (by kernel_rfl) (fun xs w => Tryz.call31 xs w) (by kernel_rfl)
 ·have e := cmpQ_lss g1
  rw [← g2] at D2
  clear t1 t2 n1 n2 hpp f2 g1 g2
  generalize highQ h n = hq at *
  generalize gridQ l n = gq at *
  generalize ((rtI h n : Int) : Rat) * ((rtI h n : Int) : Rat) = rr at *
  generalize ((rtI h n : Int) : Rat) + 1 = r1 at *
  generalize ((rtI h n : Int) : Rat) / ((p2 n : Int) : Rat) = x1 at *
  generalize r1 / ((p2 n : Int) : Rat) = x2 at *
  generalize ((rtI h n : Int) : Rat) = rh at *
  generalize ((rtI l n : Int) : Rat) = rl at *
  generalize h * ((p2 n * p2 n : Int) : Rat) = mh at *
  generalize l * ((p2 n * p2 n : Int) : Rat) = ml at *
  generalize ((p2 n * p2 n : Int) : Rat) = qq at *
  generalize ((p2 n : Int) : Rat) = p at *
  exact walk (code := Tryz.f31.body.getD .skip) [c P, c PP, c M1, c R1, c PP, c M2, c R2, c Q, c C, eb e, c D1, c D2] fol Tryz.func31 (by kernel_rfl) (fun xs w => Tryz.call31 xs w) (by kernel_rfl)
end Go.Proofs.YtcbbcmiennjfhaaGreatDoor
set_option linter.unusedSimpArgs false
set_option linter.unusedVariables false
namespace Go.Proofs.YtcbbcmiennjfhaaGreatDoor
open Go Go.RowKit Go.Sy
open Vi
theorem isq_eq {X r : Nat} (h : IsRt X r) : isq X = r := sqrt_unique (isq_spec X).1 (isq_spec X).2 h.1 h.2
theorem k5a : minQ (minQ (minQ (((-2 : Int) : Rat) * ((-1 : Int) : Rat)) (((-2 : Int) : Rat) * ((4 : Int) : Rat))) (((3 : Int) : Rat) * ((-1 : Int) : Rat))) (((3 : Int) : Rat) * ((4 : Int) : Rat)) = ((-8 : Int) : Rat) := by decide +kernel
theorem k5b : maxQ (maxQ (maxQ (((-2 : Int) : Rat) * ((-1 : Int) : Rat)) (((-2 : Int) : Rat) * ((4 : Int) : Rat))) (((3 : Int) : Rat) * ((-1 : Int) : Rat))) (((3 : Int) : Rat) * ((4 : Int) : Rat)) = ((12 : Int) : Rat) := by decide +kernel
theorem k5c : sqLow ((-2 : Int) : Rat) ((3 : Int) : Rat) = ((0 : Int) : Rat) := by decide +kernel
theorem k5d : maxQ (((-2 : Int) : Rat) * ((-2 : Int) : Rat)) (((3 : Int) : Rat) * ((3 : Int) : Rat)) = ((9 : Int) : Rat) := by decide +kernel
theorem k5e : minQ (minQ (minQ (((1 : Int) : Rat) * (1 / ((-2 : Int) : Rat))) (((1 : Int) : Rat) * (1 / ((-4 : Int) : Rat)))) (((2 : Int) : Rat) * (1 / ((-2 : Int) : Rat)))) (((2 : Int) : Rat) * (1 / ((-4 : Int) : Rat))) = Rat.divInt (-1) 1 := by decide +kernel
theorem k5f : maxQ (maxQ (maxQ (((1 : Int) : Rat) * (1 / ((-2 : Int) : Rat))) (((1 : Int) : Rat) * (1 / ((-4 : Int) : Rat)))) (((2 : Int) : Rat) * (1 / ((-2 : Int) : Rat)))) (((2 : Int) : Rat) * (1 / ((-4 : Int) : Rat))) = Rat.divInt (-1) 4 := by decide +kernel
theorem k5g : gridQ ((2 : Int) : Rat) 3 = Rat.divInt 11 8 := by
 unfold gridQ rtI
 rw [show (((2 : Int) : Rat) * ((p2 3 * p2 3 : Int) : Rat)).floor.toNat = 128 by decide +kernel, isq_eq (X := 128) (r := 11) ⟨by decide, by decide⟩]
 decide +kernel
theorem k5h : highQ ((2 : Int) : Rat) 3 = Rat.divInt 3 2 := by
 unfold highQ
 rw [k5g, if_neg (by decide +kernel)]
 decide +kernel
theorem vKnown5 : Sp Tryz.prog 28 [] [] (.bool true) [] := by
 have b1 := vBound (-2) 3 (by omega) (by omega) (by omega) (by omega)
 have b2 := vBound (-1) 4 (by omega) (by omega) (by omega) (by omega)
 have b3 := vBound 1 2 (by omega) (by omega) (by omega) (by omega)
 have b4 := vBound (-4) (-2) (by omega) (by omega) (by omega) (by omega)
 have b5 := vBound 2 2 (by omega) (by omega) (by omega) (by omega)
 have b6 := vBound (-8) 12 (by omega) (by omega) (by omega) (by omega)
 have b7 := vBound 0 9 (by omega) (by omega) (by omega) (by omega)
 have i1 := int_hs (-2) 0 (by decide)
 have i2 := int_hs (-1) 0 (by decide)
 have i3 := int_hs 3 0 (by decide)
 have i4 := int_hs 4 0 (by decide)
 have i5 := int_hs 1 0 (by decide)
 have i6 := int_hs 2 0 (by decide)
 have i7 := int_hs (-4) 0 (by decide)
 have M := eMul ((-2 : Int) : Rat) ((3 : Int) : Rat) ((-1 : Int) : Rat) ((4 : Int) : Rat) (0 + 1) (by omega)
 rw [k5a, k5b] at M
 have S := eSquare ((-2 : Int) : Rat) ((3 : Int) : Rat) (0 + 1) (by omega)
 rw [k5c, k5d] at S
 have D := eDiv ((1 : Int) : Rat) ((2 : Int) : Rat) ((-4 : Int) : Rat) ((-2 : Int) : Rat) (0 + 1) (by omega) (by decide +kernel) (by decide +kernel) (by decide +kernel)
 rw [k5e, k5f] at D
 haveI j6 : HasSz ((2 : Int) : Rat) 40 := hs_mono i6 (by omega)
 have R := eSqrt ((2 : Int) : Rat) ((2 : Int) : Rat) 3 (by omega) (by decide +kernel) (by decide +kernel)
 rw [k5g, k5h] at R
 have O1 := rOf (-1) 1 (by omega) (by omega) (by omega) (by omega) (by omega)
 have O2 := rOf (-1) 4 (by omega) (by omega) (by omega) (by omega) (by omega)
 have O3 := rOf 11 8 (by omega) (by omega) (by omega) (by omega) (by omega)
 have O4 := rOf 3 2 (by omega) (by omega) (by omega) (by omega) (by omega)
 clear i1 i2 i3 i4 i5 i6 i7 j6
 generalize Rat.divInt (-1) 1 = q1 at *
 generalize Rat.divInt (-1) 4 = q2 at *
 generalize Rat.divInt 11 8 = q3 at *
 generalize Rat.divInt 3 2 = q4 at *
 generalize ((-2 : Int) : Rat) = r1 at *
 generalize ((-1 : Int) : Rat) = r2 at *
 generalize ((3 : Int) : Rat) = r3 at *
 generalize ((4 : Int) : Rat) = r4 at *
 generalize ((1 : Int) : Rat) = r5 at *
 generalize ((2 : Int) : Rat) = r6 at *
 generalize ((-4 : Int) : Rat) = r7 at *
 generalize ((-8 : Int) : Rat) = r8 at *
 generalize ((12 : Int) : Rat) = r9 at *
 generalize ((0 : Int) : Rat) = r10 at *
 generalize ((9 : Int) : Rat) = r11 at *
 exact walk (code := Tryz.f28.body.getD .skip) [c b1, c b2, c M, c b3, c b4, c D, c b5, c R, c b6, x2 (sameO r8 r9), c b1, c S, c b7, x2 (sameO r10 r11), c O1, x2 (same q1), c O2, x2 (same q2), c O3, x2 (same q3), c O4, x2 (same q4)] fol Tryz.func28 (by kernel_rfl) (fun xs w => Tryz.call28 xs w) (by kernel_rfl)
def PairOk (n1 d1 n2 d2 : Int) : Prop := (-2147483648 ≤ n1 ∧ n1 ≤ 2147483647) ∧ (0 ≤ d1 ∧ d1 ≤ 65535) ∧ (-2147483648 ≤ n2 ∧ n2 ≤ 2147483647) ∧ (0 ≤ d2 ∧ d2 ≤ 65535)
def pairV (n1 d1 n2 d2 : Int) : Value := .agg #[.int .i32 n1, .int .u16 d1, .int .i32 n2, .int .u16 d2]
theorem EnclosureRoots_s (n1 d1 n2 d2 b : Int) (h : PairOk n1 d1 n2 d2) (b1 : -9223372036854775808 ≤ b) (b2 : b ≤ 9223372036854775807) : Sp Tryz.prog 5 [] [pairV n1 d1 n2 d2, nV b] (.bool true) [] := by
 obtain ⟨x, y, sx, sy, hxy, kp⟩ := vPair n1 d1 n2 d2 h.1 h.2.1 h.2.2.1 h.2.2.2
 have K := vKnown5
 have G := rSign x
 unfold pairV
 by_cases h1 : b < 0
 ·have S := eSqrtNo x y b (.inl h1)
  have e1 : decide (b < 0) = true := decide_eq_true h1
  exact walk (code := Tryz.f5.body.getD .skip) [c kp, c S, c K, L, eb e1, c K, L, x2 binOZ] fol Tryz.func5 (by kernel_rfl) (fun xs w => Tryz.call5 xs w) (by kernel_rfl)
 ·have e1 : decide (b < 0) = false := decide_eq_false h1
  by_cases h2 : b > 128
  ·have S := eSqrtNo x y b (.inr (.inl h2))
   have e2 : decide (b > 128) = true := decide_eq_true h2
   exact walk (code := Tryz.f5.body.getD .skip) [c kp, c S, c K, L, eb e1, eb e2, c K, L, x2 binOZ] fol Tryz.func5 (by kernel_rfl) (fun xs w => Tryz.call5 xs w) (by kernel_rfl)
  ·have e2 : decide (b > 128) = false := decide_eq_false h2
   obtain ⟨n, rfl⟩ : ∃ n : Nat, b = (n : Int) := ⟨b.toNat, by omega⟩
   rcases sgn_cases x with ⟨g1, g2⟩ | ⟨g1, g2⟩ | ⟨g1, g2⟩ <;> rw [g1] at G
   ·have S := eSqrtNo x y n (.inr (.inr g2))
    exact walk (code := Tryz.f5.body.getD .skip) [c kp, c S, c K, L, eb e1, eb e2, c G, c K, L, x2 binOZ] fol Tryz.func5 (by kernel_rfl) (fun xs w => Tryz.call5 xs w) (by kernel_rfl)
   ·haveI := hs_mono sx (show 4 ≤ 40 by omega)
    haveI := hs_mono sy (show 4 ≤ 40 by omega)
    have S := eSqrt x y n (by omega) (by rw [g2]; exact Rat.le_refl) (by rw [← g2]; exact hxy)
    have T := fSqrt x y n (by omega) (by rw [g2]; exact Rat.le_refl) (by rw [← g2]; exact hxy)
    generalize gridQ x n = u at *
    generalize highQ y n = v at *
    exact walk (code := Tryz.f5.body.getD .skip) [c kp, c S, c K, L, eb e1, eb e2, c G, c (vLow x y), c T, c (vSame u v)] fol Tryz.func5 (by kernel_rfl) (fun xs w => Tryz.call5 xs w) (by kernel_rfl)
   ·haveI := hs_mono sx (show 4 ≤ 40 by omega)
    haveI := hs_mono sy (show 4 ≤ 40 by omega)
    have S := eSqrt x y n (by omega) (Rat.le_of_lt g2) (Rat.le_trans (Rat.le_of_lt g2) hxy)
    have T := fSqrt x y n (by omega) (Rat.le_of_lt g2) (Rat.le_trans (Rat.le_of_lt g2) hxy)
    generalize gridQ x n = u at *
    generalize highQ y n = v at *
    exact walk (code := Tryz.f5.body.getD .skip) [c kp, c S, c K, L, eb e1, eb e2, c G, c (vLow x y), c T, c (vSame u v)] fol Tryz.func5 (by kernel_rfl) (fun xs w => Tryz.call5 xs w) (by kernel_rfl)
end Go.Proofs.YtcbbcmiennjfhaaGreatDoor
