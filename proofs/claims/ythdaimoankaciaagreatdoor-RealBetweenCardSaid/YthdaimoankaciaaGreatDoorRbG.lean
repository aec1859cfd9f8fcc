/- Part 7 of the proof; what it holds is said text by text. -/
import Derived.Test.YthdaimoankaciaaGreatDoorRbB
import Derived.Test.YthdaimoankaciaaGreatDoorRbC
import Derived.Test.YthdaimoankaciaaGreatDoorRbD
import Derived.Test.YthdaimoankaciaaGreatDoorRbF
import Derived.Test.YthdaimoankaciaaGreatDoorRbE
import Derived.Test.YthdaimoankaciaaGreatDoorRbA
import Derived.Deep.DeepCutAuto
import Derived.Deep.CutBlock
section
/- Contracts for the reckoner: integers; digits as rows. -/
set_option linter.unusedSimpArgs false
set_option linter.unusedVariables false
namespace Go.Proofs.YthdaimoankaciaaGreatDoor
open Go Go.RowKit Go.Sy
open Vi
theorem fol : Tryz.prog.follows .mixedOrders = true := by kernel_rfl
def iV (x : Int) : Value := .agg #[.bool (sg x), .string (mg x)]
def nV (n : Int) : Value := .int .i64 n
def rV (q : Rat) : Value := .agg #[.bool (sg q.num), .string (mg q.num), .bool (sg (dn q)), .string (mg (dn q))]
def rD (x : Nat) : Nat × List Value := (nd 256 x, dvals x (nd 256 x))
theorem row_of_DT {w : World} {v : Value} {x : Nat} (h : DT w v x) : RowW w v (rD x).1 (rD x).2 := by
 refine ⟨fun c hc => ?_, ?_⟩
 ·obtain ⟨i, _, rfl⟩ := List.mem_map.1 hc
  exact ⟨rfl, rfl⟩
 rcases h.2 with ⟨h1, h2⟩ | ⟨g, c, rfl, hc, hm, hg, hcell⟩
 ·refine .inl ⟨h1, h2, ?_⟩
  show dvals x (nd 256 x) = []
  rw [h2]; rfl
 ·refine .inr ⟨g, c, rfl, hc, hm, hg, ?_⟩
  by_cases h0 : nd 256 x = 0
  ·left
   show dvals x (nd 256 x) = []
   rw [h0]; rfl
  ·right
   have h1 := hcell 0 (by omega)
   cases ho : w.heap[g]? with
   | none => unfold World.cell? at h1; rw [ho] at h1; cases h1
   | some ob =>
    cases ob <;> first
     | (unfold World.cell? at h1; rw [ho] at h1; cases h1; done)
     | skip
    rename_i cs ty fz
    refine ⟨cs, ty, fz, rfl, ?_⟩
    apply List.ext_getElem?
    intro i
    show (cs.toList.take (dvals x (nd 256 x)).length)[i]? = (dvals x (nd 256 x))[i]?
    rw [dvals_length]
    by_cases hi : i < nd 256 x
    ·have h2 := hcell i hi
     unfold World.cell? at h2
     rw [ho] at h2
     rw [List.getElem?_take_of_lt hi, Array.getElem?_toList]
     simp only [Option.isSome_none, Bool.false_eq_true, if_false] at h2
     rw [h2]
     unfold dvals
     simp [hi]
    ·rw [List.getElem?_eq_none (by rw [List.length_take]; omega), List.getElem?_eq_none (by rw [dvals_length]; omega)]
theorem DT_of_row {w : World} {v : Value} {x : Nat} (h : RowW w v (rD x).1 (rD x).2) : DT w v x := by
 refine ⟨lt_pow_nd 256 (by omega) x, ?_⟩
 rcases h.2 with ⟨h1, h2, _⟩ | ⟨g, c, rfl, hc, hm, hg, h⟩
 ·exact .inl ⟨h1, h2⟩
 ·refine .inr ⟨g, c, rfl, hc, hm, hg, fun i hi => ?_⟩
  rcases h with h | ⟨cs, ty, fz, h1, h2⟩
  ·have := congrArg List.length h
   rw [show (rD x).2 = dvals x (nd 256 x) from rfl, dvals_length] at this
   simp at this; omega
  ·unfold World.cell?
   rw [h1]
   simp only [Option.isSome_none, Bool.false_eq_true, if_false]
   have h3 : (cs.toList.take (rD x).2.length)[i]? = (rD x).2[i]? := by rw [h2]
   rw [show (rD x).2 = dvals x (nd 256 x) from rfl, dvals_length, List.getElem?_take_of_lt hi] at h3
   rw [Array.getElem?_toList] at h3
   rw [h3]
   unfold dvals
   simp [hi]
theorem loc_own {v : Value} {cells : List Value} {b : Nat} (h : Sy.Loc v cells b) : v.ownBlock = some b := by
 obtain ⟨_, a, n, c, rfl, rfl⟩ := h
 rfl
section
variable {f : FuncId}
theorem Sp.d0 {args : List Value} {z : Nat} (hen : ∀ xs w, (callFunc f xs).run Tryz.prog w = .ok (.enter f xs) w) (ha : args.all plain = true)
    (h : ∀ w, Calls Tryz.prog f ⟨args⟩ w fun e w' => ∃ v, e = .returned v ∧ DT w' v z ∧ (∀ k, v.ownBlock = some k → w.heap.size ≤ k) ∧ Below w.heap.size w w') : Sp Tryz.prog f [] args (row 0 (nd 256 z)) [rD z] := by
 rw [List.all_eq_true] at ha
 refine ⟨hen, fun r w _ _ => ?_⟩
 have e : args.map (den r) = args := by
  conv => rhs; rw [← List.map_id args]
  exact List.map_congr_left fun x hx => den_plain (ha x hx)
 rw [e]
 refine (h w).mono fun e w' ⟨v, h1, h2, h3, h4⟩ => ⟨fun _ => v, fun i hi => (by cases hi), h1, h4, fun j q hq => ?_⟩
 cases j with
 | zero =>
  simp only [List.getElem?_cons_zero, Option.some.injEq] at hq
  subst hq
  exact ⟨row_of_DT h2, fun b hb => .inl (h3 b (loc_own hb))⟩
 | succ j => simp at hq
theorem two {x y : Nat} {w : World} {r : Nat → Value} (hr : ∀ (i : Nat) (q : Nat × List Value), [rD x, rD y][i]? = some q → RowW w (r i) q.1 q.2) : DT w (r 0) x ∧ DT w (r 1) y :=
 ⟨DT_of_row (hr 0 _ rfl), DT_of_row (hr 1 _ rfl)⟩
theorem Sp.d2 {x y z : Nat} (hen : ∀ xs w, (callFunc f xs).run Tryz.prog w = .ok (.enter f xs) w)
    (h : ∀ v1 v2 w, DT w v1 x → DT w v2 y → Calls Tryz.prog f #[v1, v2] w fun e w' => ∃ v, e = .returned v ∧ DT w' v z ∧ (∀ k, v.ownBlock = some k → w.heap.size ≤ k) ∧ Below w.heap.size w w') :
    Sp Tryz.prog f [rD x, rD y] [row 0 (nd 256 x), row 1 (nd 256 y)] (row 2 (nd 256 z)) [rD z] := by
 refine ⟨hen, fun r w _ hr => ?_⟩
 obtain ⟨h1, h2⟩ := two hr
 refine (h (r 0) (r 1) w h1 h2).mono fun e w' ⟨v, h1, h2, h3, h4⟩ => ⟨fun k => if k < 2 then r k else v, fun i hi => if_pos hi, h1, h4, fun j q hq => ?_⟩
 cases j with
 | zero =>
  simp only [List.getElem?_cons_zero, Option.some.injEq] at hq
  subst hq
  exact ⟨row_of_DT h2, fun b hb => .inl (h3 b (loc_own hb))⟩
 | succ j => simp at hq
theorem Sp.v2 {x y : Nat} {v : Value} (hv : plain v = true) (hen : ∀ xs w, (callFunc f xs).run Tryz.prog w = .ok (.enter f xs) w)
    (h : ∀ v1 v2 w, DT w v1 x → DT w v2 y → Calls Tryz.prog f #[v1, v2] w fun e w' => e = .returned v ∧ Below w.heap.size w w') : Sp Tryz.prog f [rD x, rD y] [row 0 (nd 256 x), row 1 (nd 256 y)] v [] := by
 refine ⟨hen, fun r w _ hr => ?_⟩
 obtain ⟨h1, h2⟩ := two hr
 exact (h (r 0) (r 1) w h1 h2).mono fun e w' ⟨h1, h4⟩ => ⟨r, fun i hi => rfl, by rw [den_plain hv]; exact h1, h4, fun j q hq => by simp at hq⟩
theorem Sp.v1 {x : Nat} {v : Value} {l : List Value} (hl : l.all plain = true) (hv : plain v = true) (hen : ∀ xs w, (callFunc f xs).run Tryz.prog w = .ok (.enter f xs) w)
    (h : ∀ v1 w, DT w v1 x → Calls Tryz.prog f ⟨v1 :: l⟩ w fun e w' => e = .returned v ∧ Below w.heap.size w w') : Sp Tryz.prog f [rD x] (row 0 (nd 256 x) :: l) v [] := by
 rw [List.all_eq_true] at hl
 refine ⟨hen, fun r w _ hr => ?_⟩
 have e : l.map (den r) = l := by
  conv => rhs; rw [← List.map_id l]
  exact List.map_congr_left fun x hx => den_plain (hl x hx)
 rw [List.map_cons, e]
 exact (h (r 0) w (DT_of_row (hr 0 _ rfl))).mono fun e w' ⟨h1, h4⟩ => ⟨r, fun i hi => rfl, by rw [den_plain hv]; exact h1, h4, fun j q hq => by simp at hq⟩
theorem Sp.dd {x y q0 r0 : Nat} (hen : ∀ xs w, (callFunc f xs).run Tryz.prog w = .ok (.enter f xs) w)
    (h : ∀ v1 v2 w, DT w v1 x → DT w v2 y → Calls Tryz.prog f #[v1, v2] w fun e w' => ∃ v, e = .returned v ∧ PTF w.heap.size w' v q0 r0 ∧ Below w.heap.size w w') :
    Sp Tryz.prog f [rD x, rD y] [row 0 (nd 256 x), row 1 (nd 256 y)] (.tuple #[row 2 (nd 256 q0), row 3 (nd 256 r0)]) [rD q0, rD r0] := by
 refine ⟨hen, fun r w _ hr => ?_⟩
 obtain ⟨h1, h2⟩ := two hr
 refine (h (r 0) (r 1) w h1 h2).mono fun e w' ⟨v, h1, ⟨vq, vr, e1, d1, d2, l1, l2⟩, h4⟩ => ⟨fun k => if k < 2 then r k else if k = 2 then vq else vr, fun i hi => if_pos hi, by rw [h1, e1]; rfl, h4, fun j q hq => ?_⟩
 cases j with
 | zero =>
  simp only [List.getElem?_cons_zero, Option.some.injEq] at hq
  subst hq
  exact ⟨row_of_DT d1, fun b hb => .inl (l1 b (loc_own hb))⟩
 | succ j =>
  cases j with
  | zero =>
   simp only [List.getElem?_cons_succ, List.getElem?_cons_zero, Option.some.injEq] at hq
   subst hq
   exact ⟨row_of_DT d2, fun b hb => .inl (l2 b (loc_own hb))⟩
  | succ j => simp at hq
end
theorem iFromInt (n : Int) (h1 : -9223372036854775808 ≤ n) (h2 : n ≤ 9223372036854775807) : Sp Tryz.prog 110 [] [nV n] (iV n) [] := Sp.of (fun xs w => Tryz.call110 xs w) (by kernel_rfl) (by kernel_rfl) (fun w => FromInt_c n w h1 h2)
theorem iSign (x : Int) : Sp Tryz.prog 136 [] [iV x] (nV (cmpI x 0)) [] := Sp.of (fun xs w => Tryz.call136 xs w) (by kernel_rfl) (by kernel_rfl) (fun w => Sign_c x w)
theorem iCompare (x y : Int) (hx : (mg x).size ≤ 4294967296) (hy : (mg y).size ≤ 4294967296) : Sp Tryz.prog 161 [] [iV x, iV y] (nV (cmpI x y)) [] := Sp.of (fun xs w => Tryz.call161 xs w) (by kernel_rfl) (by kernel_rfl) (fun w => Compare_c x y w hx hy)
theorem iNegate (x : Int) : Sp Tryz.prog 116 [] [iV x] (iV (-x)) [] := Sp.of (fun xs w => Tryz.call116 xs w) (by kernel_rfl) (by kernel_rfl) (fun w => Negate_c x w)
theorem iMul (x y : Int) (hx : (mg x).size ≤ 4294967296) (hy : (mg y).size ≤ 4294967296) : Sp Tryz.prog 107 [] [iV x, iV y] (iV (x * y)) [] := Sp.of (fun xs w => Tryz.call107 xs w) (by kernel_rfl) (by kernel_rfl) (fun w => Mul_c x y w hx hy)
theorem iAdd (x y : Int) (hx : (mg x).size ≤ 4294967296) (hy : (mg y).size ≤ 4294967296) : Sp Tryz.prog 109 [] [iV x, iV y] (iV (x + y)) [] := Sp.of (fun xs w => Tryz.call109 xs w) (by kernel_rfl) (by kernel_rfl) (fun w => Add_c x y w hx hy)
theorem iDivMod (x y : Int) (hy : y ≠ 0) (sx : (mg x).size ≤ 4294967295) (sy : (mg y).size ≤ 4294967296) : Sp Tryz.prog 111 [] [iV x, iV y] (.tuple #[iV (x / y), iV (x % y), nV 0]) [] := Sp.of (fun xs w => Tryz.call111 xs w) (by kernel_rfl) (by kernel_rfl) (fun w => DivMod_c x y w hy sx sy)
theorem iGcd (a b : Int) (ha : (mg a).size ≤ 4294967290) (hb : (mg b).size ≤ 4294967290) : Sp Tryz.prog 162 [] [iV a, iV b] (iV (Nat.gcd a.natAbs b.natAbs : Nat)) [] := Sp.of (fun xs w => Tryz.call162 xs w) (by kernel_rfl) (by kernel_rfl) (fun w => Gcd_c a b _ rfl w ha hb)
theorem dDigits (b : Bool) (s : ByteArray) (hs : s.size ≤ 4294967296) : Sp Tryz.prog 101 [] [.agg #[.bool b, .string s]] (row 0 (nd 256 (num s))) [rD (num s)] := Sp.d0 (fun xs w => Tryz.call101 xs w) (by kernel_rfl) fun w => sdigitsF_c b s w hs
theorem dLarge (X : Nat) (h : X < 9223372036854775808) : Sp Tryz.prog 173 [] [nV X] (row 0 (nd 256 X)) [rD X] := Sp.d0 (fun xs w => Tryz.call173 xs w) (by kernel_rfl) fun w => slargeF_c X w h
theorem dPlus (x y : Nat) (hx : nd 256 x ≤ 4294967296) (hy : nd 256 y ≤ 4294967296) : Sp Tryz.prog 139 [rD x, rD y] [row 0 (nd 256 x), row 1 (nd 256 y)] (row 2 (nd 256 (x + y))) [rD (x + y)] := Sp.d2 (fun xs w => Tryz.call139 xs w) fun v1 v2 w h1 h2 => splusF_c v1 v2 x y _ rfl w h1 h2 hx hy
theorem dMinus (x y : Nat) (hle : y ≤ x) (hx : nd 256 x ≤ 4294967296) (hy : nd 256 y ≤ 4294967296) : Sp Tryz.prog 141 [rD x, rD y] [row 0 (nd 256 x), row 1 (nd 256 y)] (row 2 (nd 256 (x - y))) [rD (x - y)] := Sp.d2 (fun xs w => Tryz.call141 xs w) fun v1 v2 w h1 h2 => sminusF_c v1 v2 x y _ rfl hle w h1 h2 hx hy
theorem dTimes (x y : Nat) (hx : nd 256 x ≤ 4294967290) (hy : nd 256 y ≤ 4294967290) : Sp Tryz.prog 138 [rD x, rD y] [row 0 (nd 256 x), row 1 (nd 256 y)] (row 2 (nd 256 (x * y))) [rD (x * y)] := Sp.d2 (fun xs w => Tryz.call138 xs w) fun v1 v2 w h1 h2 => stimesF_c v1 v2 x y _ rfl w h1 h2 hx hy
theorem dCompare (x y : Nat) (hx : nd 256 x ≤ 8589934592) (hy : nd 256 y ≤ 8589934592) : Sp Tryz.prog 140 [rD x, rD y] [row 0 (nd 256 x), row 1 (nd 256 y)] (nV (cmpN x y)) [] := Sp.v2 rfl (fun xs w => Tryz.call140 xs w) fun v1 v2 w h1 h2 => scompare_c v1 v2 x y w h1 h2 hx hy
theorem dWhole (neg : Bool) (x : Nat) (hx : nd 256 x ≤ 8589934592) : Sp Tryz.prog 145 [rD x] [row 0 (nd 256 x), .bool neg] (iV (if neg then -(x : Int) else x)) [] := Sp.v1 (l := [.bool neg]) rfl rfl (fun xs w => Tryz.call145 xs w) fun v w h => swhole_c neg v _ x _ rfl w h hx
theorem dWhole0 (neg : Bool) : Sp Tryz.prog 145 [] [.slice none 0 0, .bool neg] (iV 0) [] := Sp.of (fun xs w => Tryz.call145 xs w) (by kernel_rfl) (by kernel_rfl) (fun w => swhole_c neg _ 0 0 0 (by cases neg <;> rfl) w ⟨by omega, .inl ⟨rfl, rfl⟩⟩ (by omega))
theorem dSmall (x : Nat) (hx : nd 256 x ≤ 7) : Sp Tryz.prog 170 [rD x] [row 0 (nd 256 x)] (.tuple #[nV x, .bool true]) [] := Sp.v1 (l := []) rfl rfl (fun xs w => Tryz.call170 xs w) fun v w h => (ssmall_c v x w h hx).mono fun e w' ⟨h1, h2⟩ => ⟨h1, h2 ▸ Below.refl _ _⟩
theorem dSmallBig (x : Nat) (hx : 7 < nd 256 x) : Sp Tryz.prog 170 [rD x] [row 0 (nd 256 x)] (.tuple #[nV 0, .bool false]) [] := Sp.v1 (l := []) rfl rfl (fun xs w => Tryz.call170 xs w) fun v w h => (ssmall_big v x w h hx).mono fun e w' ⟨h1, h2⟩ => ⟨h1, h2 ▸ Below.refl _ _⟩
end Go.Proofs.YthdaimoankaciaaGreatDoor
set_option linter.unusedSimpArgs false
set_option linter.unusedVariables false
namespace Go.Proofs.YthdaimoankaciaaGreatDoor
open Go Go.RowKit Go.Sy
open Vi
theorem w64 {z : Int} (h1 : -9223372036854775808 ≤ z) (h2 : z ≤ 9223372036854775807) : IntKind.i64.wrap z = z := IntWalk.i64_in z ⟨h1, h2⟩
theorem bin_quo (x y : Nat) (hx : x < 9223372036854775808) (hy : 0 < y) : ∀ ox oy w, ((do eqGuard .quo 3 ox oy (nV x) (nV y); binOp .quo 3 (nV x) (nV y) : Sem Value)).run Tryz.prog w = .ok (nV (x / y : Nat)) w := by
 intro ox oy w
 have e : (y : Int) ≠ 0 := by omega
 have h1 : x / y ≤ x := Nat.div_le_self _ _
 show (Op.intDiv .quo .i64 (x : Int) (y : Int)).run Tryz.prog w = _
 unfold Op.intDiv
 rw [if_neg e]
 show Result.ok (Value.int .i64 (IntKind.i64.wrap ((x : Int).tdiv (y : Int)))) w = _
 rw [Int.tdiv_eq_ediv_of_nonneg (by omega), ← Int.natCast_ediv]
 obtain ⟨q, hq⟩ : ∃ q, q = x / y := ⟨_, rfl⟩
 rw [← hq] at h1 ⊢
 rw [w64 (by omega) (by omega)]
 rfl
theorem bin_rem (x y : Nat) (hx : x < 9223372036854775808) (hy : 0 < y) : ∀ ox oy w, ((do eqGuard .rem 3 ox oy (nV x) (nV y); binOp .rem 3 (nV x) (nV y) : Sem Value)).run Tryz.prog w = .ok (nV (x % y : Nat)) w := by
 intro ox oy w
 have e : (y : Int) ≠ 0 := by omega
 show (Op.intDiv .rem .i64 (x : Int) (y : Int)).run Tryz.prog w = _
 unfold Op.intDiv
 rw [if_neg e]
 show Result.ok (Value.int .i64 ((x : Int).tmod (y : Int))) w = _
 rw [Int.tmod_eq_emod_of_nonneg (by omega), ← Int.natCast_emod]
 rfl
theorem pow7 {x : Nat} (h : nd 256 x ≤ 7) : x < 9223372036854775808 := by
 have := lt_pow_nd 256 (by omega) x
 have h2 := Nat.pow_le_pow_right (show 0 < 256 by omega) h
 have h3 : 256 ^ 7 < 9223372036854775808 := by decide
 omega
theorem divSmall (x y : Nat) (hy : 0 < y) (hx7 : nd 256 x ≤ 7) (hy7 : nd 256 y ≤ 7) : Sp Tryz.prog 143 [rD x, rD y] [row 0 (nd 256 x), row 1 (nd 256 y)] (.tuple #[row 2 (nd 256 (x / y)), row 3 (nd 256 (x % y))]) [rD (x / y), rD (x % y)] := by
 have h := pow7 hx7
 have h1 : x / y ≤ x := Nat.div_le_self _ _
 have h2 : x % y ≤ x := Nat.mod_le _ _
 exact walk (code := Tryz.f143.body.getD .skip) [cr (dSmall x hx7), cr (dSmall y hy7), eb (show decide ((y : Int) > 0) = true by simpa using hy), x2 (bin_quo x y h hy), cr (dLarge (x / y) (by omega)), x2 (bin_rem x y h hy), cr (dLarge (x % y) (by omega))] fol Tryz.func143 (by kernel_rfl) (fun xs w => Tryz.call143 xs w) (by kernel_rfl)
theorem divLess (x y : Nat) (hlt : x < y) (hx : nd 256 x ≤ 1048576) (hy : nd 256 y ≤ 1048576) (hbig : 7 < nd 256 x ∨ 7 < nd 256 y) : Sp Tryz.prog 143 [rD x, rD y] [row 0 (nd 256 x), row 1 (nd 256 y)] (.tuple #[.slice none 0 0, row 2 (nd 256 x)]) [rD x] := by
 have hc : decide (cmpN x y < 0) = true := by unfold cmpN; rw [if_pos hlt]; rfl
 by_cases h7 : 7 < nd 256 x
 ·by_cases h8 : 7 < nd 256 y
  ·exact walk (code := Tryz.f143.body.getD .skip) [cr (dSmallBig x h7), cr (dSmallBig y h8), cr (dCompare x y (by omega) (by omega)), eb hc] fol Tryz.func143 (by kernel_rfl) (fun xs w => Tryz.call143 xs w) (by kernel_rfl)
  ·exact walk (code := Tryz.f143.body.getD .skip) [cr (dSmallBig x h7), cr (dSmall y (by omega)), cr (dCompare x y (by omega) (by omega)), eb hc] fol Tryz.func143 (by kernel_rfl) (fun xs w => Tryz.call143 xs w) (by kernel_rfl)
 ·exact walk (code := Tryz.f143.body.getD .skip) [cr (dSmall x (by omega)), cr (dSmallBig y (by omega)), cr (dCompare x y (by omega) (by omega)), eb hc] fol Tryz.func143 (by kernel_rfl) (fun xs w => Tryz.call143 xs w) (by kernel_rfl)
theorem nil_row {f : FuncId} {rows : List (Nat × List Value)} {args : List Value} {n : Nat} {q : Nat × List Value} {m : Nat} (hm : rows.length = m) (h : Sp Tryz.prog f rows args (.tuple #[.slice none 0 0, row m n]) [q]) : Sp Tryz.prog f rows args (.tuple #[row m 0, row (m + 1) n]) [(0, []), q] := by
 refine ⟨h.1, fun r w hw hr => (h.2 r w hw hr).mono fun e w' ⟨r', h1, h2, h3, h4⟩ => ⟨fun k => if k < m then r' k else if k = m then .slice none 0 0 else r' m, fun i hi => (if_pos (by omega)).trans (h1 i hi), ?_, h3, fun j q' hq => ?_⟩⟩
 ·rw [h2]
  show Ending.returned (.tuple #[.slice none 0 0, r' m]) = .returned (.tuple #[(if m < m then r' m else if m = m then .slice none 0 0 else r' m), (if m + 1 < m then r' (m + 1) else if m + 1 = m then .slice none 0 0 else r' m)])
  rw [if_neg (by omega), if_pos rfl, if_neg (by omega), if_neg (by omega)]
 ·cases j with
  | zero =>
   simp only [List.getElem?_cons_zero, Option.some.injEq] at hq
   subst hq
   show RowW w' (if rows.length + 0 < m then _ else if rows.length + 0 = m then _ else _) _ _ ∧ ∀ b, Sy.Loc (if rows.length + 0 < m then _ else if rows.length + 0 = m then _ else _) _ b → _
   rw [if_neg (by omega), if_pos (by omega)]
   exact ⟨⟨fun x hx => (by cases hx), .inl ⟨rfl, rfl, rfl⟩⟩, fun b hb => absurd rfl hb.1⟩
  | succ j =>
   cases j with
   | zero =>
    have := h4 0 q' (by simpa using hq)
    rw [hm, Nat.add_zero] at this
    show RowW w' (if rows.length + 1 < m then _ else if rows.length + 1 = m then _ else _) _ _ ∧ ∀ b, Sy.Loc (if rows.length + 1 < m then _ else if rows.length + 1 = m then _ else _) _ b → _
    rw [if_neg (by omega), if_neg (by omega)]
    exact this
   | succ j => simp at hq
theorem dDivide (x y : Nat) (hy0 : 0 < y) (hx : nd 256 x ≤ 1048576) (hy : nd 256 y ≤ 1048576) : Sp Tryz.prog 143 [rD x, rD y] [row 0 (nd 256 x), row 1 (nd 256 y)] (.tuple #[row 2 (nd 256 (x / y)), row 3 (nd 256 (x % y))]) [rD (x / y), rD (x % y)] := by
 by_cases hs : nd 256 x ≤ 7 ∧ nd 256 y ≤ 7
 ·exact divSmall x y hy0 hs.1 hs.2
 ·by_cases hlt : x < y
  ·have := nil_row rfl (divLess x y hlt hx hy (by omega))
   rw [Nat.div_eq_of_lt hlt, Nat.mod_eq_of_lt hlt]
   have e : rD 0 = (0, []) := by unfold rD; rw [nd_zero]; rfl
   rw [e, nd_zero]
   exact this
  ·have hm := nd_mono 256 (by omega) y x (by omega)
   exact Sp.dd (fun xs w => Tryz.call143 xs w) fun v1 v2 w h1 h2 => sdivide_big v1 v2 x y _ _ rfl rfl hy0 (by omega) (by omega) w h1 h2 hx
def stC (x y : Nat) : St := ⟨19, 2, [(0, row 2 (nd 256 x)), (1, row 3 (nd 256 y))], junk, [(2, rws (rD x).1 (rD x).2), (3, rws (rD y).1 (rD y).2)], 4⟩
def stC1 (g : Nat) : St := ⟨19, 2, [(0, row 2 (nd 256 g))], junk, [(2, rws (rD g).1 (rD g).2)], 4⟩
theorem common_loop : ∀ (y x : Nat), nd 256 x ≤ 1048576 → nd 256 y ≤ 1048576 → RoundsOk Tryz.prog (nthLoop 0 (Tryz.f100.body.getD .skip)) (stC x y) (.exit 0) (stC1 (Nat.gcd y x)) := by
 intro y
 induction y using Nat.strongRecOn with
 | _ y ih =>
  intro x hx hy
  by_cases h0 : y = 0
  ·have e : decide ((nd 256 y : Int) > 0) = false := by rw [h0, nd_zero]; rfl
   have e2 : Nat.gcd y x = x := by rw [h0, Nat.gcd_zero_left]
   rw [e2]
   exact .out (by simp) (piece [(2, 2)] [eb e] fol (by kernel_rfl))
  ·have e : decide ((nd 256 y : Int) > 0) = true := by
     have := nd_pos 256 (by omega) y (by omega)
     simpa using this
   have hlt := Nat.mod_lt x (show 0 < y by omega)
   have := ih (x % y) hlt y hy (Nat.le_trans (nd_mono 256 (by omega) _ y (by omega)) hy)
   rw [← Nat.gcd_rec] at this
   exact .more (piece [(2, 3), (3, 5)] [eb e, cr (dDivide x y (by omega) hx hy)] fol (by kernel_rfl)) this
theorem dCommon (x y : Nat) (hx : nd 256 x ≤ 1048576) (hy : nd 256 y ≤ 1048576) : Sp Tryz.prog 100 [rD x, rD y] [row 0 (nd 256 x), row 1 (nd 256 y)] (row 2 (nd 256 (Nat.gcd y x))) [rD (Nat.gcd y x)] :=
 walk (code := Tryz.f100.body.getD .skip) [lp [(2, 0), (3, 1)] (common_loop y x hx hy).loop] fol Tryz.func100 (by kernel_rfl) (fun xs w => Tryz.call100 xs w) (by kernel_rfl)
theorem num_mg (x : Int) : num (mg x) = x.natAbs := num_mag _
theorem dDig (x : Int) (h : (mg x).size ≤ 4294967296) : Sp Tryz.prog 101 [] [iV x] (row 0 (nd 256 x.natAbs)) [rD x.natAbs] := by
 have := dDigits (sg x) (mg x) h
 rwa [num_mg] at this
end Go.Proofs.YthdaimoankaciaaGreatDoor
set_option linter.unusedSimpArgs false
set_option linter.unusedVariables false
namespace Go.Proofs.YthdaimoankaciaaGreatDoor
open Go Go.RowKit Go.Sy
open Vi
theorem nd_mul (x y : Nat) : nd 256 (x * y) ≤ nd 256 x + nd 256 y := by
 apply nd_le 256 (by omega)
 rw [Nat.pow_add]
 exact Nat.mul_lt_mul_of_lt_of_lt (lt_pow_nd 256 (by omega) x) (lt_pow_nd 256 (by omega) y)
theorem nd_add (x y : Nat) : nd 256 (x + y) ≤ nd 256 x + nd 256 y + 1 := by
 apply nd_le 256 (by omega)
 have h1 := lt_pow_nd 256 (by omega) x
 have h2 := lt_pow_nd 256 (by omega) y
 have h3 := Nat.pow_le_pow_right (show 0 < 256 by omega) (show nd 256 x ≤ nd 256 x + nd 256 y by omega)
 have h4 := Nat.pow_le_pow_right (show 0 < 256 by omega) (show nd 256 y ≤ nd 256 x + nd 256 y by omega)
 rw [Nat.pow_succ]; omega
def Fits (q : Rat) : Prop := nd 256 q.num.natAbs ≤ 131000 ∧ nd 256 q.den ≤ 131000
theorem _root_.Vi.Sz.fits {k : Nat} {q : Rat} (h : Sz k q) (hk : k ≤ 131000) : Fits q := ⟨Nat.le_trans (nd_le 256 (by omega) _ k h.1) hk, Nat.le_trans (nd_le 256 (by omega) _ k h.2) hk⟩
theorem Fits.sz {q : Rat} (h : Fits q) : ∃ k, k ≤ 131000 ∧ Sz k q := by
 refine ⟨max (nd 256 q.num.natAbs) (nd 256 q.den), by have := h.1; have := h.2; omega, ?_, ?_⟩
 ·exact Nat.lt_of_lt_of_le (lt_pow_nd 256 (by omega) _) (Nat.pow_le_pow_right (by omega) (by omega))
 ·exact Nat.lt_of_lt_of_le (lt_pow_nd 256 (by omega) _) (Nat.pow_le_pow_right (by omega) (by omega))
theorem mg_nd (x : Int) : (mg x).size = nd 256 x.natAbs := size_mag _
theorem Fits.mn {q : Rat} (h : Fits q) : (mg q.num).size ≤ 131000 := by rw [mg_nd]; exact h.1
theorem dn_abs (q : Rat) : (dn q).natAbs = if q.den = 1 then 0 else q.den := by unfold dn; split <;> simp
theorem Fits.md {q : Rat} (h : Fits q) : (mg (dn q)).size ≤ 131000 := by
 rw [mg_nd, dn_abs]
 split
 ·rw [nd_zero]; omega
 ·exact h.2
theorem nd_small (n : Nat) (h0 : 0 < n) (h : n < 256) : nd 256 n = 1 := by
 have h1 := nd_le 256 (by omega) n 1 (by omega)
 have h2 := nd_pos 256 (by omega) n h0
 omega
theorem rD_small (n : Nat) (h0 : 0 < n) (h : n < 256) : rD n = (1, [nV n]) := by
 unfold rD
 rw [nd_small n h0 h]
 unfold dvals d8
 simp [nV]
 omega
def fV (neg : Bool) (x y : Nat) : Value := .agg #[.bool neg, row 0 (nd 256 x), row 1 (nd 256 y)]
theorem fOf (p : Rat) (hp : Fits p) : Sp Tryz.prog 137 [] [rV p] (fV (sg p.num) p.num.natAbs p.den) [rD p.num.natAbs, rD p.den] := by
 have hn := hp.mn
 have hd := hp.md
 have e := dn_abs p
 by_cases h : p.den = 1
 ·rw [if_pos h] at e
  have h0 : ((nd 256 (dn p).natAbs : Int) == 0) = true := by rw [e]; rfl
  have e1 : rD p.den = (1, [nV (1 : Nat)]) := by rw [h]; exact rD_small 1 (by omega) (by omega)
  have e2 : nd 256 p.den = 1 := by rw [h]; exact nd_small 1 (by omega) (by omega)
  rw [e1, fV, e2]
  exact walk (code := Tryz.f137.body.getD .skip) [cr (dDig (dn p) (by omega)), eb h0, cr (dDig p.num (by omega))] fol Tryz.func137 (by kernel_rfl) (fun xs w => Tryz.call137 xs w) (by kernel_rfl)
 ·rw [if_neg h] at e
  have h0 : ((nd 256 (dn p).natAbs : Int) == 0) = false := by
   rw [e]
   have := nd_pos 256 (by omega) p.den (by have := p.den_nz; omega)
   simp; omega
  rw [← e]
  exact walk (code := Tryz.f137.body.getD .skip) [cr (dDig (dn p) (by omega)), eb h0, cr (dDig p.num (by omega))] fol Tryz.func137 (by kernel_rfl) (fun xs w => Tryz.call137 xs w) (by kernel_rfl)
def sgd (neg : Bool) (x : Nat) : Int := if neg then -(x : Int) else x
theorem rV_of {q : Rat} {z e : Int} (h1 : q.num = z) (h2 : dn q = e) : (.agg #[.bool (sg z), .string (mg z), .bool (sg e), .string (mg e)] : Value) = rV q := by rw [← h1, ← h2]; rfl
theorem can_parts (neg : Bool) (x y : Nat) (hy : 0 < y) : (Rat.divInt (sgd neg x) y).num = sgd neg (x / Nat.gcd y x) ∧ (Rat.divInt (sgd neg x) y).den = y / Nat.gcd y x := by
 have hg : gg (sgd neg x) y = (Nat.gcd y x : Nat) := by
  unfold gg sgd
  cases neg <;> simp [Nat.gcd_comm]
 have h1 := num_of (sgd neg x) y (by omega)
 have h2 := den_of (sgd neg x) y (by omega)
 rw [hg] at h1 h2
 refine ⟨?_, by omega⟩
 rw [h1]
 unfold sgd
 cases neg
 ·simp
 ·simp only [if_true]
  rw [Int.natCast_ediv]
  exact Int.neg_ediv_of_dvd (Int.ofNat_dvd.2 (Nat.gcd_dvd_right _ _))
theorem fCan (neg : Bool) (x y : Nat) (hy : 0 < y) (sx : nd 256 x ≤ 1048576) (sy : nd 256 y ≤ 1048576) : Sp Tryz.prog 131 [rD x, rD y] [fV neg x y] (rV (Rat.divInt (sgd neg x) y)) [] := by
 obtain ⟨e1, e2⟩ := can_parts neg x y hy
 have hg := Nat.gcd_pos_of_pos_left x hy
 obtain ⟨g, hgg⟩ : ∃ g, g = Nat.gcd y x := ⟨_, rfl⟩
 have hC := dCommon x y sx sy
 rw [← hgg] at e1 e2 hg hC
 have hgy : g ≤ y := by rw [hgg]; exact Nat.le_of_dvd hy (Nat.gcd_dvd_left _ _)
 have sg' : nd 256 g ≤ 1048576 := Nat.le_trans (nd_mono 256 (by omega) _ _ hgy) sy
 have hD1 := dDivide x g hg sx sg'
 have hD2 := dDivide y g hg sy sg'
 have hxg : nd 256 (x / g) ≤ 1048576 := Nat.le_trans (nd_mono 256 (by omega) _ _ (Nat.div_le_self _ _)) sx
 have hyg : nd 256 (y / g) ≤ 1048576 := Nat.le_trans (nd_mono 256 (by omega) _ _ (Nat.div_le_self _ _)) sy
 have hd0 : 0 < y / g := Nat.div_pos hgy hg
 obtain ⟨d, hd⟩ : ∃ d, d = y / g := ⟨_, rfl⟩
 rw [← hd] at e2 hD2 hyg hd0
 have hdn : dn (Rat.divInt (sgd neg x) y) = if d = 1 then 0 else (d : Int) := by unfold dn; rw [e2]
 by_cases h1 : d = 1
 ·rw [if_pos h1] at hdn
  subst h1
  rw [rD_small 1 (by omega) (by omega), nd_small 1 (by omega) (by omega)] at hD2
  rw [← rV_of e1 hdn]
  exact walk (code := Tryz.f131.body.getD .skip) [cr hC, cr hD1, cr hD2, cr (dWhole neg (x / g) (by omega)), c (dWhole0 false)] fol Tryz.func131 (by kernel_rfl) (fun xs w => Tryz.call131 xs w) (by kernel_rfl)
 ·rw [if_neg h1] at hdn
  rw [← rV_of e1 hdn]
  have hW := dWhole false d (by omega)
  by_cases h2 : nd 256 d = 1
  ·have hlt : d < 256 := by have := lt_pow_nd 256 (by omega) d; rw [h2] at this; omega
   rw [rD_small d hd0 hlt, nd_small d hd0 hlt] at hD2 hW
   exact walk (code := Tryz.f131.body.getD .skip) [cr hC, cr hD1, cr hD2, L, eb (show ((d : Int) == 1) = false by simp; omega), cr (dWhole neg (x / g) (by omega)), cr hW] fol Tryz.func131 (by kernel_rfl) (fun xs w => Tryz.call131 xs w) (by kernel_rfl)
  ·exact walk (code := Tryz.f131.body.getD .skip) [cr hC, cr hD1, cr hD2, eb (show ((nd 256 d : Int) == 1) = false by simp; omega), cr (dWhole neg (x / g) (by omega)), cr hW] fol Tryz.func131 (by kernel_rfl) (fun xs w => Tryz.call131 xs w) (by kernel_rfl)
end Go.Proofs.YthdaimoankaciaaGreatDoor
set_option linter.unusedSimpArgs false
set_option linter.unusedVariables false
namespace Go.Proofs.YthdaimoankaciaaGreatDoor
open Go Go.RowKit
open Vi
def cmpQ (p q : Rat) : Int := if p < q then -1 else if p = q then 0 else 1
theorem cmpQ_int (p q : Rat) : cmpQ p q = cmpI (p.num * q.den) (q.num * p.den) := by
 unfold cmpQ cmpI
 by_cases h : p < q
 ·rw [if_pos h, if_pos ((Rat.lt_iff p q).1 h)]
 ·rw [if_neg h, if_neg (fun h2 => h ((Rat.lt_iff p q).2 h2))]
  by_cases h3 : p = q
  ·rw [if_pos h3, if_pos (Rat.eq_iff_mul_eq_mul.1 h3)]
  ·rw [if_neg h3, if_neg (fun h2 => h3 (Rat.eq_iff_mul_eq_mul.2 h2))]
set_option maxRecDepth 100000 in
set_option maxHeartbeats 1600000 in
theorem sInt_pos (X : Nat) (w : World) (h2 : X < 9223372036854775808) : Calls Tryz.prog 103 #[.int .i64 (X : Int)] w fun e w' => e = .returned (.agg #[.bool (sg (X : Int)), .string (mg (X : Int))]) ∧ Below w.heap.size w w' := by
 obtain ⟨i0, hi, hz0, hz1, hz2⟩ := info_parts info3
 have hn : ¬ ((X : Int) < 0) := by omega
 have hn2 : decide ((X : Int) < 0) = false := decide_eq_false hn
 go_enter Tryz.func103, Tryz.ntmps103
 go_wp2_with fail
 obtain ⟨W, hW⟩ : ∃ W, W = w.alloc (.cells #[.bool false, .string ⟨#[]⟩] 23) := ⟨_, rfl⟩
 go_loopw [3, 4] (fun v c wr => ∃ k q : Nat, k ≤ 8 ∧ Hid (q = X / 256 ^ k) ∧ c = .int .i64 (q : Int) ∧ wr.ownsRow W.heap.size 3 1 v k (dvals X k) ∧ Below W.heap.size W wr) (fun _ c _ => (intOf c).toNat)
 case atStart =>
  exact ⟨0, X, Nat.zero_le _, Lib.hid (by rw [Nat.pow_zero, Nat.div_one]), rfl, World.ownsRow_nil _ _ _ _, by rw [hW]; exact Below.refl _ _⟩
 case round =>
  obtain ⟨k, q, hk, HQ, rfl, hown, hbel⟩ := hrel
  have HW := Lib.hid hW
  clear hW
  have hqX : q ≤ X := by rw [HQ.out]; exact Nat.div_le_self _ _
  by_cases h0 : q = 0
  ·subst h0
   have HX := Lib.hid (cur_zero X k HQ.out.symm)
   rw [show ((0 : Nat) : Int) = 0 from rfl]
   have hW := HW.out
   subst hW
   obtain ⟨u0, rfl⟩ := World.plus_of_below hbel
   clear hbel
   go_wp2_with fail
   (go_wp2_with fail; refine (swhole_c false _ k X (X : Int) (by simp) _ (Dl.of_owned hown HX.out) (by omega)).mono ?_; rintro e w' ⟨rfl, hb⟩; (first | (with_reducible (have hb2 := World.plus_of_below ((World.below_plus _ _).trans (hb.mono (World.size_plus _ _)))); obtain ⟨u, rfl⟩ := hb2) | (obtain ⟨u, rfl⟩ := World.plus_of_below hb)); clear hb)
   go_wp2_with fail
   refine bodyPost_ret (by simp [results, Tryz.results103, go_sem]; rfl) rfl ?_
   exact ⟨rfl, by (repeat' (first | (with_reducible first | exact Below.refl _ _ | assumption | refine Below.plus0 ?_ _ | refine Below.alloc0 ?_ _ | refine Below.plus ?_ ?_ _ | refine Below.alloc ?_ ?_ _ | refine Below.drew ?_ | refine Below.drewN ?_ _) | (simp [go_sem]; done) | (simp [go_sem]; omega)))⟩
  ·obtain ⟨q1, hq1⟩ : ∃ z, z = q / 256 := ⟨_, rfl⟩
   obtain ⟨dg1, hdg⟩ : ∃ z, z = d8 X k := ⟨_, rfl⟩
   have hk8 : k < 8 := by
    apply Decidable.byContradiction
    intro hc
    have e8 : k = 8 := by omega
    have := HQ.out
    rw [e8, Nat.div_eq_of_lt (Nat.lt_trans h2 (by decide))] at this
    exact h0 this
   have hdq : dg1 = q % 256 := by rw [hdg, HQ.out]; rfl
   have hd2 : dg1 < 256 := hdg ▸ d8_lt _ _
   have HQ1 : Hid (q1 = X / 256 ^ (k + 1)) := Lib.hid (by rw [hq1, HQ.out, cur_next])
   have Hs : Hid (dvals X k ++ [Value.int .i64 (dg1 : Nat)] = dvals X (k + 1)) := Lib.hid (by rw [hdg, dvals_succ])
   have HM := Lib.hid (show q1 < q by omega)
   have hsz := hbel.size
   have hq1b : q1 ≤ 9223372036854775807 := by rw [hq1]; exact Nat.le_trans (Nat.div_le_self _ _) (by omega)
   have hz : (0 : Int) < (q : Int) := by omega
   have HCW := Lib.hid (w64_of q1 hq1b)
   have em : (q : Int).tmod 256 = (dg1 : Int) := by rw [hdq]; exact tmod256 q
   have ed : (q : Int).tdiv 256 = (q1 : Int) := by rw [hq1]; exact tdiv256 q
   have HED := Lib.hid ed
   have hdn : ¬ ((dg1 : Int) < 0) := by omega
   have hdn2 : decide ((dg1 : Int) < 0) = false := decide_eq_false hdn
   have hqn : ¬ ((q : Int) = 0) := by omega
   have hqn2 : ((q : Int) == 0) = false := by rw [beq_eq_false_iff_ne]; exact hqn
   clear hq1 hdg hdq h0
   go_wp2_with (first | (at_builtin; refine wpList_append_own _ rfl _ _ 102 rfl W.heap.size 3 i0 (.int .i64 0) 1 8 Tryz.underlying102 hi hz0 hz1 hz2 rfl (by decide) _ _ _ rfl (hown.alloc _) ⟨wr.heap.size, 0, none⟩ 1 1 [.int .i64 (dg1 : Nat)] rfl rfl ?c1 ?c2 ?c3 ?c4 ?c5 ?_) | go_in)
   all_goals clear em ed
   first
   | case c1 =>
       intro j u hj
       match j, hj with
       | 0, hj => simp at hj; subst hj; simp [Addr.add]
   | skip
   case c2 => first | rfl | (intro u hu; simp at hu; subst hu; rfl)
   case c3 => unfold maxLen; omega
   case c4 => omega
   case c5 => first | omega | (simp; done) | (simp; omega)
   intro v' w1 hown' hgrow _
   rw [Hs.out] at hown'
   have hb2 : Below W.heap.size W w1 := (hbel.alloc hsz _).grown hgrow (by first | omega | (simp; done) | (simp; omega)) fun k' hk' => (hown.lt k' hk').1
   have ed : (q : Int).tdiv 256 = (q1 : Int) := HED.out
   have HOWN := Lib.hid hown'
   have HB2 := Lib.hid hb2
   have HK8 := Lib.hid hk8
   clear hown hgrow hbel hown' hb2 hqX hq1b hsz h2 hd2 hz hk8 hk
   go_wp2_with fail
   clear ed
   rw [HCW.out]
   exact ⟨⟨k + 1, q1, by have := HK8.out; omega, HQ1, rfl, HOWN.out, HB2.out⟩, by have := HM.out; first | (simp [intOf]; done) | (simp [intOf]; omega)⟩
set_option maxRecDepth 100000 in
set_option maxHeartbeats 1600000 in
theorem sInt_neg (X : Nat) (w : World) (h1 : 0 < X) (h2 : X ≤ 9223372036854775808) : Calls Tryz.prog 103 #[.int .i64 (-(X : Int))] w fun e w' => e = .returned (.agg #[.bool (sg (-(X : Int))), .string (mg (-(X : Int)))]) ∧ Below w.heap.size w w' := by
 obtain ⟨i0, hi, hz0, hz1, hz2⟩ := info_parts info3
 have hn : -(X : Int) < 0 := by omega
 have hn2 : decide (-(X : Int) < 0) = true := decide_eq_true hn
 go_enter Tryz.func103, Tryz.ntmps103
 go_wp2_with fail
 obtain ⟨W, hW⟩ : ∃ W, W = w.alloc (.cells #[.bool false, .string ⟨#[]⟩] 23) := ⟨_, rfl⟩
 go_loopw [3, 4] (fun v c wr => ∃ k q : Nat, k ≤ 8 ∧ Hid (q = X / 256 ^ k) ∧ c = .int .i64 (-(q : Int)) ∧ wr.ownsRow W.heap.size 3 1 v k (dvals X k) ∧ Below W.heap.size W wr) (fun _ c _ => (-intOf c).toNat)
 case atStart =>
  exact ⟨0, X, Nat.zero_le _, Lib.hid (by rw [Nat.pow_zero, Nat.div_one]), rfl, World.ownsRow_nil _ _ _ _, by rw [hW]; exact Below.refl _ _⟩
 case round =>
  obtain ⟨k, q, hk, HQ, rfl, hown, hbel⟩ := hrel
  have HW := Lib.hid hW
  clear hW
  have hqX : q ≤ X := by rw [HQ.out]; exact Nat.div_le_self _ _
  by_cases h0 : q = 0
  ·subst h0
   have HX := Lib.hid (cur_zero X k HQ.out.symm)
   rw [show -((0 : Nat) : Int) = 0 from rfl]
   have hW := HW.out
   subst hW
   obtain ⟨u0, rfl⟩ := World.plus_of_below hbel
   clear hbel
   go_wp2_with fail
   (go_wp2_with fail; refine (swhole_c true _ k X (-(X : Int)) (by simp) _ (Dl.of_owned hown HX.out) (by omega)).mono ?_; rintro e w' ⟨rfl, hb⟩; (first | (with_reducible (have hb2 := World.plus_of_below ((World.below_plus _ _).trans (hb.mono (World.size_plus _ _)))); obtain ⟨u, rfl⟩ := hb2) | (obtain ⟨u, rfl⟩ := World.plus_of_below hb)); clear hb)
   go_wp2_with fail
   refine bodyPost_ret (by simp [results, Tryz.results103, go_sem]; rfl) rfl ?_
   exact ⟨rfl, by (repeat' (first | (with_reducible first | exact Below.refl _ _ | assumption | refine Below.plus0 ?_ _ | refine Below.alloc0 ?_ _ | refine Below.plus ?_ ?_ _ | refine Below.alloc ?_ ?_ _ | refine Below.drew ?_ | refine Below.drewN ?_ _) | (simp [go_sem]; done) | (simp [go_sem]; omega)))⟩
  ·obtain ⟨q1, hq1⟩ : ∃ z, z = q / 256 := ⟨_, rfl⟩
   obtain ⟨dg1, hdg⟩ : ∃ z, z = d8 X k := ⟨_, rfl⟩
   have hk8 : k < 8 := by
    apply Decidable.byContradiction
    intro hc
    have e8 : k = 8 := by omega
    have := HQ.out
    rw [e8, Nat.div_eq_of_lt (Nat.lt_of_le_of_lt h2 (by decide))] at this
    exact h0 this
   have hdq : dg1 = q % 256 := by rw [hdg, HQ.out]; rfl
   have hd2 : dg1 < 256 := hdg ▸ d8_lt _ _
   have HQ1 : Hid (q1 = X / 256 ^ (k + 1)) := Lib.hid (by rw [hq1, HQ.out, cur_next])
   have Hs : Hid (dvals X k ++ [Value.int .i64 (dg1 : Nat)] = dvals X (k + 1)) := Lib.hid (by rw [hdg, dvals_succ])
   have HM := Lib.hid (show q1 < q by omega)
   have hsz := hbel.size
   have hq1b : q1 ≤ 9223372036854775807 := by rw [hq1]; omega
   obtain ⟨nn, hnn⟩ : ∃ n : Int, n = -(q : Int) := ⟨_, rfl⟩
   obtain ⟨n1, hn1⟩ : ∃ n : Int, n = -(q1 : Int) := ⟨_, rfl⟩
   obtain ⟨r, hr⟩ : ∃ n : Int, n = -(dg1 : Int) := ⟨_, rfl⟩
   have HCW : Hid (wrap64 n1 = n1) := Lib.hid (by rw [hn1]; unfold wrap64; omega)
   have em : nn.tmod 256 = r := by rw [hnn, hr, Int.neg_tmod, hdq, tmod256 q]
   have HED : Hid (nn.tdiv 256 = n1) := Lib.hid (by rw [hnn, hn1, Int.neg_tdiv, hq1, tdiv256 q])
   have hqn : ¬ (nn = 0) := by omega
   have hqn2 : (nn == 0) = false := by rw [beq_eq_false_iff_ne]; exact hqn
   rw [← hnn]
   have HN1 := Lib.hid hn1
   have HNN := Lib.hid hnn
   by_cases hd0 : dg1 = 0
   ·have er : r = 0 := by rw [hr, hd0]; rfl
    have hdn : ¬ (r < 0) := by omega
    rw [er] at em
    subst hd0
    simp only [Int.natCast_zero] at Hs
    clear hq1 hdg hdq h0 hn1 hnn hr er hdn
    go_wp2_with (first | (at_builtin; refine wpList_append_own _ rfl _ _ 102 rfl W.heap.size 3 i0 (.int .i64 0) 1 8 Tryz.underlying102 hi hz0 hz1 hz2 rfl (by decide) _ _ _ rfl (hown.alloc _) ⟨wr.heap.size, 0, none⟩ 1 1 [.int .i64 0] rfl rfl ?c1 ?c2 ?c3 ?c4 ?c5 ?_) | go_in)
    all_goals clear em
    first
    | case c1 =>
        intro j u hj
        match j, hj with
        | 0, hj => simp at hj; subst hj; simp [Addr.add]
    | skip
    case c2 => first | rfl | (intro u hu; simp at hu; subst hu; rfl)
    case c3 => unfold maxLen; omega
    case c4 => omega
    case c5 => first | omega | (simp; done) | (simp; omega)
    intro v' w1 hown' hgrow _
    rw [Hs.out] at hown'
    have hb2 : Below W.heap.size W w1 := (hbel.alloc hsz _).grown hgrow (by first | omega | (simp; done) | (simp; omega)) fun k' hk' => (hown.lt k' hk').1
    have ed := HED.out
    have HOWN := Lib.hid hown'
    have HB2 := Lib.hid hb2
    have HK8 := Lib.hid hk8
    clear hown hgrow hbel hown' hb2 hqX hsz h2 hk8 hk
    go_wp2_with fail
    clear ed
    rw [HCW.out, HN1.out]
    exact ⟨⟨k + 1, q1, by have := HK8.out; omega, HQ1, rfl, HOWN.out, HB2.out⟩, by have := HM.out; have a2 := HN1.out; have a3 := HNN.out; first | (show (-(-(q1 : Int))).toNat < (-nn).toNat; omega) | (simp [intOf]; done) | (simp [intOf]; omega)⟩
   ·have hr0 : r < 0 := by omega
    have HR : Hid (wrap64 (-r) = (dg1 : Int)) := Lib.hid (by rw [show -r = (dg1 : Int) by omega]; unfold wrap64; omega)
    have hr1 : decide (r < 0) = true := decide_eq_true hr0
    clear hq1 hdg hdq h0 hn1 hnn hr hd0
    go_upto_region 7 with fail
    rw [HR.out]
    clear hr0 hr1
    go_wp2_with (first | (at_builtin; refine wpList_append_own _ rfl _ _ 102 rfl W.heap.size 3 i0 (.int .i64 0) 1 8 Tryz.underlying102 hi hz0 hz1 hz2 rfl (by decide) _ _ _ rfl (hown.alloc _) ⟨wr.heap.size, 0, none⟩ 1 1 [.int .i64 (dg1 : Nat)] rfl rfl ?d1 ?d2 ?d3 ?d4 ?d5 ?_) | go_in)
    all_goals clear em
    first
    | case d1 =>
        intro j u hj
        match j, hj with
        | 0, hj => simp at hj; subst hj; simp [Addr.add]
    | skip
    case d2 => first | rfl | (intro u hu; simp at hu; subst hu; rfl)
    case d3 => unfold maxLen; omega
    case d4 => omega
    case d5 => first | omega | (simp; done) | (simp; omega)
    intro v' w1 hown' hgrow _
    rw [Hs.out] at hown'
    have hb2 : Below W.heap.size W w1 := (hbel.alloc hsz _).grown hgrow (by first | omega | (simp; done) | (simp; omega)) fun k' hk' => (hown.lt k' hk').1
    have ed := HED.out
    have HOWN := Lib.hid hown'
    have HB2 := Lib.hid hb2
    have HK8 := Lib.hid hk8
    clear hown hgrow hbel hown' hb2 hqX hsz h2 hk8 hk
    go_wp2_with fail
    clear ed
    rw [HCW.out, HN1.out]
    exact ⟨⟨k + 1, q1, by have := HK8.out; omega, HQ1, rfl, HOWN.out, HB2.out⟩, by have := HM.out; have a2 := HN1.out; have a3 := HNN.out; first | (show (-(-(q1 : Int))).toNat < (-nn).toNat; omega) | (simp [intOf]; done) | (simp [intOf]; omega)⟩
theorem sInt_c (n : Int) (w : World) (h1 : -9223372036854775808 ≤ n) (h2 : n ≤ 9223372036854775807) : Calls Tryz.prog 103 #[.int .i64 n] w fun e w' => e = .returned (.agg #[.bool (sg n), .string (mg n)]) ∧ Below w.heap.size w w' := by
 by_cases h : n < 0
 ·obtain ⟨X, rfl⟩ : ∃ X : Nat, n = -(X : Int) := ⟨n.natAbs, by omega⟩
  exact sInt_neg X w (by omega) (by omega)
 ·obtain ⟨X, rfl⟩ : ∃ X : Nat, n = (X : Int) := ⟨n.natAbs, by omega⟩
  exact sInt_pos X w (by omega)
theorem cmpQ_sub (p q : Rat) : cmpI (p - q).num 0 = cmpQ p q := by
 unfold cmpI cmpQ
 have h1 : (p - q).num < 0 ↔ p < q := by
  rw [← Int.not_le, Rat.num_nonneg, ← Rat.le_iff_sub_nonneg, Rat.not_le]
 have h2 : (p - q).num = 0 ↔ p = q := by
  rw [Rat.num_eq_zero]
  constructor
  ·intro h
   have := congrArg (· + q) h
   simpa [Rat.sub_add_cancel, Rat.zero_add] using this
  ·intro h; rw [h]; exact Rat.sub_self
 by_cases a : p < q
 ·rw [if_pos a, if_pos (h1.2 a)]
 ·rw [if_neg a, if_neg (fun h => a (h1.1 h))]
  by_cases b : p = q
  ·rw [if_pos b, if_pos (h2.2 b)]
  ·rw [if_neg b, if_neg (fun h => b (h2.1 h))]
theorem floor_pos (X Y : Nat) : ((X : Int) / (Y : Int)) = ((X / Y : Nat) : Int) := by simp
theorem floor_neg (X Y : Nat) (hY : 0 < Y) : (-(X : Int)) / (Y : Int) = -((X / Y : Nat) : Int) - (if X % Y = 0 then 0 else 1) := by
 have h1 := Nat.div_add_mod X Y
 have h2 := Nat.mod_lt X hY
 have hYi : (0 : Int) < (Y : Int) := by omega
 have h1i : (Y : Int) * ((X / Y : Nat) : Int) + ((X % Y : Nat) : Int) = (X : Int) := by exact_mod_cast h1
 split
 ·rename_i h0
  rw [h0] at h1i
  have e : -(X : Int) = (-((X / Y : Nat) : Int)) * (Y : Int) := by rw [Int.neg_mul, Int.mul_comm]; omega
  rw [e, Int.mul_ediv_cancel _ (by omega)]; omega
 ·rename_i h0
  have e : -(X : Int) = ((Y : Int) - ((X % Y : Nat) : Int)) + (-((X / Y : Nat) : Int) - 1) * (Y : Int) := by
   rw [Int.sub_mul, Int.neg_mul, Int.mul_comm ((X / Y : Nat) : Int)]; omega
  rw [e, Int.add_mul_ediv_right _ _ (by omega), Int.ediv_eq_zero_of_lt (by omega) (by omega)]; omega
set_option maxHeartbeats 400000 in
theorem sIsInt_c (b : Bool) (s : ByteArray) (w : World) (hs : s.size ≤ 9223372036854775807) : Calls Tryz.prog 99 #[.agg #[.bool b, .string s]] w fun e w' => e = .returned (.bool (okInt b s)) ∧ Below w.heap.size w w' := by
 cases he : s.toList.isEmpty
 ·have hp : 0 < s.size := by
    rcases Nat.eq_zero_or_pos s.size with h | h
    ·rw [toList_data] at he
     have : s.data.toList.length = 0 := h
     rw [List.eq_nil_of_length_eq_zero this] at he; simp at he
    ·exact h
  have hc := can_first s hp
  by_cases h0 : (s[0]'hp).toNat = 0
  ·have e : okInt b s = false := by
     unfold okInt; rw [he]
     have h1 : ¬ Vi.Can s := fun h => (hc.1 h) h0
     unfold Vi.Can at h1
     have h2 : s.data.toList.head? = some 0 := Decidable.byContradiction h1
     rw [h2]; rfl
   rw [e]
   clear hc
   go_enter Tryz.func99, Tryz.ntmps99
   go_wp2
   go_ret
   exact ⟨rfl, by (repeat' (first | (with_reducible first | exact Below.refl _ _ | assumption | refine Below.plus0 ?_ _ | refine Below.alloc0 ?_ _ | refine Below.plus ?_ ?_ _ | refine Below.alloc ?_ ?_ _ | refine Below.drew ?_ | refine Below.drewN ?_ _) | (simp [go_sem]; done) | (simp [go_sem]; omega)))⟩
  ·have e : okInt b s = true := by
     unfold okInt; rw [he]
     have h1 : Vi.Can s := hc.2 h0
     unfold Vi.Can at h1
     simp [h1]
   rw [e]
   have hb : ((s[0].toNat : Int) != 0) = true := by simpa using h0
   clear hc
   go_enter Tryz.func99, Tryz.ntmps99
   go_wp2
   go_ret
   exact ⟨by simp [h0], by (repeat' (first | (with_reducible first | exact Below.refl _ _ | assumption | refine Below.plus0 ?_ _ | refine Below.alloc0 ?_ _ | refine Below.plus ?_ ?_ _ | refine Below.alloc ?_ ?_ _ | refine Below.drew ?_ | refine Below.drewN ?_ _) | (simp [go_sem]; done) | (simp [go_sem]; omega)))⟩
 ·have e : okInt b s = !b := by unfold okInt; rw [he]; rfl
  rw [e]
  have hz : s.size = 0 := by
   rw [toList_data] at he
   have h2 : s.data.toList = [] := by simpa using he
   have : s.data.toList.length = 0 := by rw [h2]; rfl
   exact this
  cases b
  all_goals
   go_enter Tryz.func99, Tryz.ntmps99
   go_wp2
   go_ret
   exact ⟨rfl, by (repeat' (first | (with_reducible first | exact Below.refl _ _ | assumption | refine Below.plus0 ?_ _ | refine Below.alloc0 ?_ _ | refine Below.plus ?_ ?_ _ | refine Below.alloc ?_ ?_ _ | refine Below.drew ?_ | refine Below.drewN ?_ _) | (simp [go_sem]; done) | (simp [go_sem]; omega)))⟩
theorem okInt_mg (z : Int) : okInt (sg z) (mg z) = true := by
 unfold okInt
 by_cases h : z = 0
 ·subst h; rw [mg_empty_of 0 rfl, if_pos rfl]; rfl
 ·rw [mg_empty_not z h, if_neg (by simp)]
  have hc := can_mag z.natAbs
  unfold Vi.Can at hc
  have : ¬ ((mg z).data.toList.head? = some 0) := hc
  simpa using this
theorem okInt_num (b : Bool) (s : ByteArray) (h : okInt b s = true) : ∃ z : Int, b = sg z ∧ s = mg z := by
 unfold okInt at h
 by_cases he : s.toList.isEmpty = true
 ·rw [if_pos he] at h
  have hb : b = false := by simpa using h
  refine ⟨0, by rw [hb]; rfl, byte_inj ?_⟩
  have e1 : s.toList = [] := by simpa using he
  rw [e1]
  have := mg_empty_of 0 rfl
  have e2 : (mg 0).toList = [] := by simpa using this
  rw [e2]
 ·rw [if_neg he] at h
  have hc : Vi.Can s := by
   unfold Vi.Can
   intro e
   rw [e] at h
   simp at h
  have hm : mag (num s) = s := Vi.mag_num s hc
  have hn : num s ≠ 0 := by
   intro e
   rw [e] at hm
   rw [← hm] at he
   exact he (mg_empty_of 0 rfl)
  refine ⟨if b then -(num s : Int) else num s, ?_, ?_⟩
  ·unfold sg
   cases b <;> simp <;> omega
  ·unfold mg
   cases b <;> simp [hm]
def okRat (b1 : Bool) (s1 : ByteArray) (b2 : Bool) (s2 : ByteArray) : Bool := okInt b1 s1 && okInt b2 s2 && !b2 && (s2.toList.isEmpty || (num s2 != 1 && Nat.gcd (num s1) (num s2) == 1))
theorem okRat_of (q : Rat) : okRat (sg q.num) (mg q.num) (sg (dn q)) (mg (dn q)) = true := by
 unfold okRat
 rw [okInt_mg, okInt_mg, mg_isEmpty, num_mg, num_mg]
 have h1 := dn_nonneg q
 have h2 : sg (dn q) = false := by unfold sg; simpa using h1
 rw [h2]
 unfold dn
 by_cases h : q.den = 1
 ·rw [if_pos h]; rfl
 ·rw [if_neg h]
  have h3 := q.reduced
  unfold Nat.Coprime at h3
  simp [h, h3]
theorem okRat_rat (b1 : Bool) (s1 : ByteArray) (b2 : Bool) (s2 : ByteArray) (h : okRat b1 s1 b2 s2 = true) : ∃ q : Rat, b1 = sg q.num ∧ s1 = mg q.num ∧ b2 = sg (dn q) ∧ s2 = mg (dn q) := by
 unfold okRat at h
 simp only [Bool.and_eq_true, Bool.or_eq_true] at h
 obtain ⟨⟨⟨h1, h2⟩, h3⟩, h4⟩ := h
 obtain ⟨n, rfl, rfl⟩ := okInt_num b1 s1 h1
 obtain ⟨d, rfl, rfl⟩ := okInt_num b2 s2 h2
 have h5 : 0 ≤ d := by
  unfold sg at h3
  simpa using h3
 rcases h4 with h4 | h4
 ·have hd : d = 0 := by rw [mg_isEmpty] at h4; simpa using h4
  refine ⟨(n : Rat), rfl, rfl, ?_⟩
  rw [hd]
  exact ⟨rfl, rfl⟩
 ·rw [num_mg, num_mg] at h4
  by_cases hd : d = 0
  ·refine ⟨(n : Rat), rfl, rfl, ?_⟩
   rw [hd]
   exact ⟨rfl, rfl⟩
  ·have h6 : d.natAbs ≠ 1 ∧ Nat.gcd n.natAbs d.natAbs = 1 := by simpa using h4
   refine ⟨Rat.mk' n d.natAbs (by omega) h6.2, rfl, rfl, ?_⟩
   have e : dn (Rat.mk' n d.natAbs (by omega) h6.2) = d := by
    unfold dn
    rw [if_neg h6.1]
    show (d.natAbs : Int) = d
    omega
   rw [e]
   exact ⟨rfl, rfl⟩
end Go.Proofs.YthdaimoankaciaaGreatDoor
set_option linter.unusedSimpArgs false
set_option linter.unusedVariables false
namespace Go.Proofs.YthdaimoankaciaaGreatDoor
open Go Go.RowKit Go.Sy
open Vi
theorem rInt (n : Int) (h1 : -9223372036854775808 ≤ n) (h2 : n ≤ 9223372036854775807) : Sp Tryz.prog 103 [] [nV n] (iV n) [] := Sp.of (fun xs w => Tryz.call103 xs w) (by kernel_rfl) (by kernel_rfl) (fun w => sInt_c n w h1 h2)
theorem rIsInt (b : Bool) (s : ByteArray) (hs : s.size ≤ 9223372036854775807) : Sp Tryz.prog 99 [] [.agg #[.bool b, .string s]] (.bool (okInt b s)) [] := Sp.of (fun xs w => Tryz.call99 xs w) (by kernel_rfl) (by kernel_rfl) (fun w => sIsInt_c b s w hs)
theorem sgd_nat (z : Int) : sgd (sg z) z.natAbs = z := by
 unfold sgd sg
 by_cases h : z < 0
 ·simp [h]; omega
 ·simp [h]; omega
theorem sgd_m (b d : Bool) (x y : Nat) : sgd (!(b == d)) (x * y) = sgd b x * sgd d y := by
 unfold sgd
 cases b <;> cases d <;> simp [Int.natCast_mul, Int.neg_mul, Int.mul_neg]
theorem sgd_mul (a b : Int) : sgd (!(sg a == sg b)) (a.natAbs * b.natAbs) = a * b := by rw [sgd_m, sgd_nat, sgd_nat]
theorem sgd_den (z : Int) (y : Nat) : z * y = sgd (sg z) (z.natAbs * y) := by
 have := sgd_m (sg z) false z.natAbs y
 rw [sgd_nat] at this
 rw [show sgd false y = (y : Int) from rfl] at this
 rw [← this]
 cases sg z <;> rfl
theorem sgd_not (b : Bool) (x : Nat) : sgd (!(b == true)) x = -sgd b x := by
 unfold sgd
 cases b <;> simp
theorem rMake (n d : Int) (h0 : d ≠ 0) (hn : nd 256 n.natAbs ≤ 1048576) (hd : nd 256 d.natAbs ≤ 1048576) : Sp Tryz.prog 102 [] [iV n, iV d] (rV (Rat.divInt n d)) [] := by
 have e : Rat.divInt n d = Rat.divInt (sgd (!(sg n == sg d)) n.natAbs) d.natAbs := by
  rcases Int.natAbs_eq d with hb | hb
  ·have : sg d = false := by unfold sg; simp; omega
   rw [this, ← hb]
   congr 1
   unfold sgd sg
   by_cases h : n < 0 <;> simp [h] <;> omega
  ·have : sg d = true := by unfold sg; simp; omega
   rw [this]
   have h1 : ((d.natAbs : Nat) : Int) = -d := by omega
   rw [h1]
   have h2 : sgd (!(sg n == true)) n.natAbs = -n := by
    unfold sgd sg
    by_cases h : n < 0 <;> simp [h] <;> omega
   rw [h2]
   exact (neg_of n d).symm
 rw [e]
 have s1 := mg_nd n
 have s2 := mg_nd d
 exact walk (code := Tryz.f102.body.getD .skip) [cr (dDig n (by omega)), cr (dDig d (by omega)), cr (fCan (!(sg n == sg d)) n.natAbs d.natAbs (by omega) hn hd)] fol Tryz.func102 (by kernel_rfl) (fun xs w => Tryz.call102 xs w) (by kernel_rfl)
theorem rMul (p q : Rat) (hp : Fits p) (hq : Fits q) : Sp Tryz.prog 88 [] [rV p, rV q] (rV (p * q)) [] := by
 obtain ⟨p1, p2⟩ := hp
 obtain ⟨q1, q2⟩ := hq
 have h1 := nd_mul p.num.natAbs q.num.natAbs
 have h2 := nd_mul p.den q.den
 have hd : 0 < p.den * q.den := Nat.mul_pos (by have := p.den_nz; omega) (by have := q.den_nz; omega)
 have e : p * q = Rat.divInt (sgd (!(sg p.num == sg q.num)) (p.num.natAbs * q.num.natAbs)) (p.den * q.den : Nat) := by rw [sgd_mul, mul_of, Int.natCast_mul]
 rw [e]
 exact walk (code := Tryz.f88.body.getD .skip) [cr (fOf p ⟨p1, p2⟩), cr (fOf q ⟨q1, q2⟩), cr (dTimes p.num.natAbs q.num.natAbs (by omega) (by omega)), cr (dTimes p.den q.den (by omega) (by omega)), cr (fCan (!(sg p.num == sg q.num)) (p.num.natAbs * q.num.natAbs) (p.den * q.den) hd (by omega) (by omega))] fol Tryz.func88 (by kernel_rfl) (fun xs w => Tryz.call88 xs w) (by kernel_rfl)
theorem rDiv (p q : Rat) (h0 : q ≠ 0) (hp : Fits p) (hq : Fits q) : Sp Tryz.prog 87 [] [rV p, rV q] (rV (p / q)) [] := by
 obtain ⟨p1, p2⟩ := hp
 obtain ⟨q1, q2⟩ := hq
 have h1 := nd_mul p.num.natAbs q.den
 have h2 := nd_mul p.den q.num.natAbs
 have hqn : q.num ≠ 0 := fun h => h0 (Rat.num_eq_zero.1 h)
 have hd : 0 < p.den * q.num.natAbs := Nat.mul_pos (by have := p.den_nz; omega) (by omega)
 have e : p / q = Rat.divInt (sgd (!(sg p.num == sg q.num)) (p.num.natAbs * q.den)) (p.den * q.num.natAbs : Nat) := by
  rw [div_of]
  rw [sgd_den p.num q.den]
  cases hs : sg q.num
  ·have h3 : ((p.den * q.num.natAbs : Nat) : Int) = (p.den : Int) * q.num := by
     have : 0 ≤ q.num := by unfold sg at hs; simpa using hs
     rw [Int.natCast_mul]; congr 1; omega
   rw [h3]
   congr 1
   cases sg p.num <;> rfl
  ·have h3 : ((p.den * q.num.natAbs : Nat) : Int) = -((p.den : Int) * q.num) := by
     have : q.num < 0 := by unfold sg at hs; simpa using hs
     rw [Int.natCast_mul, ← Int.mul_neg]; congr 1; omega
   rw [h3, sgd_not]
   exact (neg_of _ _).symm
 rw [e]
 exact walk (code := Tryz.f87.body.getD .skip) [cr (fOf p ⟨p1, p2⟩), cr (fOf q ⟨q1, q2⟩), cr (dTimes p.num.natAbs q.den (by omega) (by omega)), cr (dTimes p.den q.num.natAbs (by omega) (by omega)), cr (fCan (!(sg p.num == sg q.num)) (p.num.natAbs * q.den) (p.den * q.num.natAbs) hd (by omega) (by omega))] fol Tryz.func87 (by kernel_rfl) (fun xs w => Tryz.call87 xs w) (by kernel_rfl)
theorem rAdd (p q : Rat) (hp : Fits p) (hq : Fits q) : Sp Tryz.prog 91 [] [rV p, rV q] (rV (p + q)) [] := by
 obtain ⟨p1, p2⟩ := hp
 obtain ⟨q1, q2⟩ := hq
 have h1 := nd_mul p.num.natAbs q.den
 have h2 := nd_mul q.num.natAbs p.den
 have h3 := nd_mul p.den q.den
 have hd : 0 < p.den * q.den := Nat.mul_pos (by have := p.den_nz; omega) (by have := q.den_nz; omega)
 obtain ⟨A, hA⟩ : ∃ A, A = p.num.natAbs * q.den := ⟨_, rfl⟩
 obtain ⟨B, hB⟩ : ∃ B, B = q.num.natAbs * p.den := ⟨_, rfl⟩
 have hO1 := fOf p ⟨p1, p2⟩
 have hO2 := fOf q ⟨q1, q2⟩
 have hT1 := dTimes p.num.natAbs q.den (by omega) (by omega)
 have hT2 := dTimes q.num.natAbs p.den (by omega) (by omega)
 have hT3 := dTimes p.den q.den (by omega) (by omega)
 rw [← hA] at h1 hT1
 rw [← hB] at h2 hT2
 have e1 : p.num * q.den = sgd (sg p.num) A := by rw [hA]; exact sgd_den ..
 have e2 : q.num * p.den = sgd (sg q.num) B := by rw [hB]; exact sgd_den ..
 have e : p + q = Rat.divInt (sgd (sg p.num) A + sgd (sg q.num) B) (p.den * q.den : Nat) := by rw [add_of, e1, e2, Int.natCast_mul]
 by_cases hs : sg p.num = sg q.num
 ·have e3 : sgd (sg p.num) A + sgd (sg q.num) B = sgd (sg p.num) (A + B) := by rw [← hs]; unfold sgd; cases sg p.num <;> simp <;> omega
  rw [e, e3]
  have := nd_add A B
  exact walk (code := Tryz.f91.body.getD .skip) [cr hO1, cr hO2, cr hT1, cr hT2, cr hT3, eb (show (sg p.num == sg q.num) = true by rw [hs]; simp), cr (dPlus A B (by omega) (by omega)), cr (fCan (sg p.num) (A + B) (p.den * q.den) hd (by omega) (by omega))] fol Tryz.func91 (by kernel_rfl) (fun xs w => Tryz.call91 xs w) (by kernel_rfl)
 ·have hs' : (sg p.num == sg q.num) = false := by simpa using hs
  have hC := dCompare A B (by omega) (by omega)
  by_cases hge : B ≤ A
  ·have e3 : sgd (sg p.num) A + sgd (sg q.num) B = sgd (sg p.num) (A - B) := by
     unfold sgd
     cases h5 : sg p.num <;> cases h6 : sg q.num <;> simp_all <;> omega
   rw [e, e3]
   have := nd_mono 256 (by omega) (A - B) A (by omega)
   exact walk (code := Tryz.f91.body.getD .skip) [cr hO1, cr hO2, cr hT1, cr hT2, cr hT3, eb hs', cr hC, eb (show decide (cmpN A B ≥ 0) = true from cmpN_ge2 A B hge), cr (dMinus A B hge (by omega) (by omega)), cr (fCan (sg p.num) (A - B) (p.den * q.den) hd (by omega) (by omega))] fol Tryz.func91 (by kernel_rfl) (fun xs w => Tryz.call91 xs w) (by kernel_rfl)
  ·have e3 : sgd (sg p.num) A + sgd (sg q.num) B = sgd (sg q.num) (B - A) := by
     unfold sgd
     cases h5 : sg p.num <;> cases h6 : sg q.num <;> simp_all <;> omega
   rw [e, e3]
   have := nd_mono 256 (by omega) (B - A) B (by omega)
   exact walk (code := Tryz.f91.body.getD .skip) [cr hO1, cr hO2, cr hT1, cr hT2, cr hT3, eb hs', cr hC, eb (show decide (cmpN A B ≥ 0) = false from cmpN_lt2 A B (by omega)), cr (dMinus B A (by omega) (by omega) (by omega)), cr (fCan (sg q.num) (B - A) (p.den * q.den) hd (by omega) (by omega))] fol Tryz.func91 (by kernel_rfl) (fun xs w => Tryz.call91 xs w) (by kernel_rfl)
theorem rV_b {p : Rat} {b : Bool} (h : sg p.num = b) : rV p = .agg #[.bool b, .string (mg p.num), .bool (sg (dn p)), .string (mg (dn p))] := by unfold rV; rw [h]
theorem mg_eq0 (z : Int) : ((mg z).toList == []) = (z == 0) := by
 rw [← mg_isEmpty]
 cases (mg z).toList <;> rfl
theorem rNeg (p : Rat) : Sp Tryz.prog 35 [] [rV p] (rV (-p)) [] := by
 have e0 : rV (-p) = .agg #[.bool (sg (-p).num), .string (mg p.num), .bool (sg (dn p)), .string (mg (dn p))] := by
  unfold rV
  rw [dn_neg, show mg (-p).num = mg p.num by rw [Rat.neg_num]; unfold mg; rw [Int.natAbs_neg]]
 cases h : sg p.num
 ·have hn : ¬ p.num < 0 := by simpa [sg] using h
  by_cases h0 : p.num = 0
  ·have e1 : sg (-p).num = false := by rw [Rat.neg_num, h0]; rfl
   rw [e0, e1]
   exact walk (code := Tryz.f35.body.getD .skip) [eb (show (!(sg p.num)) = true by rw [h]; rfl), eb (show (!((mg p.num).toList == [])) = false by rw [mg_eq0, h0]; rfl)] fol Tryz.func35 (by kernel_rfl) (fun xs w => Tryz.call35 xs w) (by kernel_rfl)
  ·have e1 : sg (-p).num = true := by rw [Rat.neg_num]; unfold sg; simp; omega
   rw [e0, e1]
   exact walk (code := Tryz.f35.body.getD .skip) [eb (show (!(sg p.num)) = true by rw [h]; rfl), eb (show (!((mg p.num).toList == [])) = true by rw [mg_eq0]; simpa using h0)] fol Tryz.func35 (by kernel_rfl) (fun xs w => Tryz.call35 xs w) (by kernel_rfl)
 ·have hn : p.num < 0 := by simpa [sg] using h
  have e1 : sg (-p).num = false := by rw [Rat.neg_num]; unfold sg; simp; omega
  rw [e0, e1]
  exact walk (code := Tryz.f35.body.getD .skip) [eb (show (!(sg p.num)) = false by rw [h]; rfl)] fol Tryz.func35 (by kernel_rfl) (fun xs w => Tryz.call35 xs w) (by kernel_rfl)
theorem rSub (p q : Rat) (hp : Fits p) (hq : Fits q) : Sp Tryz.prog 89 [] [rV p, rV q] (rV (p - q)) [] := by
 rw [Rat.sub_eq_add_neg]
 exact walk (code := Tryz.f89.body.getD .skip) [c (rNeg q), c (rAdd p (-q) hp ⟨by rw [Rat.neg_num, Int.natAbs_neg]; exact hq.1, by rw [Rat.neg_den]; exact hq.2⟩)] fol Tryz.func89 (by kernel_rfl) (fun xs w => Tryz.call89 xs w) (by kernel_rfl)
theorem rSign (p : Rat) : Sp Tryz.prog 60 [] [rV p] (nV (cmpI p.num 0)) [] := by
 by_cases h0 : p.num = 0
 ·rw [show cmpI p.num 0 = 0 by rw [h0]; rfl]
  exact walk (code := Tryz.f60.body.getD .skip) [eb (show ((mg p.num).toList == []) = true by rw [mg_eq0, h0]; rfl)] fol Tryz.func60 (by kernel_rfl) (fun xs w => Tryz.call60 xs w) (by kernel_rfl)
 ·have e : ((mg p.num).toList == []) = false := by rw [mg_eq0]; simpa using h0
  by_cases h : p.num < 0
  ·rw [show cmpI p.num 0 = -1 by unfold cmpI; rw [if_pos h], rV_b (show sg p.num = true by unfold sg; simpa using h)]
   exact walk (code := Tryz.f60.body.getD .skip) [eb e] fol Tryz.func60 (by kernel_rfl) (fun xs w => Tryz.call60 xs w) (by kernel_rfl)
  ·rw [show cmpI p.num 0 = 1 by unfold cmpI; rw [if_neg h, if_neg h0], rV_b (show sg p.num = false by unfold sg; simpa using h)]
   exact walk (code := Tryz.f60.body.getD .skip) [eb e] fol Tryz.func60 (by kernel_rfl) (fun xs w => Tryz.call60 xs w) (by kernel_rfl)
theorem rCompare (p q : Rat) (hp : Fits p) (hq : Fits q) : Sp Tryz.prog 71 [] [rV p, rV q] (nV (cmpQ p q)) [] := by
 rw [← cmpQ_sub]
 exact walk (code := Tryz.f71.body.getD .skip) [c (rSub p q hp hq), c (rSign (p - q))] fol Tryz.func71 (by kernel_rfl) (fun xs w => Tryz.call71 xs w) (by kernel_rfl)
theorem rOf (n d : Int) (n1 : -9223372036854775808 ≤ n) (n2 : n ≤ 9223372036854775807) (d1 : -9223372036854775808 ≤ d) (d2 : d ≤ 9223372036854775807) (h0 : d ≠ 0) : Sp Tryz.prog 43 [] [nV n, nV d] (rV (Rat.divInt n d)) [] := by
 have hs : ∀ z : Int, -9223372036854775808 ≤ z → z ≤ 9223372036854775807 → nd 256 z.natAbs ≤ 8 := fun z h1 h2 => nd_le 256 (by omega) _ 8 (by
  have : (256 : Nat) ^ 8 = 18446744073709551616 := by decide
  omega)
 have h1 := hs n n1 n2
 have h2 := hs d d1 d2
 exact walk (code := Tryz.f43.body.getD .skip) [c (rInt n n1 n2), c (rInt d d1 d2), c (rMake n d h0 (by omega) (by omega))] fol Tryz.func43 (by kernel_rfl) (fun xs w => Tryz.call43 xs w) (by kernel_rfl)
end Go.Proofs.YthdaimoankaciaaGreatDoor
set_option linter.unusedSimpArgs false
set_option linter.unusedVariables false
namespace Go.Proofs.YthdaimoankaciaaGreatDoor
open Go Go.RowKit Go.Sy
open Vi
abbrev Bin (op : BinOp) (T : TypeId) (x y v : Value) : Prop := ∀ ox oy w, ((do eqGuard op T ox oy x y; binOp op T x y : Sem Value)).run Tryz.prog w = .ok v w
theorem eqI_run (d : Nat) (x y : Int) (w : World) : (Op.equalIn (d + 2) 23 (iV x) (iV y)).run Tryz.prog w = .ok (x == y) w := by
 rw [← int_beq]
 unfold iV
 rw [run_equalIn_agg _ _ _ _ _ (by kernel_rfl) (by kernel_rfl)]
 simp [go_sem]
 cases h1 : (sg x == sg y) <;> cases h2 : ((mg x).toList == (mg y).toList) <;> simp_all
theorem eqR_run (d : Nat) (p q : Rat) (w : World) : (Op.equalIn (d + 3) 25 (rV p) (rV q)).run Tryz.prog w = .ok (decide (p = q)) w := by
 rw [← rat_beq, ← int_beq p.num, ← int_beq (dn p)]
 unfold rV
 rw [run_equalIn_agg _ _ _ _ _ (by kernel_rfl) (by kernel_rfl)]
 simp [go_sem]
 cases h1 : (sg p.num == sg q.num) <;> cases h2 : ((mg p.num).toList == (mg q.num).toList) <;> cases h3 : (sg (dn p) == sg (dn q)) <;> cases h4 : ((mg (dn p)).toList == (mg (dn q)).toList) <;> simp_all
theorem binI (x y : Int) : Bin .eql 23 (iV x) (iV y) (.bool (x == y)) := fun ox oy w => by
 have h := eqI_run 9998 x y w
 unfold iV at h ⊢
 rw [Sem.run_bind, run_eqGuard_agg _ _ _ _ _ _ _ (by kernel_rfl), Result.andThen_ok, run_eql_struct, h]
 rfl
theorem binI' (x y : Int) : Bin .neq 23 (iV x) (iV y) (.bool (!(x == y))) := fun ox oy w => by
 have h := eqI_run 9998 x y w
 unfold iV at h ⊢
 rw [Sem.run_bind, run_eqGuard_agg _ _ _ _ _ _ _ (by kernel_rfl), Result.andThen_ok, run_neq_struct, h]
 rfl
theorem binR (p q : Rat) : Bin .eql 25 (rV p) (rV q) (.bool (decide (p = q))) := fun ox oy w => by
 have h := eqR_run 9997 p q w
 unfold rV at h ⊢
 rw [Sem.run_bind, run_eqGuard_agg _ _ _ _ _ _ _ (by kernel_rfl), Result.andThen_ok, run_eql_struct, h]
 rfl
theorem binR' (p q : Rat) : Bin .neq 25 (rV p) (rV q) (.bool (!decide (p = q))) := fun ox oy w => by
 have h := eqR_run 9997 p q w
 unfold rV at h ⊢
 rw [Sem.run_bind, run_eqGuard_agg _ _ _ _ _ _ _ (by kernel_rfl), Result.andThen_ok, run_neq_struct, h]
 rfl
def iZ : Value := .agg #[.bool false, .string ⟨#[]⟩]
def rZ : Value := .agg #[.bool false, .string ⟨#[]⟩, .bool false, .string ⟨#[]⟩]
theorem sg0 : sg 0 = false := by decide
theorem mg0 : mg 0 = ⟨#[]⟩ := by decide
theorem iV0 : iV 0 = iZ := by unfold iV iZ; rw [sg0, mg0]
theorem dn_int (n : Int) : dn (n : Rat) = 0 := by unfold dn; rw [Rat.den_intCast, if_pos rfl]
theorem rV_int (n : Int) : rV (n : Rat) = .agg #[.bool (sg n), .string (mg n), .bool false, .string ⟨#[]⟩] := by unfold rV; rw [dn_int, sg0, mg0, Rat.num_intCast]
theorem rV0 : rV 0 = rZ := by rw [show (0 : Rat) = ((0 : Int) : Rat) from rfl, rV_int, sg0, mg0]; rfl
theorem Bin.as {op : BinOp} {T : TypeId} {x y v : Value} {b c : Bool} (h : Bin op T x y (.bool b)) (e : b = c) : Bin op T x y (.bool c) := e ▸ h
theorem binI0 (x : Int) {b : Bool} (e : (x == 0) = b) : Bin .eql 23 (iV x) iZ (.bool b) := by rw [← iV0]; exact (binI x 0).as (v := .nilIface) e
theorem binI1 (x y : Int) {b : Bool} (e : (x == y) = b) : Bin .eql 23 (iV x) (iV y) (.bool b) := (binI x y).as (v := .nilIface) e
theorem binI1' (x y : Int) {b : Bool} (e : (!(x == y)) = b) : Bin .neq 23 (iV x) (iV y) (.bool b) := (binI' x y).as (v := .nilIface) e
theorem binR1 (p q : Rat) {b : Bool} (e : decide (p = q) = b) : Bin .eql 25 (rV p) (rV q) (.bool b) := (binR p q).as (v := .nilIface) e
theorem binR1' (p q : Rat) {b : Bool} (e : (!decide (p = q)) = b) : Bin .neq 25 (rV p) (rV q) (.bool b) := (binR' p q).as (v := .nilIface) e
theorem binR0 (p : Rat) {b : Bool} (e : decide (p = 0) = b) : Bin .eql 25 (rV p) rZ (.bool b) := by rw [← rV0]; exact binR1 p 0 e
theorem binR0' (p : Rat) {b : Bool} (e : (!decide (p = 0)) = b) : Bin .neq 25 (rV p) rZ (.bool b) := by rw [← rV0]; exact binR1' p 0 e
end Go.Proofs.YthdaimoankaciaaGreatDoor
set_option linter.unusedSimpArgs false
set_option linter.unusedVariables false
namespace Go.Proofs.YthdaimoankaciaaGreatDoor
open Go Go.RowKit Go.Sy
open Vi
theorem cmpI_neg {x : Int} (h : x < 0) : cmpI x 0 = -1 := by unfold cmpI; rw [if_pos h]
theorem cmpI_pos {x : Int} (h : 0 < x) : cmpI x 0 = 1 := by unfold cmpI; rw [if_neg (by omega), if_neg (by omega)]
theorem pOne : Sp Tryz.prog 129 [] [] (iV 1) [] := walk (code := Tryz.f129.body.getD .skip) [c (iFromInt 1 (by omega) (by omega))] fol Tryz.func129 (by kernel_rfl) (fun xs w => Tryz.call129 xs w) (by kernel_rfl)
theorem pQuot (a b : Int) (hb : b ≠ 0) (sa : (mg a).size ≤ 4294967290) (sb : (mg b).size ≤ 4294967290) : Sp Tryz.prog 172 [] [iV a, iV b] (iV (a / b)) [] := walk (code := Tryz.f172.body.getD .skip) [c (iDivMod a b hb (by omega) (by omega))] fol Tryz.func172 (by kernel_rfl) (fun xs w => Tryz.call172 xs w) (by kernel_rfl)
theorem rV_is {q : Rat} {z e : Int} (h1 : q.num = z) (h2 : dn q = e) : rV q = .agg #[.bool (sg z), .string (mg z), .bool (sg e), .string (mg e)] := (rV_of h1 h2).symm
theorem rV_is1 {q : Rat} {z : Int} (h1 : q.num = z) (h2 : q.den = 1) : rV q = .agg #[.bool (sg z), .string (mg z), .bool false, .string ⟨#[]⟩] := by
 rw [rV_is h1 (e := 0) (by unfold dn; rw [if_pos h2]), sg0, mg0]
theorem mg_le {x y : Int} (h : x.natAbs ≤ y.natAbs) : (mg x).size ≤ (mg y).size := by rw [mg_nd, mg_nd]; exact nd_mono 256 (by omega) _ _ h
theorem canPos (n d : Int) (hd : 0 < d) (sn : (mg n).size ≤ 4294967290) (sd : (mg d).size ≤ 4294967290) :
    ∃ g : Int, 0 < g ∧ g.natAbs ≤ d.natAbs ∧ Sp Tryz.prog 162 [] [iV n, iV d] (iV g) [] ∧ (Rat.divInt n d).num = n / g ∧ ((Rat.divInt n d).den : Int) = d / g := by
 refine ⟨gg n d, gg_pos n d (by omega), ?_, iGcd n d (by omega) (by omega), num_of n d hd, den_of n d hd⟩
 show (Nat.gcd n.natAbs d.natAbs : Nat) ≤ d.natAbs
 exact Nat.gcd_le_right _ (by omega)
theorem den_pos' (q : Rat) : 0 < (q.den : Int) := den_pos q
theorem pCan (n d : Int) (h0 : d ≠ 0) (sn : (mg n).size ≤ 4294967290) (sd : (mg d).size ≤ 4294967290) : Sp Tryz.prog 135 [] [iV n, iV d] (rV (Rat.divInt n d)) [] := by
 rcases Int.lt_or_gt_of_ne h0 with hd | hd
 ·have sn' : (mg (-n)).size ≤ 4294967290 := by rw [mg_nd, Int.natAbs_neg, ← mg_nd]; exact sn
  have sd' : (mg (-d)).size ≤ 4294967290 := by rw [mg_nd, Int.natAbs_neg, ← mg_nd]; exact sd
  obtain ⟨g, g0, gd, hg, e1, e2⟩ := canPos (-n) (-d) (by omega) sn' sd'
  have sg' : (mg g).size ≤ 4294967290 := Nat.le_trans (mg_le (y := -d) gd) sd'
  have s1 : cmpI d 0 = -1 := cmpI_neg hd
  have hs := iSign d
  rw [s1] at hs
  rw [← neg_of n d]
  by_cases h1 : (-d) / g = 1
  ·rw [rV_is1 e1 (by omega)]
   exact walk (code := Tryz.f135.body.getD .skip) [c hs, c (iNegate n), c (iNegate d), c hg, c (pQuot (-n) g (by omega) sn' sg'), c (pQuot (-d) g (by omega) sd' sg'), c pOne, x2 (binI1 ((-d) / g) 1 (b := true) (by rw [h1]; rfl))] fol Tryz.func135 (by kernel_rfl) (fun xs w => Tryz.call135 xs w) (by kernel_rfl)
  ·rw [rV_is e1 (e := (-d) / g) (by unfold dn; rw [if_neg (by omega)]; exact e2)]
   exact walk (code := Tryz.f135.body.getD .skip) [c hs, c (iNegate n), c (iNegate d), c hg, c (pQuot (-n) g (by omega) sn' sg'), c (pQuot (-d) g (by omega) sd' sg'), c pOne, x2 (binI1 ((-d) / g) 1 (b := false) (by simpa using h1))] fol Tryz.func135 (by kernel_rfl) (fun xs w => Tryz.call135 xs w) (by kernel_rfl)
 ·obtain ⟨g, g0, gd, hg, e1, e2⟩ := canPos n d hd sn sd
  have sg' : (mg g).size ≤ 4294967290 := Nat.le_trans (mg_le gd) sd
  have s1 : cmpI d 0 = 1 := cmpI_pos hd
  have hs := iSign d
  rw [s1] at hs
  by_cases h1 : d / g = 1
  ·rw [rV_is1 e1 (by omega)]
   exact walk (code := Tryz.f135.body.getD .skip) [c hs, c hg, c (pQuot n g (by omega) sn sg'), c (pQuot d g (by omega) sd sg'), c pOne, x2 (binI1 (d / g) 1 (b := true) (by rw [h1]; rfl))] fol Tryz.func135 (by kernel_rfl) (fun xs w => Tryz.call135 xs w) (by kernel_rfl)
  ·rw [rV_is e1 (e := d / g) (by unfold dn; rw [if_neg (by omega)]; exact e2)]
   exact walk (code := Tryz.f135.body.getD .skip) [c hs, c hg, c (pQuot n g (by omega) sn sg'), c (pQuot d g (by omega) sd sg'), c pOne, x2 (binI1 (d / g) 1 (b := false) (by simpa using h1))] fol Tryz.func135 (by kernel_rfl) (fun xs w => Tryz.call135 xs w) (by kernel_rfl)
theorem pMake (n d : Int) (h0 : d ≠ 0) (sn : (mg n).size ≤ 4294967290) (sd : (mg d).size ≤ 4294967290) : Sp Tryz.prog 118 [] [iV n, iV d] (.tuple #[rV (Rat.divInt n d), nV 0]) [] := by
 have hs := iSign d
 have e : decide (cmpI d 0 = 0) = false := by unfold cmpI; rcases Int.lt_or_gt_of_ne h0 with h | h <;> simp <;> omega
 rcases Int.lt_or_gt_of_ne h0 with h | h
 ·rw [cmpI_neg h] at hs
  exact walk (code := Tryz.f118.body.getD .skip) [c hs, c (pCan n d h0 sn sd)] fol Tryz.func118 (by kernel_rfl) (fun xs w => Tryz.call118 xs w) (by kernel_rfl)
 ·rw [cmpI_pos h] at hs
  exact walk (code := Tryz.f118.body.getD .skip) [c hs, c (pCan n d h0 sn sd)] fol Tryz.func118 (by kernel_rfl) (fun xs w => Tryz.call118 xs w) (by kernel_rfl)
theorem pFromInt (n : Int) (h1 : -9223372036854775808 ≤ n) (h2 : n ≤ 9223372036854775807) : Sp Tryz.prog 84 [] [nV n] (rV (n : Rat)) [] := by
 rw [rV_int]
 exact walk (code := Tryz.f84.body.getD .skip) [c (iFromInt n h1 h2)] fol Tryz.func84 (by kernel_rfl) (fun xs w => Tryz.call84 xs w) (by kernel_rfl)
theorem pNum (p : Rat) : Sp Tryz.prog 104 [] [rV p] (iV p.num) [] := walk (code := Tryz.f104.body.getD .skip) [] fol Tryz.func104 (by kernel_rfl) (fun xs w => Tryz.call104 xs w) (by kernel_rfl)
theorem pDen (p : Rat) : Sp Tryz.prog 105 [] [rV p] (iV p.den) [] := by
 by_cases h : p.den = 1
 ·rw [h]
  exact walk (code := Tryz.f105.body.getD .skip) [x2 (binI0 (dn p) (b := true) (by unfold dn; rw [if_pos h]; rfl)), c pOne] fol Tryz.func105 (by kernel_rfl) (fun xs w => Tryz.call105 xs w) (by kernel_rfl)
 ·have e : dn p = (p.den : Int) := by unfold dn; rw [if_neg h]
  rw [show iV (p.den : Int) = iV (dn p) by rw [e]]
  exact walk (code := Tryz.f105.body.getD .skip) [x2 (binI0 (dn p) (b := false) (by rw [e]; have := p.den_nz; simp; omega))] fol Tryz.func105 (by kernel_rfl) (fun xs w => Tryz.call105 xs w) (by kernel_rfl)
theorem pNeg (p : Rat) : Sp Tryz.prog 81 [] [rV p] (rV (-p)) [] := by
 rw [rV_is (q := -p) (Rat.neg_num p) (dn_neg p)]
 exact walk (code := Tryz.f81.body.getD .skip) [c (iNegate p.num)] fol Tryz.func81 (by kernel_rfl) (fun xs w => Tryz.call81 xs w) (by kernel_rfl)
theorem pSign (p : Rat) : Sp Tryz.prog 86 [] [rV p] (nV (cmpI p.num 0)) [] := walk (code := Tryz.f86.body.getD .skip) [c (iSign p.num)] fol Tryz.func86 (by kernel_rfl) (fun xs w => Tryz.call86 xs w) (by kernel_rfl)
theorem cross_frac (p q : Rat) (x y d : Int) (hx : x = if dn p = dn q then p.num else p.num * q.den) (hy : y = if dn p = dn q then q.num else q.num * p.den) (hd : d = if dn p = dn q then (p.den : Int) else p.den * q.den) : d ≠ 0 ∧ p + q = Rat.divInt (x + y) d ∧ 0 < d ∧ cmpI x y = cmpI (p.num * q.den) (q.num * p.den) := by
 have h1 := den_pos p
 have h2 := den_pos q
 by_cases h : dn p = dn q
 ·rw [if_pos h] at hx hy hd
  have hde := dn_inj h
  refine ⟨by omega, ?_, by omega, ?_⟩
  ·rw [add_of, hx, hy, hd, ← hde, ← Int.add_mul, Rat.divInt_mul_right (by omega)]
  ·rw [hx, hy, ← hde]
   unfold cmpI
   by_cases h3 : p.num < q.num
   ·rw [if_pos h3, if_pos (Int.mul_lt_mul_of_pos_right h3 h1)]
   ·rw [if_neg h3]
    have h4 : ¬ p.num * (p.den : Int) < q.num * (p.den : Int) := fun h5 => h3 (Int.lt_of_mul_lt_mul_right h5 (by omega))
    rw [if_neg h4]
    by_cases h6 : p.num = q.num
    ·rw [if_pos h6, if_pos (by rw [h6])]
    ·rw [if_neg h6, if_neg (fun h7 => h6 (Int.eq_of_mul_eq_mul_right (by omega) h7))]
 ·rw [if_neg h] at hx hy hd
  have h3 := Int.mul_pos h1 h2
  refine ⟨by omega, ?_, by omega, by rw [hx, hy]⟩
  rw [hx, hy, hd, add_of]
theorem pCross (p q : Rat) (hp : Fits p) (hq : Fits q) : ∃ x y d : Int, d ≠ 0 ∧ (mg x).size ≤ 4000000 ∧ (mg y).size ≤ 4000000 ∧ (mg d).size ≤ 4000000 ∧ p + q = Rat.divInt (x + y) d ∧ cmpI x y = cmpI (p.num * q.den) (q.num * p.den) ∧
    Sp Tryz.prog 142 [] [rV p, rV q] (.tuple #[iV x, iV y, iV d]) [] := by
 have a1 := hp.1
 have a2 := hp.2
 have b1 := hq.1
 have b2 := hq.2
 obtain ⟨c0, c1, _, c3⟩ := cross_frac p q _ _ _ rfl rfl rfl
 by_cases h : dn p = dn q
 ·simp only [if_pos h] at c0 c1 c3
  refine ⟨p.num, q.num, p.den, c0, by rw [mg_nd]; omega, by rw [mg_nd]; omega, by rw [mg_nd]; simp; omega, c1, c3, ?_⟩
  exact walk (code := Tryz.f142.body.getD .skip) [x2 (binI1 (dn p) (dn q) (b := true) (by rw [h]; simp)), c (pDen p)] fol Tryz.func142 (by kernel_rfl) (fun xs w => Tryz.call142 xs w) (by kernel_rfl)
 ·simp only [if_neg h] at c0 c1 c3
  have m1 := nd_mul p.num.natAbs q.den
  have m2 := nd_mul q.num.natAbs p.den
  have m3 := nd_mul p.den q.den
  refine ⟨p.num * q.den, q.num * p.den, p.den * q.den, c0, by rw [mg_nd, Int.natAbs_mul, Int.natAbs_natCast]; omega, by rw [mg_nd, Int.natAbs_mul, Int.natAbs_natCast]; omega, by rw [mg_nd, Int.natAbs_mul, Int.natAbs_natCast, Int.natAbs_natCast]; omega, c1, rfl, ?_⟩
  have z1 : (mg p.num).size ≤ 131000 := by rw [mg_nd]; omega
  have z2 : (mg q.num).size ≤ 131000 := by rw [mg_nd]; omega
  have z3 : (mg (p.den : Int)).size ≤ 131000 := by rw [mg_nd]; simpa using a2
  have z4 : (mg (q.den : Int)).size ≤ 131000 := by rw [mg_nd]; simpa using b2
  exact walk (code := Tryz.f142.body.getD .skip) [x2 (binI1 (dn p) (dn q) (b := false) (by simpa using h)), c (pDen q), c (iMul p.num q.den (by omega) (by omega)), c (pDen p), c (iMul q.num p.den (by omega) (by omega)), c (pDen p), c (pDen q), c (iMul p.den q.den (by omega) (by omega))] fol Tryz.func142 (by kernel_rfl) (fun xs w => Tryz.call142 xs w) (by kernel_rfl)
theorem sum_sz (x y : Int) (hx : (mg x).size ≤ 4000000) (hy : (mg y).size ≤ 4000000) : (mg (x + y)).size ≤ 8000001 := by
 rw [mg_nd] at *
 have := nd_add x.natAbs y.natAbs
 have h := nd_mono 256 (by omega) (x + y).natAbs (x.natAbs + y.natAbs) (by omega)
 omega
theorem pAdd (p q : Rat) (hp : Fits p) (hq : Fits q) : Sp Tryz.prog 95 [] [rV p, rV q] (rV (p + q)) [] := by
 obtain ⟨x, y, d, h0, sx, sy, sd, e, _, hC⟩ := pCross p q hp hq
 have := sum_sz x y sx sy
 rw [e]
 exact walk (code := Tryz.f95.body.getD .skip) [c hC, c (iAdd x y (by omega) (by omega)), c (pCan (x + y) d h0 (by omega) (by omega))] fol Tryz.func95 (by kernel_rfl) (fun xs w => Tryz.call95 xs w) (by kernel_rfl)
theorem Fits.neg {q : Rat} (h : Fits q) : Fits (-q) := ⟨by rw [Rat.neg_num, Int.natAbs_neg]; exact h.1, by rw [Rat.neg_den]; exact h.2⟩
theorem pSub (p q : Rat) (hp : Fits p) (hq : Fits q) : Sp Tryz.prog 85 [] [rV p, rV q] (rV (p - q)) [] := by
 rw [Rat.sub_eq_add_neg]
 exact walk (code := Tryz.f85.body.getD .skip) [c (pNeg q), c (pAdd p (-q) hp hq.neg)] fol Tryz.func85 (by kernel_rfl) (fun xs w => Tryz.call85 xs w) (by kernel_rfl)
theorem pMul (p q : Rat) (hp : Fits p) (hq : Fits q) : Sp Tryz.prog 83 [] [rV p, rV q] (rV (p * q)) [] := by
 have a1 := hp.1
 have a2 := hp.2
 have b1 := hq.1
 have b2 := hq.2
 have m1 := nd_mul p.num.natAbs q.num.natAbs
 have m3 := nd_mul p.den q.den
 have z1 : (mg p.num).size ≤ 131000 := by rw [mg_nd]; omega
 have z2 : (mg q.num).size ≤ 131000 := by rw [mg_nd]; omega
 have z3 : (mg (p.den : Int)).size ≤ 131000 := by rw [mg_nd]; simpa using a2
 have z4 : (mg (q.den : Int)).size ≤ 131000 := by rw [mg_nd]; simpa using b2
 rw [mul_of]
 exact walk (code := Tryz.f83.body.getD .skip) [c (iMul p.num q.num (by omega) (by omega)), c (pDen p), c (pDen q), c (iMul p.den q.den (by omega) (by omega)), c (pCan (p.num * q.num) (p.den * q.den) (by have := den_pos p; have := den_pos q; exact Int.mul_ne_zero (by omega) (by omega)) (by rw [mg_nd, Int.natAbs_mul]; omega) (by rw [mg_nd, Int.natAbs_mul, Int.natAbs_natCast, Int.natAbs_natCast]; omega))] fol Tryz.func83 (by kernel_rfl) (fun xs w => Tryz.call83 xs w) (by kernel_rfl)
theorem pDiv (p q : Rat) (h0 : q ≠ 0) (hp : Fits p) (hq : Fits q) : Sp Tryz.prog 134 [] [rV p, rV q] (.tuple #[rV (p / q), nV 0]) [] := by
 have a1 := hp.1
 have a2 := hp.2
 have b1 := hq.1
 have b2 := hq.2
 have m1 := nd_mul p.num.natAbs q.den
 have m3 := nd_mul p.den q.num.natAbs
 have z1 : (mg p.num).size ≤ 131000 := by rw [mg_nd]; omega
 have z2 : (mg q.num).size ≤ 131000 := by rw [mg_nd]; omega
 have z3 : (mg (p.den : Int)).size ≤ 131000 := by rw [mg_nd]; simpa using a2
 have z4 : (mg (q.den : Int)).size ≤ 131000 := by rw [mg_nd]; simpa using b2
 have hqn : q.num ≠ 0 := fun h => h0 (Rat.num_eq_zero.1 h)
 rw [div_of]
 exact walk (code := Tryz.f134.body.getD .skip) [c (pDen q), c (iMul p.num q.den (by omega) (by omega)), c (pDen p), c (iMul p.den q.num (by omega) (by omega)), c (pMake (p.num * q.den) (p.den * q.num) (by have := den_pos p; exact Int.mul_ne_zero (by omega) hqn) (by rw [mg_nd, Int.natAbs_mul, Int.natAbs_natCast]; omega) (by rw [mg_nd, Int.natAbs_mul, Int.natAbs_natCast]; omega))] fol Tryz.func134 (by kernel_rfl) (fun xs w => Tryz.call134 xs w) (by kernel_rfl)
theorem pCompare (p q : Rat) (hp : Fits p) (hq : Fits q) : Sp Tryz.prog 123 [] [rV p, rV q] (nV (cmpQ p q)) [] := by
 by_cases h : p = q
 ·subst h
  rw [show cmpQ p p = 0 by unfold cmpQ; rw [if_neg (Rat.lt_irrefl), if_pos rfl]]
  exact walk (code := Tryz.f123.body.getD .skip) [x2 (binR1 p p (b := true) (by simp))] fol Tryz.func123 (by kernel_rfl) (fun xs w => Tryz.call123 xs w) (by kernel_rfl)
 ·obtain ⟨x, y, d, h0, sx, sy, sd, _, e, hC⟩ := pCross p q hp hq
  rw [cmpQ_int, ← e]
  exact walk (code := Tryz.f123.body.getD .skip) [x2 (binR1 p q (b := false) (by simpa using h)), c hC, c (iCompare x y (by omega) (by omega))] fol Tryz.func123 (by kernel_rfl) (fun xs w => Tryz.call123 xs w) (by kernel_rfl)
end Go.Proofs.YthdaimoankaciaaGreatDoor
set_option linter.unusedSimpArgs false
set_option linter.unusedVariables false
namespace Go.Proofs.YthdaimoankaciaaGreatDoor
open Go Go.RowKit Go.Sy
open Vi
theorem floor_of (p : Rat) : p.floor = p.num / p.den := Rat.floor_def p
theorem one_of : Rat.divInt 1 1 = 1 := by decide +kernel
theorem Fits.int {z : Int} (h : nd 256 z.natAbs ≤ 131000) : Fits (z : Rat) := ⟨by rw [Rat.num_intCast]; exact h, by rw [Rat.den_intCast, nd_small 1 (by omega) (by omega)]; omega⟩
theorem Fits.one : Fits 1 := Fits.int (z := 1) (by rw [show (1 : Int).natAbs = 1 from rfl, nd_small 1 (by omega) (by omega)]; omega)
theorem rOne : Sp Tryz.prog 43 [] [nV 1, nV 1] (rV 1) [] := by
 have := rOf 1 1 (by omega) (by omega) (by omega) (by omega) (by omega)
 rw [one_of] at this
 exact this
theorem rFloor (p : Rat) (hp : Fits p) : Sp Tryz.prog 115 [] [rV p] (rV ((p.floor : Int) : Rat)) [] := by
 have p1 := hp.1
 have p2 := hp.2
 have hd : 0 < p.den := by have := p.den_nz; omega
 have hOf := fOf p hp
 have hDv := dDivide p.num.natAbs p.den hd (by omega) (by omega)
 have hq := nd_mono 256 (by omega) (p.num.natAbs / p.den) p.num.natAbs (Nat.div_le_self _ _)
 rw [floor_of]
 cases hs : sg p.num
 ·have hn : (p.num.natAbs : Int) = p.num := by unfold sg at hs; have : ¬ p.num < 0 := by simpa using hs
                                               omega
  have e : p.num / p.den = ((p.num.natAbs / p.den : Nat) : Int) := by
   rw [← floor_pos, hn]
  have hW := dWhole false (p.num.natAbs / p.den) (by omega)
  rw [e, rV_int]
  rw [hs] at hOf
  exact walk (code := Tryz.f115.body.getD .skip) [cr hOf, cr hDv, cr hW] fol Tryz.func115 (by kernel_rfl) (fun xs w => Tryz.call115 xs w) (by kernel_rfl)
 ·have hn : p.num = -(p.num.natAbs : Int) := by unfold sg at hs; have : p.num < 0 := by simpa using hs
                                                omega
  have e : p.num / p.den = -((p.num.natAbs / p.den : Nat) : Int) - (if p.num.natAbs % p.den = 0 then 0 else 1) := by
   rw [← floor_neg _ _ hd]
   congr 1
  have hW := dWhole true (p.num.natAbs / p.den) (by omega)
  rw [hs] at hOf
  rw [if_pos rfl] at hW
  by_cases h0 : p.num.natAbs % p.den = 0
  ·rw [e, if_pos h0, Int.sub_zero, rV_int]
   have eb0 : decide ((nd 256 (p.num.natAbs % p.den) : Int) > 0) = false := by rw [h0, nd_zero]; rfl
   exact walk (code := Tryz.f115.body.getD .skip) [cr hOf, cr hDv, cr hW, eb eb0] fol Tryz.func115 (by kernel_rfl) (fun xs w => Tryz.call115 xs w) (by kernel_rfl)
  ·have eb1 : decide ((nd 256 (p.num.natAbs % p.den) : Int) > 0) = true := by
     have := nd_pos 256 (by omega) (p.num.natAbs % p.den) (by omega)
     simpa using this
   have hS := rSub ((-((p.num.natAbs / p.den : Nat) : Int) : Int) : Rat) 1 (Fits.int (by rw [Int.natAbs_neg, Int.natAbs_natCast]; omega)) Fits.one
   rw [rV_int, show (((-((p.num.natAbs / p.den : Nat) : Int) : Int) : Rat) - 1) = ((-((p.num.natAbs / p.den : Nat) : Int) - 1 : Int) : Rat) by rw [Rat.intCast_sub]; rfl] at hS
   rw [e, if_neg h0]
   exact walk (code := Tryz.f115.body.getD .skip) [cr hOf, cr hDv, cr hW, eb eb1, c rOne, c hS] fol Tryz.func115 (by kernel_rfl) (fun xs w => Tryz.call115 xs w) (by kernel_rfl)
theorem mg1 : mg 1 = ⟨#[1]⟩ := by decide
theorem isOne {s : ByteArray} (h : okInt false s = true) : (s.toList == (⟨#[1]⟩ : ByteArray).toList) = (num s == 1) := by
 obtain ⟨z, h1, rfl⟩ := okInt_num false s h
 rw [num_mg, ← mg1]
 have := int_beq z 1
 rw [← h1, show sg 1 = false by decide] at this
 simp only [BEq.rfl, Bool.true_and] at this
 rw [this]
 have : 0 ≤ z := by
  have h1 := h1.symm
  unfold sg at h1
  have : ¬ z < 0 := by simpa using h1
  omega
 rw [Bool.eq_iff_iff]
 simp
 omega
theorem rCheck (b1 : Bool) (s1 : ByteArray) (b2 : Bool) (s2 : ByteArray) (h1 : s1.size ≤ 131000) (h2 : s2.size ≤ 131000) : Sp Tryz.prog 41 [] [.agg #[.bool b1, .string s1, .bool b2, .string s2]] (.bool (okRat b1 s1 b2 s2)) [] := by
 have c1 := rIsInt b1 s1 (by omega)
 have c2 := rIsInt b2 s2 (by omega)
 unfold okRat
 cases k1 : okInt b1 s1 <;> rw [k1] at c1
 ·exact walk (code := Tryz.f41.body.getD .skip) [c c1] fol Tryz.func41 (by kernel_rfl) (fun xs w => Tryz.call41 xs w) (by kernel_rfl)
 cases k2 : okInt b2 s2 <;> rw [k2] at c2
 ·exact walk (code := Tryz.f41.body.getD .skip) [c c1, c c2] fol Tryz.func41 (by kernel_rfl) (fun xs w => Tryz.call41 xs w) (by kernel_rfl)
 cases b2
 case true => exact walk (code := Tryz.f41.body.getD .skip) [c c1, c c2] fol Tryz.func41 (by kernel_rfl) (fun xs w => Tryz.call41 xs w) (by kernel_rfl)
 cases k3 : (s2.toList == [])
 ·have n1 : nd 256 (num s1) ≤ 131000 := Nat.le_trans (nd_le 256 (by omega) _ s1.size (num_lt s1)) h1
  have n2 : nd 256 (num s2) ≤ 131000 := Nat.le_trans (nd_le 256 (by omega) _ s2.size (num_lt s2)) h2
  have k4 : s2.toList.isEmpty = false := by rw [← k3]; cases s2.toList <;> rfl
  have hi := isOne k2
  have hC := dCommon (num s1) (num s2) (by omega) (by omega)
  rw [k4, Nat.gcd_comm (num s1) (num s2)]
  obtain ⟨G, hG⟩ : ∃ G, G = Nat.gcd (num s2) (num s1) := ⟨_, rfl⟩
  rw [← hG] at hC ⊢
  have hd1 := dDigits b1 s1 (by omega)
  have hd2 := dDigits false s2 (by omega)
  cases k5 : (num s2 == 1)
  ·rw [show (num s2 != 1) = true by show (!(num s2 == 1)) = true; rw [k5]; rfl]
   have e5 : (!(s2.toList == (⟨#[1]⟩ : ByteArray).toList)) = true := by rw [hi, k5]; rfl
   by_cases k6 : nd 256 G = 1
   ·have g0 : 0 < G := by
      rcases Nat.eq_zero_or_pos G with h | h
      ·rw [h, nd_zero] at k6; omega
      ·exact h
    have g1 : G < 256 := by have := lt_pow_nd 256 (by omega) G; rw [k6] at this; simpa using this
    rw [k6, rD_small G g0 g1] at hC
    have e7 : ((true && true && !false && (false || true && G == 1)) : Bool) = decide ((G : Int) = 1) := by
     rw [Bool.eq_iff_iff]; simp; omega
    show Sp _ _ _ _ (.bool (true && true && !false && (false || true && G == 1))) _
    rw [e7]
    exact walk (code := Tryz.f41.body.getD .skip) [c c1, c c2, L, eb k3, cr hd1, cr hd2, cr hC, eb e5] fol Tryz.func41 (by kernel_rfl) (fun xs w => Tryz.call41 xs w) (by kernel_rfl)
   ·have e6 : decide ((nd 256 G : Int) = 1) = false := decide_eq_false (by omega)
    have e7 : (G == 1) = false := by
     have : G ≠ 1 := fun h => k6 (by rw [h]; exact nd_small 1 (by omega) (by omega))
     simpa using this
    rw [e7]
    exact walk (code := Tryz.f41.body.getD .skip) [c c1, c c2, L, eb k3, cr hd1, cr hd2, cr hC, eb e5, eb e6] fol Tryz.func41 (by kernel_rfl) (fun xs w => Tryz.call41 xs w) (by kernel_rfl)
  ·rw [show (num s2 != 1) = false by show (!(num s2 == 1)) = false; rw [k5]; rfl]
   have e5 : (!(s2.toList == (⟨#[1]⟩ : ByteArray).toList)) = false := by rw [hi, k5]; rfl
   exact walk (code := Tryz.f41.body.getD .skip) [c c1, c c2, L, eb k3, cr hd1, cr hd2, cr hC, eb e5] fol Tryz.func41 (by kernel_rfl) (fun xs w => Tryz.call41 xs w) (by kernel_rfl)
 ·have k4 : s2.toList.isEmpty = true := by rw [← k3]; cases s2.toList <;> rfl
  rw [k4]
  exact walk (code := Tryz.f41.body.getD .skip) [c c1, c c2, L, eb k3] fol Tryz.func41 (by kernel_rfl) (fun xs w => Tryz.call41 xs w) (by kernel_rfl)
theorem rCheckQ (q : Rat) (hq : Fits q) : Sp Tryz.prog 41 [] [rV q] (.bool true) [] := by
 have := rCheck (sg q.num) (mg q.num) (sg (dn q)) (mg (dn q)) hq.mn hq.md
 rw [okRat_of] at this
 exact this
end Go.Proofs.YthdaimoankaciaaGreatDoor
set_option linter.unusedSimpArgs false
set_option linter.unusedVariables false
namespace Go.Proofs.YthdaimoankaciaaGreatDoor
open Go Go.RowKit Go.Sy
open Vi
theorem w8 {z : Nat} (h : z < 256) : IntKind.u8.wrap z = z := by
 show ((z : Int) % 256) = z
 omega
end Go.Proofs.YthdaimoankaciaaGreatDoor
set_option linter.unusedSimpArgs false
set_option linter.unusedVariables false
namespace Go.Proofs.YthdaimoankaciaaGreatDoor
open Go Go.RowKit Go.Sy
open Vi
theorem cmpQ_cases (p q : Rat) : (cmpQ p q = -1 ∧ p < q) ∨ (cmpQ p q = 0 ∧ p = q) ∨ (cmpQ p q = 1 ∧ q < p) := by
 unfold cmpQ
 by_cases h : p < q
 ·exact .inl ⟨by rw [if_pos h], h⟩
 ·by_cases h2 : p = q
  ·exact .inr (.inl ⟨by rw [if_neg h, if_pos h2], h2⟩)
  ·exact .inr (.inr ⟨by rw [if_neg h, if_neg h2], Rat.lt_of_le_of_ne (Rat.not_lt.1 h) (fun e => h2 e.symm)⟩)
theorem sgn_cases (p : Rat) : (cmpI p.num 0 = -1 ∧ p < 0) ∨ (cmpI p.num 0 = 0 ∧ p = 0) ∨ (cmpI p.num 0 = 1 ∧ 0 < p) := by
 have h1 : p.num < 0 ↔ p < 0 := by
  rw [← Int.not_le, Rat.num_nonneg, Rat.not_le]
 unfold cmpI
 by_cases h : p.num < 0
 ·exact .inl ⟨by rw [if_pos h], h1.1 h⟩
 ·by_cases h2 : p.num = 0
  ·exact .inr (.inl ⟨by rw [if_neg h, if_pos h2], Rat.num_eq_zero.1 h2⟩)
  ·refine .inr (.inr ⟨by rw [if_neg h, if_neg h2], Rat.lt_of_le_of_ne (Rat.not_lt.1 (fun h3 => h (h1.2 h3))) (fun e => h2 (by rw [← e]; rfl))⟩)
theorem pI (n : Int) (h1 : -9223372036854775808 ≤ n) (h2 : n ≤ 9223372036854775807) : Sp Tryz.prog 84 [] [nV n] (rV (n : Rat)) [] := pFromInt n h1 h2
end Go.Proofs.YthdaimoankaciaaGreatDoor

end
section
/- No program in sight: square roots of natural numbers, Newton's method from above. -/
namespace Vi
theorem sqrt_mono {a b X : Nat} (h1 : a * a ≤ X) (h2 : X < (b + 1) * (b + 1)) : a ≤ b := by
 apply Nat.le_of_not_lt
 intro h
 have : (b + 1) * (b + 1) ≤ a * a := Nat.mul_le_mul h h
 omega
theorem sqrt_unique {a b X : Nat} (h1 : a * a ≤ X) (h2 : X < (a + 1) * (a + 1)) (h3 : b * b ≤ X) (h4 : X < (b + 1) * (b + 1)) : a = b :=
 Nat.le_antisymm (sqrt_mono h1 h4) (sqrt_mono h3 h2)
theorem newton_ge {r X x : Nat} (h1 : r * r ≤ X) (h0 : 0 < x) : r ≤ (x + X / x) / 2 := by
 rw [Nat.le_div_iff_mul_le (by omega)]
 by_cases h : r * 2 ≤ x
 ·exact Nat.le_trans h (Nat.le_add_right _ _)
 ·have h2 : (r * 2 - x) ≤ X / x := by
    rw [Nat.le_div_iff_mul_le h0]
    refine Nat.le_trans ?_ h1
    obtain ⟨d, hd⟩ : ∃ d, d = r * 2 - x := ⟨_, rfl⟩
    rw [← hd]
    have h3 : (d : Int) = 2 * r - x := by omega
    have h4 : (d : Int) * x ≤ r * r := by
     rw [h3]
     have : 0 ≤ ((r : Int) - x) * ((r : Int) - x) := by
      rcases Int.le_total 0 ((r : Int) - x) with h5 | h5
      ·exact Int.mul_nonneg h5 h5
      ·exact Int.mul_nonneg_of_nonpos_of_nonpos h5 h5
     grind
    exact_mod_cast h4
  omega
theorem newton_le {X x : Nat} (h0 : 0 < x) (h : x ≤ (x + X / x) / 2) : x * x ≤ X := by
 have h2 : x ≤ X / x := by omega
 exact (Nat.le_div_iff_mul_le h0).1 h2
theorem root_start {r X n : Nat} (h1 : r * r ≤ X) (h2 : X < 2 ^ n) : r < 2 ^ ((n + 1) / 2) := by
 apply Nat.lt_of_not_le
 intro h
 have h3 : 2 ^ ((n + 1) / 2) * 2 ^ ((n + 1) / 2) ≤ r * r := Nat.mul_le_mul h h
 rw [← Nat.pow_add] at h3
 have h4 : (2 : Nat) ^ n ≤ 2 ^ ((n + 1) / 2 + (n + 1) / 2) := Nat.pow_le_pow_right (by omega) (by omega)
 omega
theorem dig_shift (b k : Nat) (hb : 0 < b) (h : b < 256) : dig 256 (b * 256 ^ k) = List.replicate k 0 ++ [b] := by
 induction k with
 | zero =>
  rw [Nat.pow_zero, Nat.mul_one, dig_pos 256 b (by omega) hb, Nat.mod_eq_of_lt h, Nat.div_eq_of_lt h]
  rfl
 | succ k ih =>
  have hp : 0 < b * 256 ^ (k + 1) := Nat.mul_pos hb (Nat.pow_pos (by omega))
  have e : b * 256 ^ (k + 1) = 256 * (b * 256 ^ k) := by rw [Nat.pow_succ]; grind
  rw [dig_pos 256 _ (by omega) hp, e, Nat.mul_mod_right, Nat.mul_div_cancel_left _ (by omega), ih]
  rfl
theorem mag_shift (b k : Nat) (hb : 0 < b) (h : b < 256) : mag (b * 256 ^ k) = ⟨(UInt8.ofNat b :: List.replicate k 0).toArray⟩ := by
 unfold mag
 rw [dig_shift b k hb h]
 congr 2
 simp
theorem two_pow_split (m : Nat) : 2 ^ m = 2 ^ (m % 8) * 256 ^ (m / 8) := by
 rw [show (256 : Nat) = 2 ^ 8 from rfl, ← Nat.pow_mul, ← Nat.pow_add]
 congr 1
 omega
end Vi

end
section
set_option linter.unusedSimpArgs false
set_option linter.unusedVariables false
namespace Go.Proofs.YthdaimoankaciaaGreatDoor
open Go Go.RowKit
open Vi
def DB (w : World) (v : Value) (n : Nat) (f : Nat → Nat) : Prop := (∀ i, f i < 256) ∧ ∃ g c, v = .slice (some ⟨g, 0, none⟩) n c ∧ g < w.heap.size ∧ ∀ i, i < n → w.cell? ⟨g, i, none⟩ = some (.int .u8 (f i : Int))
theorem DB.below {w w' : World} {v : Value} {n : Nat} {f : Nat → Nat} (h : DB w v n f) (hb : Below w.heap.size w w') : DB w' v n f := by
 obtain ⟨hf, g, c, rfl, hg, hc⟩ := h
 exact ⟨hf, g, c, rfl, Nat.lt_of_lt_of_le hg hb.size, fun i hi => (hb.cell (p := ⟨g, i, none⟩) hg).trans (hc i hi)⟩
theorem DB.form {w : World} {v : Value} {n : Nat} {f : Nat → Nat} (h : DB w v n f) : ∃ g c, v = .slice (some ⟨g, 0, none⟩) n c := by
 obtain ⟨_, g, c, rfl, _⟩ := h
 exact ⟨g, c, rfl⟩
theorem convG (w : World) (g n c : Nat) (f : Nat → Nat) (h : ∀ i, i < n → w.cell? ⟨g, i, none⟩ = some (.int .u8 (f i : Int))) : (convert 157 9 (.slice (some ⟨g, 0, none⟩) n c)).run Tryz.prog w = .ok (.string (strFn f n)) w := by
 have hlen : ((List.range n).map fun i => (f i : Int)).length = n := by simp
 have := run_convert_bytes_arg (P := Tryz.prog) w 157 5 Tryz.underlying157 Tryz.underlying5 g 0 n c ((List.range n).map fun i => (f i : Int)) hlen (fun i hi => by
  rw [Nat.zero_add, h i hi]
  simp [hi]) 9 Tryz.underlying9
 rw [this]
 have e : strOfNums ((List.range n).map fun i => (f i : Int)) = strFn f n := by
  unfold strOfNums strFn
  rw [List.map_map]; rfl
 rw [e]
theorem DB.conv {w : World} {g n c : Nat} {f : Nat → Nat} (h : DB w (.slice (some ⟨g, 0, none⟩) n c) n f) : (convert 157 9 (.slice (some ⟨g, 0, none⟩) n c)).run Tryz.prog w = .ok (.string (strFn f n)) w := by
 obtain ⟨hf, g', c', e, hg, hc⟩ := h
 cases e
 exact convG w g n c f hc
theorem DB.one (w : World) (b : Nat) (hb : b < 256) : DB (w.alloc (.cells #[.int .u8 (b : Int)] 5)) (.slice (some ⟨w.heap.size, 0, none⟩) 1 1) 1 (fun _ => b) :=
 ⟨fun _ => hb, _, _, rfl, by simp, fun i hi => by
  have e : i = 0 := by omega
  subst e
  rw [World.cell?_alloc_new]; rfl⟩
theorem strFn_one (b : Nat) : strFn (fun _ => b) 1 = ⟨#[UInt8.ofNat b]⟩ := rfl
theorem rep_zero (k : Nat) : Lib.repeatL [0] k = List.replicate k 0 := by
 induction k with
 | zero => rfl
 | succ k ih => rw [Lib.repeatL, ih]; rfl
theorem cat1 (b : UInt8) (l : List UInt8) : (⟨#[b]⟩ ++ ⟨l.toArray⟩ : ByteArray) = ⟨(b :: l).toArray⟩ := by
 apply ByteArray.ext
 simp
theorem sz_add (x y k : Nat) (hx : (mag x).size ≤ k) (hy : (mag y).size ≤ k) : (mag (x + y)).size ≤ k + 1 := by
 have h1 := lt_of_size_mag x k hx
 have h2 := lt_of_size_mag y k hy
 apply size_mag_le
 rw [Nat.pow_succ]
 have : 0 < 256 ^ k := Nat.pow_pos (by omega)
 omega
set_option maxRecDepth 100000 in
set_option maxHeartbeats 1600000 in
theorem root_c (X r : Nat) (h1 : r * r ≤ X) (h2 : X < (r + 1) * (r + 1)) (w : World) (hx : (mag X).size ≤ 1048576) : Calls Tryz.prog 147 #[.string (mag X)] w fun e w' => e = .returned (.string (mag r)) ∧ Below w.heap.size w w' := by
 by_cases h0 : X = 0
 ·have hr : r = 0 := by
    apply Decidable.byContradiction
    intro h
    have : 1 * 1 ≤ r * r := Nat.mul_le_mul (by omega) (by omega)
    omega
  subst hr
  subst h0
  rw [mag_zero]
  clear h1 h2 hx
  go_enter Tryz.func147, Tryz.ntmps147
  go_wp2
  go_ret
  exact ⟨rfl, by (repeat' (first | (with_reducible first | exact Below.refl _ _ | assumption | refine Below.plus0 ?_ _ | refine Below.alloc0 ?_ _ | refine Below.plus ?_ ?_ _ | refine Below.alloc ?_ ?_ _ | refine Below.drew ?_ | refine Below.drewN ?_ _) | (simp [go_sem]; done) | (simp [go_sem]; omega)))⟩
 ·have he2 : (mag X).toList.isEmpty = false := mag_empty_not X h0
  obtain ⟨hp, hg, hlt⟩ := get_first X (by omega)
  have hbt := bits_top X (by omega)
  have hs := size_mag X
  have hn2 : nd 2 (topByte X) ≤ 8 := nd_le 2 (by omega) _ 8 (by omega)
  obtain ⟨t, ht⟩ : ∃ t, t = topByte X := ⟨_, rfl⟩
  obtain ⟨n, hn⟩ : ∃ n, n = nd 2 X := ⟨_, rfl⟩
  rw [← ht] at hg hlt hbt hn2
  rw [← hn] at hbt
  have hXn : X < 2 ^ n := by rw [hn]; exact lt_pow_nd 2 (by omega) X
  obtain ⟨L, hL⟩ : ∃ L, (mag X).size = L + 1 := ⟨(mag X).size - 1, by omega⟩
  rw [← hs, hL, Nat.add_sub_cancel] at hbt
  have hsz : ((mag X).size : Int) = (L : Int) + 1 := by omega
  have en : 8 * (L : Int) + ((nd 2 t : Nat) : Int) = (n : Int) := by omega
  obtain ⟨m, hm⟩ : ∃ m, m = (n + 1) / 2 := ⟨_, rfl⟩
  obtain ⟨m8, hm8⟩ : ∃ z, z = m % 8 := ⟨_, rfl⟩
  obtain ⟨d8, hd8⟩ : ∃ z, z = m / 8 := ⟨_, rfl⟩
  obtain ⟨b, hb⟩ : ∃ z, z = 2 ^ m8 := ⟨_, rfl⟩
  obtain ⟨x0, hx0⟩ : ∃ z, z = 2 ^ m := ⟨_, rfl⟩
  have hb256 : b < 256 := by rw [hb]; exact Nat.lt_of_lt_of_le (Nat.pow_lt_pow_right (by omega) (show m8 < 8 by omega)) (by decide)
  have hb0 : 0 < b := by rw [hb]; exact Nat.pow_pos (by omega)
  have hxm : mag x0 = ⟨(UInt8.ofNat b :: List.replicate d8 0).toArray⟩ := by
   rw [hx0, two_pow_split m, ← hm8, ← hd8, ← hb]; exact mag_shift b d8 hb0 hb256
  have hx0r : r ≤ x0 := by rw [hx0, hm]; exact Nat.le_of_lt (root_start h1 hXn)
  have hx0p : 0 < x0 := by rw [hx0]; exact Nat.pow_pos (by omega)
  have hx0s : (mag x0).size = d8 + 1 := by
   rw [hxm]
   show (List.toArray _).size = _
   simp
  have hd8b : d8 ≤ 1048576 := by omega
  have hm8i : (m : Int).tmod 8 = (m8 : Int) := by rw [hm8]; exact Int.ofNat_tmod m 8
  have hd8i : (m : Int).tdiv 8 = (d8 : Int) := by rw [hd8]; exact Int.ofNat_tdiv m 8
  have hmi : ((n : Int) + 1).tdiv 2 = (m : Int) := by rw [hm]; exact Int.ofNat_tdiv (n + 1) 2
  have HR : Hid (∀ w, Calls Tryz.prog 175 #[.string ⟨#[0]⟩, .int .i64 (d8 : Int)] w fun e w' => e = .returned (.string ⟨(List.replicate d8 0).toArray⟩) ∧ Below w.heap.size w w') := Lib.hid fun w => by
   have := Tryz.strings_Repeat ⟨#[0]⟩ d8 w (by omega) (by show 1 * d8 ≤ _; omega)
   rw [show (⟨#[0]⟩ : ByteArray).data.toList = [0] from rfl, rep_zero] at this
   exact this
  have HM := Lib.hid hxm
  have hnb : n ≤ 8388616 := by omega
  have hmb : m ≤ 8388616 := by omega
  have hm8b : m8 < 8 := by omega
  have hg2 : (((mag X)[0]'hp).toNat : Int) = (t : Int) := by rw [hg]
  have H1 := Lib.hid h1
  have H2 := Lib.hid h2
  have H0 := Lib.hid h0
  have HXR := Lib.hid hx0r
  have hxe : b * 1 = 1 * b := by omega
  have Hb := Lib.hid hb
  have hsh : (2 : Int) ^ m8 % 256 = (b : Int) := by
   have e : (2 : Int) ^ m8 = (b : Int) := by rw [hb]; simp
   rw [e]; omega
  have hcat : (⟨#[UInt8.ofNat b]⟩ ++ ⟨Array.replicate d8 0⟩ : ByteArray) = mag x0 := by
   rw [hxm, ← cat1 (UInt8.ofNat b) (List.replicate d8 0), List.toArray_replicate]
  clear hbt hs hn ht hL hXn h1 h2 h0 hx0r hxm hb hm hm8 hd8 hx0 hg hxe
  go_enter Tryz.func147, Tryz.ntmps147
  go_wp2_with fail
  (refine (len8 _ _ hlt).mono ?_; rintro e w' ⟨rfl, rfl⟩)
  go_wp2_with fail
  refine wp_region_facts (fun i v w9 => match i with
      | 0 => v = .int .i64 (m : Int)
      | 1 => v = .int .i64 (m8 : Int)
      | 2 => v = .int .u8 (b : Int)
      | 3 => DB w9 v 1 (fun _ => b)
      | 4 => v = .string ⟨#[UInt8.ofNat b]⟩
      | 5 => v = .int .i64 (m : Int)
      | 6 => v = .int .i64 (d8 : Int)
      | 7 => v = .string ⟨(List.replicate d8 0).toArray⟩
      | 8 => v = .string (mag x0)
      | 9 => v = .string (mag x0)
      | _ => True) (by kernel_rfl) (by kernel_rfl) ?_ ?_ ?_
  ·intro i v w1 w2 hb h
   match i, h with
   | 0, h => exact h
   | 1, h => exact h
   | 2, h => exact h
   | 3, h => exact DB.below h hb
   | 4, h => exact h
   | 5, h => exact h
   | 6, h => exact h
   | 7, h => exact h
   | 8, h => exact h
   | 9, h => exact h
   | k + 10, h => exact trivial
  ·
   refine KindSteps.cons ?_ ?_
   ·intro xs w9 hw hd
    (first | (with_reducible have hw2 := World.plus_of_below ((World.below_plus _ _).trans (hw.mono (World.size_plus _ _))); obtain ⟨u, rfl⟩ := hw2) | (obtain ⟨u, rfl⟩ := World.plus_of_below hw))
    simp only [fill, Act.put, List.take_succ_cons, List.take_zero, List.drop_succ_cons, List.drop_zero, Nat.reduceAdd, Nat.zero_add, List.setIfInBounds_toArray, List.set_cons_succ, List.set_cons_zero, if_true, if_false, Nat.reduceEqDiff, reduceIte]
    go_wp2_with fail
    all_goals (first | exact Below.refl _ _ | exact ⟨by (repeat' (first | (with_reducible first | exact Below.refl _ _ | assumption | refine Below.plus0 ?_ _ | refine Below.alloc0 ?_ _ | refine Below.plus ?_ ?_ _ | refine Below.alloc ?_ ?_ _ | refine Below.drew ?_ | refine Below.drewN ?_ _) | (simp [go_sem]; done) | (simp [go_sem]; omega))), _, rfl, rfl⟩ | exact ⟨rfl, by (repeat' (first | (with_reducible first | exact Below.refl _ _ | assumption | refine Below.plus0 ?_ _ | refine Below.alloc0 ?_ _ | refine Below.plus ?_ ?_ _ | refine Below.alloc ?_ ?_ _ | refine Below.drew ?_ | refine Below.drewN ?_ _) | (simp [go_sem]; done) | (simp [go_sem]; omega))), _, rfl, rfl⟩ | exact ⟨by (repeat' (first | (with_reducible first | exact Below.refl _ _ | assumption | refine Below.plus0 ?_ _ | refine Below.alloc0 ?_ _ | refine Below.plus ?_ ?_ _ | refine Below.alloc ?_ ?_ _ | refine Below.drew ?_ | refine Below.drewN ?_ _) | (simp [go_sem]; done) | (simp [go_sem]; omega))), rfl⟩ | (trace_state; fail))
   refine KindSteps.cons ?_ ?_
   ·intro xs w9 hw hd
    (first | (with_reducible have hw2 := World.plus_of_below ((World.below_plus _ _).trans (hw.mono (World.size_plus _ _))); obtain ⟨u, rfl⟩ := hw2) | (obtain ⟨u, rfl⟩ := World.plus_of_below hw))
    simp only [fill, Act.put, List.take_succ_cons, List.take_zero, List.drop_succ_cons, List.drop_zero, Nat.reduceAdd, Nat.zero_add, List.setIfInBounds_toArray, List.set_cons_succ, List.set_cons_zero, if_true, if_false, Nat.reduceEqDiff, reduceIte]
    have f0 : xs 0 = .int .i64 (m : Int) := hd 0 (by kernel_rfl)
    simp only [f0]
    go_wp2_with fail
    all_goals (first | exact Below.refl _ _ | exact ⟨by (repeat' (first | (with_reducible first | exact Below.refl _ _ | assumption | refine Below.plus0 ?_ _ | refine Below.alloc0 ?_ _ | refine Below.plus ?_ ?_ _ | refine Below.alloc ?_ ?_ _ | refine Below.drew ?_ | refine Below.drewN ?_ _) | (simp [go_sem]; done) | (simp [go_sem]; omega))), _, rfl, rfl⟩ | exact ⟨rfl, by (repeat' (first | (with_reducible first | exact Below.refl _ _ | assumption | refine Below.plus0 ?_ _ | refine Below.alloc0 ?_ _ | refine Below.plus ?_ ?_ _ | refine Below.alloc ?_ ?_ _ | refine Below.drew ?_ | refine Below.drewN ?_ _) | (simp [go_sem]; done) | (simp [go_sem]; omega))), _, rfl, rfl⟩ | exact ⟨by (repeat' (first | (with_reducible first | exact Below.refl _ _ | assumption | refine Below.plus0 ?_ _ | refine Below.alloc0 ?_ _ | refine Below.plus ?_ ?_ _ | refine Below.alloc ?_ ?_ _ | refine Below.drew ?_ | refine Below.drewN ?_ _) | (simp [go_sem]; done) | (simp [go_sem]; omega))), rfl⟩ | (trace_state; fail))
   refine KindSteps.cons ?_ ?_
   ·intro xs w9 hw hd
    (first | (with_reducible have hw2 := World.plus_of_below ((World.below_plus _ _).trans (hw.mono (World.size_plus _ _))); obtain ⟨u, rfl⟩ := hw2) | (obtain ⟨u, rfl⟩ := World.plus_of_below hw))
    simp only [fill, Act.put, List.take_succ_cons, List.take_zero, List.drop_succ_cons, List.drop_zero, Nat.reduceAdd, Nat.zero_add, List.setIfInBounds_toArray, List.set_cons_succ, List.set_cons_zero, if_true, if_false, Nat.reduceEqDiff, reduceIte]
    have f1 : xs 1 = .int .i64 (m8 : Int) := hd 1 (by kernel_rfl)
    simp only [f1]
    go_wp2_with fail
    all_goals (first | exact Below.refl _ _ | exact ⟨by (repeat' (first | (with_reducible first | exact Below.refl _ _ | assumption | refine Below.plus0 ?_ _ | refine Below.alloc0 ?_ _ | refine Below.plus ?_ ?_ _ | refine Below.alloc ?_ ?_ _ | refine Below.drew ?_ | refine Below.drewN ?_ _) | (simp [go_sem]; done) | (simp [go_sem]; omega))), _, rfl, rfl⟩ | exact ⟨rfl, by (repeat' (first | (with_reducible first | exact Below.refl _ _ | assumption | refine Below.plus0 ?_ _ | refine Below.alloc0 ?_ _ | refine Below.plus ?_ ?_ _ | refine Below.alloc ?_ ?_ _ | refine Below.drew ?_ | refine Below.drewN ?_ _) | (simp [go_sem]; done) | (simp [go_sem]; omega))), _, rfl, rfl⟩ | exact ⟨by (repeat' (first | (with_reducible first | exact Below.refl _ _ | assumption | refine Below.plus0 ?_ _ | refine Below.alloc0 ?_ _ | refine Below.plus ?_ ?_ _ | refine Below.alloc ?_ ?_ _ | refine Below.drew ?_ | refine Below.drewN ?_ _) | (simp [go_sem]; done) | (simp [go_sem]; omega))), rfl⟩ | (trace_state; fail))
   refine KindSteps.cons ?_ ?_
   ·intro xs w9 hw hd
    (first | (with_reducible have hw2 := World.plus_of_below ((World.below_plus _ _).trans (hw.mono (World.size_plus _ _))); obtain ⟨u, rfl⟩ := hw2) | (obtain ⟨u, rfl⟩ := World.plus_of_below hw))
    simp only [fill, Act.put, List.take_succ_cons, List.take_zero, List.drop_succ_cons, List.drop_zero, Nat.reduceAdd, Nat.zero_add, List.setIfInBounds_toArray, List.set_cons_succ, List.set_cons_zero, if_true, if_false, Nat.reduceEqDiff, reduceIte]
    have f2 : xs 2 = .int .u8 (b : Int) := hd 2 (by kernel_rfl)
    simp only [f2]
    go_wp2_with fail
    all_goals (first | exact Below.refl _ _ | exact ⟨by (repeat' (first | (with_reducible first | exact Below.refl _ _ | assumption | refine Below.plus0 ?_ _ | refine Below.alloc0 ?_ _ | refine Below.plus ?_ ?_ _ | refine Below.alloc ?_ ?_ _ | refine Below.drew ?_ | refine Below.drewN ?_ _) | (simp [go_sem]; done) | (simp [go_sem]; omega))), _, rfl, DB.one _ _ hb256⟩ | exact ⟨rfl, by (repeat' (first | (with_reducible first | exact Below.refl _ _ | assumption | refine Below.plus0 ?_ _ | refine Below.alloc0 ?_ _ | refine Below.plus ?_ ?_ _ | refine Below.alloc ?_ ?_ _ | refine Below.drew ?_ | refine Below.drewN ?_ _) | (simp [go_sem]; done) | (simp [go_sem]; omega))), _, rfl, DB.one _ _ hb256⟩ | exact ⟨by (repeat' (first | (with_reducible first | exact Below.refl _ _ | assumption | refine Below.plus0 ?_ _ | refine Below.alloc0 ?_ _ | refine Below.plus ?_ ?_ _ | refine Below.alloc ?_ ?_ _ | refine Below.drew ?_ | refine Below.drewN ?_ _) | (simp [go_sem]; done) | (simp [go_sem]; omega))), DB.one _ _ hb256⟩ | (trace_state; fail))
   refine KindSteps.cons ?_ ?_
   ·intro xs w9 hw hd
    (first | (with_reducible have hw2 := World.plus_of_below ((World.below_plus _ _).trans (hw.mono (World.size_plus _ _))); obtain ⟨u, rfl⟩ := hw2) | (obtain ⟨u, rfl⟩ := World.plus_of_below hw))
    simp only [fill, Act.put, List.take_succ_cons, List.take_zero, List.drop_succ_cons, List.drop_zero, Nat.reduceAdd, Nat.zero_add, List.setIfInBounds_toArray, List.set_cons_succ, List.set_cons_zero, if_true, if_false, Nat.reduceEqDiff, reduceIte]
    have f3 : DB _ (xs 3) 1 (fun _ => b) := hd 3 (by kernel_rfl)
    obtain ⟨g3, c3, e3⟩ := f3.form
    rw [e3] at f3
    simp only [e3]
    have hcv := f3.conv
    rw [strFn_one] at hcv
    go_wp2_with fail
    all_goals (first | exact Below.refl _ _ | exact ⟨by (repeat' (first | (with_reducible first | exact Below.refl _ _ | assumption | refine Below.plus0 ?_ _ | refine Below.alloc0 ?_ _ | refine Below.plus ?_ ?_ _ | refine Below.alloc ?_ ?_ _ | refine Below.drew ?_ | refine Below.drewN ?_ _) | (simp [go_sem]; done) | (simp [go_sem]; omega))), _, rfl, rfl⟩ | exact ⟨rfl, by (repeat' (first | (with_reducible first | exact Below.refl _ _ | assumption | refine Below.plus0 ?_ _ | refine Below.alloc0 ?_ _ | refine Below.plus ?_ ?_ _ | refine Below.alloc ?_ ?_ _ | refine Below.drew ?_ | refine Below.drewN ?_ _) | (simp [go_sem]; done) | (simp [go_sem]; omega))), _, rfl, rfl⟩ | exact ⟨by (repeat' (first | (with_reducible first | exact Below.refl _ _ | assumption | refine Below.plus0 ?_ _ | refine Below.alloc0 ?_ _ | refine Below.plus ?_ ?_ _ | refine Below.alloc ?_ ?_ _ | refine Below.drew ?_ | refine Below.drewN ?_ _) | (simp [go_sem]; done) | (simp [go_sem]; omega))), rfl⟩ | (trace_state; fail))
   refine KindSteps.cons ?_ ?_
   ·intro xs w9 hw hd
    (first | (with_reducible have hw2 := World.plus_of_below ((World.below_plus _ _).trans (hw.mono (World.size_plus _ _))); obtain ⟨u, rfl⟩ := hw2) | (obtain ⟨u, rfl⟩ := World.plus_of_below hw))
    simp only [fill, Act.put, List.take_succ_cons, List.take_zero, List.drop_succ_cons, List.drop_zero, Nat.reduceAdd, Nat.zero_add, List.setIfInBounds_toArray, List.set_cons_succ, List.set_cons_zero, if_true, if_false, Nat.reduceEqDiff, reduceIte]
    go_wp2_with fail
    all_goals (first | exact Below.refl _ _ | exact ⟨by (repeat' (first | (with_reducible first | exact Below.refl _ _ | assumption | refine Below.plus0 ?_ _ | refine Below.alloc0 ?_ _ | refine Below.plus ?_ ?_ _ | refine Below.alloc ?_ ?_ _ | refine Below.drew ?_ | refine Below.drewN ?_ _) | (simp [go_sem]; done) | (simp [go_sem]; omega))), _, rfl, rfl⟩ | exact ⟨rfl, by (repeat' (first | (with_reducible first | exact Below.refl _ _ | assumption | refine Below.plus0 ?_ _ | refine Below.alloc0 ?_ _ | refine Below.plus ?_ ?_ _ | refine Below.alloc ?_ ?_ _ | refine Below.drew ?_ | refine Below.drewN ?_ _) | (simp [go_sem]; done) | (simp [go_sem]; omega))), _, rfl, rfl⟩ | exact ⟨by (repeat' (first | (with_reducible first | exact Below.refl _ _ | assumption | refine Below.plus0 ?_ _ | refine Below.alloc0 ?_ _ | refine Below.plus ?_ ?_ _ | refine Below.alloc ?_ ?_ _ | refine Below.drew ?_ | refine Below.drewN ?_ _) | (simp [go_sem]; done) | (simp [go_sem]; omega))), rfl⟩ | (trace_state; fail))
   refine KindSteps.cons ?_ ?_
   ·intro xs w9 hw hd
    (first | (with_reducible have hw2 := World.plus_of_below ((World.below_plus _ _).trans (hw.mono (World.size_plus _ _))); obtain ⟨u, rfl⟩ := hw2) | (obtain ⟨u, rfl⟩ := World.plus_of_below hw))
    simp only [fill, Act.put, List.take_succ_cons, List.take_zero, List.drop_succ_cons, List.drop_zero, Nat.reduceAdd, Nat.zero_add, List.setIfInBounds_toArray, List.set_cons_succ, List.set_cons_zero, if_true, if_false, Nat.reduceEqDiff, reduceIte]
    have f5 : xs 5 = .int .i64 (m : Int) := hd 5 (by kernel_rfl)
    simp only [f5]
    go_wp2_with fail
    all_goals (first | exact Below.refl _ _ | exact ⟨by (repeat' (first | (with_reducible first | exact Below.refl _ _ | assumption | refine Below.plus0 ?_ _ | refine Below.alloc0 ?_ _ | refine Below.plus ?_ ?_ _ | refine Below.alloc ?_ ?_ _ | refine Below.drew ?_ | refine Below.drewN ?_ _) | (simp [go_sem]; done) | (simp [go_sem]; omega))), _, rfl, rfl⟩ | exact ⟨rfl, by (repeat' (first | (with_reducible first | exact Below.refl _ _ | assumption | refine Below.plus0 ?_ _ | refine Below.alloc0 ?_ _ | refine Below.plus ?_ ?_ _ | refine Below.alloc ?_ ?_ _ | refine Below.drew ?_ | refine Below.drewN ?_ _) | (simp [go_sem]; done) | (simp [go_sem]; omega))), _, rfl, rfl⟩ | exact ⟨by (repeat' (first | (with_reducible first | exact Below.refl _ _ | assumption | refine Below.plus0 ?_ _ | refine Below.alloc0 ?_ _ | refine Below.plus ?_ ?_ _ | refine Below.alloc ?_ ?_ _ | refine Below.drew ?_ | refine Below.drewN ?_ _) | (simp [go_sem]; done) | (simp [go_sem]; omega))), rfl⟩ | (trace_state; fail))
   refine KindSteps.cons ?_ ?_
   ·intro xs w9 hw hd
    (first | (with_reducible have hw2 := World.plus_of_below ((World.below_plus _ _).trans (hw.mono (World.size_plus _ _))); obtain ⟨u, rfl⟩ := hw2) | (obtain ⟨u, rfl⟩ := World.plus_of_below hw))
    simp only [fill, Act.put, List.take_succ_cons, List.take_zero, List.drop_succ_cons, List.drop_zero, Nat.reduceAdd, Nat.zero_add, List.setIfInBounds_toArray, List.set_cons_succ, List.set_cons_zero, if_true, if_false, Nat.reduceEqDiff, reduceIte]
    have f6 : xs 6 = .int .i64 (d8 : Int) := hd 6 (by kernel_rfl)
    simp only [f6]
    go_wp2_with (go_at_call 175; refine (HR.out _).mono ?_; rintro e w8 ⟨rfl, hb⟩)
    all_goals (first | exact Below.refl _ _ | exact hb | exact ⟨hb, _, rfl, rfl⟩ | exact ⟨rfl, hb, _, rfl, rfl⟩ | (trace_state; fail))
   refine KindSteps.cons ?_ ?_
   ·intro xs w9 hw hd
    (first | (with_reducible have hw2 := World.plus_of_below ((World.below_plus _ _).trans (hw.mono (World.size_plus _ _))); obtain ⟨u, rfl⟩ := hw2) | (obtain ⟨u, rfl⟩ := World.plus_of_below hw))
    simp only [fill, Act.put, List.take_succ_cons, List.take_zero, List.drop_succ_cons, List.drop_zero, Nat.reduceAdd, Nat.zero_add, List.setIfInBounds_toArray, List.set_cons_succ, List.set_cons_zero, if_true, if_false, Nat.reduceEqDiff, reduceIte]
    have f4 : xs 4 = .string ⟨#[UInt8.ofNat b]⟩ := hd 4 (by kernel_rfl)
    simp only [f4]
    have f7 : xs 7 = .string ⟨(List.replicate d8 0).toArray⟩ := hd 7 (by kernel_rfl)
    simp only [f7]
    go_wp2_with fail
    all_goals (first | exact Below.refl _ _ | exact ⟨by (repeat' (first | (with_reducible first | exact Below.refl _ _ | assumption | refine Below.plus0 ?_ _ | refine Below.alloc0 ?_ _ | refine Below.plus ?_ ?_ _ | refine Below.alloc ?_ ?_ _ | refine Below.drew ?_ | refine Below.drewN ?_ _) | (simp [go_sem]; done) | (simp [go_sem]; omega))), _, rfl, rfl⟩ | exact ⟨rfl, by (repeat' (first | (with_reducible first | exact Below.refl _ _ | assumption | refine Below.plus0 ?_ _ | refine Below.alloc0 ?_ _ | refine Below.plus ?_ ?_ _ | refine Below.alloc ?_ ?_ _ | refine Below.drew ?_ | refine Below.drewN ?_ _) | (simp [go_sem]; done) | (simp [go_sem]; omega))), _, rfl, rfl⟩ | exact ⟨by (repeat' (first | (with_reducible first | exact Below.refl _ _ | assumption | refine Below.plus0 ?_ _ | refine Below.alloc0 ?_ _ | refine Below.plus ?_ ?_ _ | refine Below.alloc ?_ ?_ _ | refine Below.drew ?_ | refine Below.drewN ?_ _) | (simp [go_sem]; done) | (simp [go_sem]; omega))), rfl⟩ | (trace_state; fail))
   refine KindSteps.cons ?_ ?_
   ·intro xs w9 hw hd
    (first | (with_reducible have hw2 := World.plus_of_below ((World.below_plus _ _).trans (hw.mono (World.size_plus _ _))); obtain ⟨u, rfl⟩ := hw2) | (obtain ⟨u, rfl⟩ := World.plus_of_below hw))
    simp only [fill, Act.put, List.take_succ_cons, List.take_zero, List.drop_succ_cons, List.drop_zero, Nat.reduceAdd, Nat.zero_add, List.setIfInBounds_toArray, List.set_cons_succ, List.set_cons_zero, if_true, if_false, Nat.reduceEqDiff, reduceIte]
    have f8 : xs 8 = .string (mag x0) := hd 8 (by kernel_rfl)
    simp only [f8]
    go_wp2_with fail
    all_goals (first | exact Below.refl _ _ | exact ⟨by (repeat' (first | (with_reducible first | exact Below.refl _ _ | assumption | refine Below.plus0 ?_ _ | refine Below.alloc0 ?_ _ | refine Below.plus ?_ ?_ _ | refine Below.alloc ?_ ?_ _ | refine Below.drew ?_ | refine Below.drewN ?_ _) | (simp [go_sem]; done) | (simp [go_sem]; omega))), _, rfl, rfl⟩ | exact ⟨rfl, by (repeat' (first | (with_reducible first | exact Below.refl _ _ | assumption | refine Below.plus0 ?_ _ | refine Below.alloc0 ?_ _ | refine Below.plus ?_ ?_ _ | refine Below.alloc ?_ ?_ _ | refine Below.drew ?_ | refine Below.drewN ?_ _) | (simp [go_sem]; done) | (simp [go_sem]; omega))), _, rfl, rfl⟩ | exact ⟨by (repeat' (first | (with_reducible first | exact Below.refl _ _ | assumption | refine Below.plus0 ?_ _ | refine Below.alloc0 ?_ _ | refine Below.plus ?_ ?_ _ | refine Below.alloc ?_ ?_ _ | refine Below.drew ?_ | refine Below.drewN ?_ _) | (simp [go_sem]; done) | (simp [go_sem]; omega))), rfl⟩ | (trace_state; fail))
   exact KindSteps.nil
  intro xs w9 hw hd
  (first | (with_reducible have hw2 := World.plus_of_below ((World.below_plus _ _).trans (hw.mono (World.size_plus _ _))); obtain ⟨u, rfl⟩ := hw2) | (obtain ⟨u, rfl⟩ := World.plus_of_below hw))
  simp only [fill, Act.put, List.take_succ_cons, List.take_zero, List.drop_succ_cons, List.drop_zero, Nat.reduceAdd, Nat.zero_add, List.setIfInBounds_toArray, List.set_cons_succ, List.set_cons_zero, if_true, if_false, Nat.reduceEqDiff, reduceIte]
  have f9 : xs 9 = .string (mag x0) := hd 9 (by decide)
  simp only [f9]
  clear hd
  go_wp2_with fail
  go_loopw [4] (fun xv wr => ∃ (x : Nat) (u : World), xv = .string (mag x) ∧ Hid (r ≤ x) ∧ Hid (0 < x) ∧ (mag x).size ≤ 1048577 ∧ wr = w.plus u) (fun xv _ => num (strOf xv))
  case atStart => exact ⟨x0, u, rfl, HXR, Lib.hid hx0p, by omega, rfl⟩
  case round =>
   obtain ⟨x, u, rfl, HRX, HXP, hxs, rfl⟩ := hrel
   obtain ⟨q, hq⟩ : ∃ z, z = X / x := ⟨_, rfl⟩
   obtain ⟨s, hs⟩ : ∃ z, z = x + q := ⟨_, rfl⟩
   obtain ⟨nx, hnx⟩ : ∃ z, z = s / 2 := ⟨_, rfl⟩
   have hqs : (mag q).size ≤ 1048577 := Nat.le_trans (size_mag_mono q X (by rw [hq]; exact Nat.div_le_self _ _)) (by omega)
   have hss : (mag s).size ≤ 1048578 := by rw [hs]; exact sz_add x q 1048577 hxs hqs
   have hns : (mag nx).size ≤ 1048578 := Nat.le_trans (size_mag_mono nx s (by rw [hnx]; exact Nat.div_le_self _ _)) (by omega)
   have HD : Hid (∀ w, Calls Tryz.prog 153 #[.string (mag X), .string (mag x)] w fun e w' => e = .returned (.tuple #[.string (mag q), .string (mag (X % x))]) ∧ Below w.heap.size w w') := Lib.hid fun w => by rw [hq]; exact div_ok X x (by omega) (by omega) HXP.out w
   have HA : Hid (∀ w, Calls Tryz.prog 149 #[.string (mag x), .string (mag q)] w fun e w' => e = .returned (.string (mag s)) ∧ Below w.heap.size w w') := Lib.hid fun w => by rw [hs]; exact add_c x q w (by omega) (by omega)
   have HD2 : Hid (∀ w, Calls Tryz.prog 153 #[.string (mag s), .string ⟨#[2]⟩] w fun e w' => e = .returned (.tuple #[.string (mag nx), .string (mag (s % 2))]) ∧ Below w.heap.size w w') := Lib.hid fun w => by
    have := div_ok s 2 (by omega) (by rw [show mag 2 = ⟨#[2]⟩ by decide]; decide) (by omega) w
    rw [show mag 2 = ⟨#[2]⟩ by decide, ← hnx] at this
    exact this
   have HC : Hid (∀ w, Calls Tryz.prog 150 #[.string (mag nx), .string (mag x)] w fun e w' => e = .returned (.int .i64 (cmpN nx x)) ∧ Below w.heap.size w w') := Lib.hid fun w => compare_c nx x w (by omega) (by omega)
   have hge : r ≤ nx := by rw [hnx, hs, hq]; exact newton_ge H1.out HXP.out
   have HGE := Lib.hid hge
   have hle : x ≤ nx → x = r := fun h => by
    rw [hnx, hs, hq] at h
    exact Nat.le_antisymm (sqrt_mono (newton_le HXP.out h) H2.out) HRX.out
   have hr0 : 0 < r := by
    apply Nat.pos_of_ne_zero
    intro h
    have := H2.out
    rw [h] at this
    exact H0.out (by omega)
   have HR0 := Lib.hid hr0
   by_cases hc : x ≤ nx
   ·have hxr := hle hc
    obtain ⟨c, hcc⟩ : ∃ c, c = cmpN nx x := ⟨_, rfl⟩
    have hc0 : (0 : Int) ≤ c := by rw [hcc]; unfold cmpN; repeat' split
                                   all_goals omega
    rw [← hcc] at HC
    have HXR2 := Lib.hid hxr
    clear hq hs hnx hge hle hr0 hc hcc hxr
    go_wp2_with fail
    (go_wp2_with fail; refine (HD.out _).mono ?_; rintro e w' ⟨rfl, hb⟩; (first | (with_reducible (have hb2 := World.plus_of_below ((World.below_plus _ _).trans (hb.mono (World.size_plus _ _)))); obtain ⟨u, rfl⟩ := hb2) | (obtain ⟨u, rfl⟩ := World.plus_of_below hb)); clear hb)
    go_wp2_with fail
    (go_wp2_with fail; refine (HA.out _).mono ?_; rintro e w' ⟨rfl, hb⟩; (first | (with_reducible (have hb2 := World.plus_of_below ((World.below_plus _ _).trans (hb.mono (World.size_plus _ _)))); obtain ⟨u, rfl⟩ := hb2) | (obtain ⟨u, rfl⟩ := World.plus_of_below hb)); clear hb)
    go_wp2_with fail
    (go_wp2_with fail; refine (HD2.out _).mono ?_; rintro e w' ⟨rfl, hb⟩; (first | (with_reducible (have hb2 := World.plus_of_below ((World.below_plus _ _).trans (hb.mono (World.size_plus _ _)))); obtain ⟨u, rfl⟩ := hb2) | (obtain ⟨u, rfl⟩ := World.plus_of_below hb)); clear hb)
    go_wp2_with fail
    (go_wp2_with fail; refine (HC.out _).mono ?_; rintro e w' ⟨rfl, hb⟩; (first | (with_reducible (have hb2 := World.plus_of_below ((World.below_plus _ _).trans (hb.mono (World.size_plus _ _)))); obtain ⟨u, rfl⟩ := hb2) | (obtain ⟨u, rfl⟩ := World.plus_of_below hb)); clear hb)
    go_wp2_with fail
    go_ret
    exact ⟨by rw [HXR2.out]; rfl, by (repeat' (first | (with_reducible first | exact Below.refl _ _ | assumption | refine Below.plus0 ?_ _ | refine Below.alloc0 ?_ _ | refine Below.plus ?_ ?_ _ | refine Below.alloc ?_ ?_ _ | refine Below.drew ?_ | refine Below.drewN ?_ _) | (simp [go_sem]; done) | (simp [go_sem]; omega)))⟩
   ·obtain ⟨c, hcc⟩ : ∃ c, c = cmpN nx x := ⟨_, rfl⟩
    have hc0 : ¬ (0 : Int) ≤ c := by rw [hcc]; unfold cmpN; rw [if_pos (by omega)]; omega
    rw [← hcc] at HC
    have HLT : Hid (nx < x) := Lib.hid (by omega)
    clear hq hs hnx hge hle hr0 hc hcc
    go_wp2_with fail
    (go_wp2_with fail; refine (HD.out _).mono ?_; rintro e w' ⟨rfl, hb⟩; (first | (with_reducible (have hb2 := World.plus_of_below ((World.below_plus _ _).trans (hb.mono (World.size_plus _ _)))); obtain ⟨u, rfl⟩ := hb2) | (obtain ⟨u, rfl⟩ := World.plus_of_below hb)); clear hb)
    go_wp2_with fail
    (go_wp2_with fail; refine (HA.out _).mono ?_; rintro e w' ⟨rfl, hb⟩; (first | (with_reducible (have hb2 := World.plus_of_below ((World.below_plus _ _).trans (hb.mono (World.size_plus _ _)))); obtain ⟨u, rfl⟩ := hb2) | (obtain ⟨u, rfl⟩ := World.plus_of_below hb)); clear hb)
    go_wp2_with fail
    (go_wp2_with fail; refine (HD2.out _).mono ?_; rintro e w' ⟨rfl, hb⟩; (first | (with_reducible (have hb2 := World.plus_of_below ((World.below_plus _ _).trans (hb.mono (World.size_plus _ _)))); obtain ⟨u, rfl⟩ := hb2) | (obtain ⟨u, rfl⟩ := World.plus_of_below hb)); clear hb)
    go_wp2_with fail
    (go_wp2_with fail; refine (HC.out _).mono ?_; rintro e w' ⟨rfl, hb⟩; (first | (with_reducible (have hb2 := World.plus_of_below ((World.below_plus _ _).trans (hb.mono (World.size_plus _ _)))); obtain ⟨u, rfl⟩ := hb2) | (obtain ⟨u, rfl⟩ := World.plus_of_below hb)); clear hb)
    go_wp2_with fail
    refine ⟨⟨nx, _, rfl, HGE, Lib.hid (Nat.lt_of_lt_of_le HR0.out HGE.out), Nat.le_trans (size_mag_mono nx x (Nat.le_of_lt HLT.out)) hxs, rfl⟩, ?_⟩
    show num (mag nx) < num (mag x)
    rw [num_mag, num_mag]
    exact HLT.out
set_option maxHeartbeats 400000 in
theorem Sqrt_c (x : Int) (r : Nat) (h0 : 0 ≤ x) (h1 : r * r ≤ x.natAbs) (h2 : x.natAbs < (r + 1) * (r + 1)) (w : World) (hx : (mg x).size ≤ 1048576) : Calls Tryz.prog 106 #[.agg #[.bool (sg x), .string (mg x)]] w fun e w' => e = .returned (.tuple #[.agg #[.bool (sg (r : Int)), .string (mg (r : Int))], .int .i64 0]) ∧ Below w.heap.size w w' := by
 have hs := sg_false x h0
 have HM : Hid (∀ w, Calls Tryz.prog 146 #[.bool false, .string (mag r)] w fun e w' => e = .returned (.agg #[.bool (sg (r : Int)), .string (mg (r : Int))]) ∧ Below w.heap.size w w') := Lib.hid fun w => made_c false r r rfl w
 have HR : Hid (∀ w, Calls Tryz.prog 147 #[.string (mg x)] w fun e w' => e = .returned (.string (mag r)) ∧ Below w.heap.size w w') := Lib.hid fun w => root_c x.natAbs r h1 h2 w hx
 rw [hs]
 clear h1 h2 h0 hs
 go_enter Tryz.func106, Tryz.ntmps106
 go_wp2_with fail
 (go_wp2_with fail; refine (HR.out _).mono ?_; rintro e w' ⟨rfl, hb⟩; (first | (with_reducible (have hb2 := World.plus_of_below ((World.below_plus _ _).trans (hb.mono (World.size_plus _ _)))); obtain ⟨u, rfl⟩ := hb2) | (obtain ⟨u, rfl⟩ := World.plus_of_below hb)); clear hb)
 go_wp2_with fail
 (go_wp2_with fail; refine (HM.out _).mono ?_; rintro e w' ⟨rfl, hb⟩; (first | (with_reducible (have hb2 := World.plus_of_below ((World.below_plus _ _).trans (hb.mono (World.size_plus _ _)))); obtain ⟨u, rfl⟩ := hb2) | (obtain ⟨u, rfl⟩ := World.plus_of_below hb)); clear hb)
 go_wp2_with fail
 refine bodyPost_ret (by simp [results, Tryz.results106, go_sem]; rfl) rfl ?_
 exact ⟨rfl, by (repeat' (first | (with_reducible first | exact Below.refl _ _ | assumption | refine Below.plus0 ?_ _ | refine Below.alloc0 ?_ _ | refine Below.plus ?_ ?_ _ | refine Below.alloc ?_ ?_ _ | refine Below.drew ?_ | refine Below.drewN ?_ _) | (simp [go_sem]; done) | (simp [go_sem]; omega)))⟩
set_option maxHeartbeats 400000 in
theorem IsSquare_neg (x : Int) (h0 : x < 0) (w : World) : Calls Tryz.prog 158 #[.agg #[.bool (sg x), .string (mg x)]] w fun e w' => e = .returned (.tuple #[.agg #[.bool false, .string ⟨#[]⟩], .bool false]) ∧ Below w.heap.size w w' := by
 rw [sg_true x h0]
 go_enter Tryz.func158, Tryz.ntmps158
 go_wp2_with fail
 refine bodyPost_ret (by simp [results, Tryz.results158, go_sem]; rfl) rfl ?_
 exact ⟨rfl, by (repeat' (first | (with_reducible first | exact Below.refl _ _ | assumption | refine Below.plus0 ?_ _ | refine Below.alloc0 ?_ _ | refine Below.plus ?_ ?_ _ | refine Below.alloc ?_ ?_ _ | refine Below.drew ?_ | refine Below.drewN ?_ _) | (simp [go_sem]; done) | (simp [go_sem]; omega)))⟩
set_option maxHeartbeats 800000 in
theorem IsSquare_yes (x : Int) (r : Nat) (h0 : 0 ≤ x) (h1 : r * r = x.natAbs) (w : World) (hx : (mg x).size ≤ 1048576) : Calls Tryz.prog 158 #[.agg #[.bool (sg x), .string (mg x)]] w fun e w' => e = .returned (.tuple #[.agg #[.bool (sg (r : Int)), .string (mg (r : Int))], .bool true]) ∧ Below w.heap.size w w' := by
 have hs := sg_false x h0
 have HM : Hid (∀ w, Calls Tryz.prog 146 #[.bool false, .string (mag r)] w fun e w' => e = .returned (.agg #[.bool (sg (r : Int)), .string (mg (r : Int))]) ∧ Below w.heap.size w w') := Lib.hid fun w => made_c false r r rfl w
 have HR : Hid (∀ w, Calls Tryz.prog 147 #[.string (mg x)] w fun e w' => e = .returned (.string (mag r)) ∧ Below w.heap.size w w') := Lib.hid fun w => root_c x.natAbs r (Nat.le_of_eq h1) (by rw [← h1]; exact Nat.mul_lt_mul_of_lt_of_lt (by omega) (by omega)) w hx
 have hrs : (mag r).size ≤ 1048576 := Nat.le_trans (size_mag_mono r x.natAbs (by rw [← h1]; exact Nat.le_mul_self r)) hx
 have HU : Hid (∀ w, Calls Tryz.prog 148 #[.string (mag r), .string (mag r)] w fun e w' => e = .returned (.string (mg x)) ∧ Below w.heap.size w w') := Lib.hid fun w => by
  have := mul_c r r w (by omega) (by omega)
  rw [h1] at this
  exact this
 rw [hs]
 clear h1 h0 hs
 go_enter Tryz.func158, Tryz.ntmps158
 go_wp2_with fail
 (go_wp2_with fail; refine (HR.out _).mono ?_; rintro e w' ⟨rfl, hb⟩; (first | (with_reducible (have hb2 := World.plus_of_below ((World.below_plus _ _).trans (hb.mono (World.size_plus _ _)))); obtain ⟨u, rfl⟩ := hb2) | (obtain ⟨u, rfl⟩ := World.plus_of_below hb)); clear hb)
 go_wp2_with fail
 ((first | (with_reducible refine wp_region_steady_plus (by kernel_rfl) (by kernel_rfl) ?_) | refine wp_region_steady (by kernel_rfl) (by kernel_rfl) ?_); repeat go_big_quiet_step (first | (go_at_call 148; refine Calls.steady (HU.out _)))); (refine wpQuiet_nil ?_; rintro _ ⟨u, rfl⟩)
 go_wp2_with fail
 (go_wp2_with fail; refine (HM.out _).mono ?_; rintro e w' ⟨rfl, hb⟩; (first | (with_reducible (have hb2 := World.plus_of_below ((World.below_plus _ _).trans (hb.mono (World.size_plus _ _)))); obtain ⟨u, rfl⟩ := hb2) | (obtain ⟨u, rfl⟩ := World.plus_of_below hb)); clear hb)
 go_wp2_with fail
 refine bodyPost_ret (by simp [results, Tryz.results158, go_sem]; rfl) rfl ?_
 exact ⟨rfl, by (repeat' (first | (with_reducible first | exact Below.refl _ _ | assumption | refine Below.plus0 ?_ _ | refine Below.alloc0 ?_ _ | refine Below.plus ?_ ?_ _ | refine Below.alloc ?_ ?_ _ | refine Below.drew ?_ | refine Below.drewN ?_ _) | (simp [go_sem]; done) | (simp [go_sem]; omega)))⟩
set_option maxHeartbeats 800000 in
theorem IsSquare_no (x : Int) (r : Nat) (h0 : 0 ≤ x) (h1 : r * r ≤ x.natAbs) (h2 : x.natAbs < (r + 1) * (r + 1)) (hne : r * r ≠ x.natAbs) (w : World) (hx : (mg x).size ≤ 1048576) : Calls Tryz.prog 158 #[.agg #[.bool (sg x), .string (mg x)]] w fun e w' => e = .returned (.tuple #[.agg #[.bool false, .string ⟨#[]⟩], .bool false]) ∧ Below w.heap.size w w' := by
 have hs := sg_false x h0
 have HR : Hid (∀ w, Calls Tryz.prog 147 #[.string (mg x)] w fun e w' => e = .returned (.string (mag r)) ∧ Below w.heap.size w w') := Lib.hid fun w => root_c x.natAbs r h1 h2 w hx
 have hrs : (mag r).size ≤ 1048576 := Nat.le_trans (size_mag_mono r x.natAbs (Nat.le_trans (Nat.le_mul_self r) h1)) hx
 obtain ⟨p, hp⟩ : ∃ p, p = r * r := ⟨_, rfl⟩
 have HU : Hid (∀ w, Calls Tryz.prog 148 #[.string (mag r), .string (mag r)] w fun e w' => e = .returned (.string (mag p)) ∧ Below w.heap.size w w') := Lib.hid fun w => by
  rw [hp]; exact mul_c r r w (by omega) (by omega)
 have hb : ((mag p).toList == (mg x).toList) = false := by
  rw [show mg x = mag x.natAbs from rfl, mag_beq, beq_eq_false_iff_ne, hp]; exact hne
 have hb2 : (mag p).toList ≠ (mg x).toList := by simpa using hb
 rw [hs]
 clear h1 h0 hs hne hp h2
 go_enter Tryz.func158, Tryz.ntmps158
 go_wp2_with fail
 (go_wp2_with fail; refine (HR.out _).mono ?_; rintro e w' ⟨rfl, hb⟩; (first | (with_reducible (have hb2 := World.plus_of_below ((World.below_plus _ _).trans (hb.mono (World.size_plus _ _)))); obtain ⟨u, rfl⟩ := hb2) | (obtain ⟨u, rfl⟩ := World.plus_of_below hb)); clear hb)
 go_wp2_with fail
 ((first | (with_reducible refine wp_region_steady_plus (by kernel_rfl) (by kernel_rfl) ?_) | refine wp_region_steady (by kernel_rfl) (by kernel_rfl) ?_); repeat go_big_quiet_step (first | (go_at_call 148; refine Calls.steady (HU.out _)))); (refine wpQuiet_nil ?_; rintro _ ⟨u, rfl⟩)
 go_wp2_with fail
 refine bodyPost_ret (by simp [results, Tryz.results158, go_sem]; rfl) rfl ?_
 exact ⟨rfl, by (repeat' (first | (with_reducible first | exact Below.refl _ _ | assumption | refine Below.plus0 ?_ _ | refine Below.alloc0 ?_ _ | refine Below.plus ?_ ?_ _ | refine Below.alloc ?_ ?_ _ | refine Below.drew ?_ | refine Below.drewN ?_ _) | (simp [go_sem]; done) | (simp [go_sem]; omega)))⟩
end Go.Proofs.YthdaimoankaciaaGreatDoor

end
section
/- The program's Simplest and Root. -/
set_option linter.unusedSimpArgs false
set_option linter.unusedVariables false
namespace Go.Proofs.YthdaimoankaciaaGreatDoor
open Go Go.RowKit Go.Sy
open Vi
def rC (q : Rat) : List Value := [.bool (sg q.num), .string (mg q.num), .bool (sg (dn q)), .string (mg (dn q))]
theorem same (q : Rat) : Bin .eql 25 (rV q) (rV q) (.bool true) := binR1 q q (by simp)
theorem eq1 {f : FuncId} {args : List Value} {p q : Rat} (h : Sp Tryz.prog f [] args (rV p) []) (e : p = q) : Sp Tryz.prog f [] args (rV q) [] := e ▸ h
def IsRt (X r : Nat) : Prop := r * r ≤ X ∧ X < (r + 1) * (r + 1)
theorem isRt_ex (X : Nat) : ∃ r, IsRt X r := by
 induction X with
 | zero => exact ⟨0, by unfold IsRt; omega⟩
 | succ X ih =>
  obtain ⟨r, h1, h2⟩ := ih
  by_cases h : X + 1 < (r + 1) * (r + 1)
  ·exact ⟨r, by omega, h⟩
  ·refine ⟨r + 1, by omega, ?_⟩
   have e : (r + 1 + 1) * (r + 1 + 1) = (r + 1) * (r + 1) + 2 * r + 3 := by simp only [Nat.mul_add, Nat.add_mul]; omega
   omega
theorem sq_parts (q : Rat) : (q * q).num = q.num * q.num ∧ (q * q).den = q.den * q.den := by
 have e : q * q = q ^ 2 := by rw [Rat.pow_succ, Rat.pow_one]
 rw [e, Rat.num_pow, Rat.den_pow]
 exact ⟨by rw [Int.pow_succ, Int.pow_succ, Int.pow_zero, Int.one_mul], by rw [Nat.pow_succ, Nat.pow_succ, Nat.pow_zero, Nat.one_mul]⟩
theorem iSquare (x : Int) (hx : (mg x).size ≤ 1048576) : (∃ r : Nat, 0 ≤ x ∧ r * r = x.natAbs ∧ Sp Tryz.prog 158 [] [iV x] (.tuple #[iV (r : Int), .bool true]) []) ∨ ((∀ r : Nat, 0 ≤ x → r * r ≠ x.natAbs) ∧ Sp Tryz.prog 158 [] [iV x] (.tuple #[iZ, .bool false]) []) := by
 by_cases h0 : x < 0
 ·exact .inr ⟨fun r h => by omega, Sp.of (fun xs w => Tryz.call158 xs w) (by kernel_rfl) (by kernel_rfl) (fun w => IsSquare_neg x h0 w)⟩
 ·obtain ⟨r, h1, h2⟩ := isRt_ex x.natAbs
  by_cases h : r * r = x.natAbs
  ·exact .inl ⟨r, by omega, h, Sp.of (fun xs w => Tryz.call158 xs w) (by kernel_rfl) (by kernel_rfl) (fun w => IsSquare_yes x r (by omega) h w hx)⟩
  ·refine .inr ⟨fun s _ hs => ?_, Sp.of (fun xs w => Tryz.call158 xs w) (by kernel_rfl) (by kernel_rfl) (fun w => IsSquare_no x r (by omega) h1 h2 h w hx)⟩
   have h3 : r < s := by
    apply Decidable.byContradiction
    intro hc
    have := Nat.mul_le_mul (show s ≤ r by omega) (show s ≤ r by omega)
    omega
   have := Nat.mul_le_mul (show r + 1 ≤ s by omega) (show r + 1 ≤ s by omega)
   omega
theorem pRoot (p : Rat) (hp : Fits p) : (∃ q : Rat, 0 ≤ q ∧ q * q = p ∧ Sp Tryz.prog 119 [] [rV p] (.tuple #[rV q, .bool true]) []) ∨ ((∀ q : Rat, q * q ≠ p) ∧ Sp Tryz.prog 119 [] [rV p] (.tuple #[rZ, .bool false]) []) := by
 have a1 := hp.1
 have a2 := hp.2
 have z1 : (mg p.num).size ≤ 131000 := by rw [mg_nd]; omega
 have z3 : (mg (p.den : Int)).size ≤ 131000 := by rw [mg_nd]; simpa using a2
 have H2 := pDen p
 obtain ⟨d, hd⟩ : ∃ z : Int, z = (p.den : Int) := ⟨_, rfl⟩
 have dp : 0 < d := by rw [hd]; exact den_pos p
 rw [← hd] at z3 H2
 have notsq : (∀ r : Nat, 0 ≤ p.num → r * r ≠ p.num.natAbs) ∨ (∀ r : Nat, 0 ≤ d → r * r ≠ d.natAbs) → ∀ q : Rat, q * q ≠ p := by
  intro h q hq
  obtain ⟨e1, e2⟩ := sq_parts q
  rw [hq] at e1 e2
  rcases h with h | h
  ·refine h q.num.natAbs ?_ ?_
   ·rw [e1]
    rcases Int.le_total 0 q.num with h0 | h0
    ·exact Int.mul_nonneg h0 h0
    ·exact Int.mul_nonneg_of_nonpos_of_nonpos h0 h0
   ·rw [e1, Int.natAbs_mul]
  ·refine h q.den (by omega) ?_
   rw [hd, Int.natAbs_natCast, e2]
 rcases iSquare p.num (by omega) with ⟨n, n0, n1, g1⟩ | ⟨n1, g1⟩
 ·rcases iSquare d (by omega) with ⟨e, e0, e1, g3⟩ | ⟨e1, g3⟩
  ·left
   have ep : 0 < e := by
    rcases Nat.eq_zero_or_pos e with h | h
    ·rw [h] at e1; omega
    ·exact h
   have hq : (Rat.divInt (n : Int) (e : Int)) * (Rat.divInt (n : Int) (e : Int)) = p := by
    rw [Rat.divInt_mul_divInt]
    have h1 : (n : Int) * n = p.num := by
     have : ((n * n : Nat) : Int) = (p.num.natAbs : Int) := by rw [n1]
     rw [Int.natCast_mul] at this
     omega
    have h2 : (e : Int) * e = (p.den : Int) := by
     have : ((e * e : Nat) : Int) = (d.natAbs : Int) := by rw [e1]
     rw [Int.natCast_mul] at this
     omega
    rw [h1, h2]
    exact Rat.num_divInt_den p
   obtain ⟨q, hqd⟩ : ∃ q, q = Rat.divInt (n : Int) (e : Int) := ⟨_, rfl⟩
   rw [← hqd] at hq
   have sn : (mg (n : Int)).size ≤ 131000 := Nat.le_trans (mg_le (x := n) (y := p.num) (by rw [← n1]; exact Nat.le_mul_self n)) z1
   have se : (mg (e : Int)).size ≤ 131000 := Nat.le_trans (mg_le (x := e) (y := d) (by rw [← e1]; exact Nat.le_mul_self e)) z3
   have hC := pCan (n : Int) (e : Int) (by omega) (by omega) (by omega)
   rw [← hqd] at hC
   refine ⟨q, by rw [hqd]; exact Rat.divInt_nonneg (by omega) (by omega), hq, ?_⟩
   exact walk (code := Tryz.f119.body.getD .skip) [c g1, c H2, c g3, c hC] fol Tryz.func119 (by kernel_rfl) (fun xs w => Tryz.call119 xs w) (by kernel_rfl)
  ·exact .inr ⟨notsq (.inr e1), walk (code := Tryz.f119.body.getD .skip) [c g1, c H2, c g3] fol Tryz.func119 (by kernel_rfl) (fun xs w => Tryz.call119 xs w) (by kernel_rfl)⟩
 ·rcases iSquare d (by omega) with ⟨e, e0, e1, g3⟩ | ⟨e1, g3⟩
  ·exact .inr ⟨notsq (.inl n1), walk (code := Tryz.f119.body.getD .skip) [c g1, c H2, c g3] fol Tryz.func119 (by kernel_rfl) (fun xs w => Tryz.call119 xs w) (by kernel_rfl)⟩
  ·exact .inr ⟨notsq (.inl n1), walk (code := Tryz.f119.body.getD .skip) [c g1, c H2, c g3] fol Tryz.func119 (by kernel_rfl) (fun xs w => Tryz.call119 xs w) (by kernel_rfl)⟩
end Go.Proofs.YthdaimoankaciaaGreatDoor

end
section
/- Sizes of fractions, found by instances; the least and the greatest of fractions; the sign of a fraction. -/
set_option linter.unusedSimpArgs false
set_option linter.unusedVariables false
namespace Vi
class HasSz (q : Rat) (k : outParam Nat) : Prop where
 sz : Sz k q
instance (p q : Rat) (i j : Nat) [h : HasSz p i] [g : HasSz q j] : HasSz (p + q) (i + j + 1) := ⟨h.sz.add g.sz⟩
instance (p q : Rat) (i j : Nat) [h : HasSz p i] [g : HasSz q j] : HasSz (p - q) (i + j + 1) := ⟨h.sz.sub g.sz⟩
instance (p q : Rat) (i j : Nat) [h : HasSz p i] [g : HasSz q j] : HasSz (p * q) (i + j) := ⟨h.sz.mul g.sz⟩
instance (p : Rat) (i : Nat) [h : HasSz p i] : HasSz (-p) i := ⟨h.sz.neg⟩
theorem lt_pow_self (n : Nat) : n < 256 ^ (n + 1) := by
 induction n with
 | zero => decide
 | succ n ih => rw [Nat.pow_succ]; omega
theorem int_hs (z : Int) (k : Nat) (h : z.natAbs < 256 ^ (k + 1)) : HasSz (z : Rat) (k + 1) :=
 ⟨by rw [Rat.num_intCast]; exact h, by rw [Rat.den_intCast, Nat.pow_succ]; have := Nat.pow_pos (a := 256) (n := k) (by omega); omega⟩
instance (n : Nat) : HasSz (no_index (OfNat.ofNat n : Rat)) (n + 1) := by
 have := int_hs (n : Int) n (by simpa using lt_pow_self n)
 exact this
instance : HasSz (0 : Rat) 1 := ⟨by unfold Sz; decide⟩
instance : HasSz (1 : Rat) 1 := ⟨by unfold Sz; decide⟩
instance : HasSz (2 : Rat) 1 := ⟨by unfold Sz; decide⟩
instance : HasSz (4 : Rat) 1 := ⟨by unfold Sz; decide⟩
theorem hs_div (p q : Rat) (i j : Nat) [h : HasSz p i] [g : HasSz q j] (h0 : q ≠ 0) : HasSz (p / q) (i + j) := ⟨h.sz.div g.sz (fun e => h0 (Rat.num_eq_zero.1 e))⟩
theorem hs_mono {p : Rat} {i j : Nat} (h : HasSz p i) (hij : i ≤ j) : HasSz p j := ⟨h.sz.mono hij⟩
def minQ (p q : Rat) : Rat := if p ≤ q then p else q
def maxQ (p q : Rat) : Rat := if q ≤ p then p else q
instance (p q : Rat) (i j : Nat) [h : HasSz p i] [g : HasSz q j] : HasSz (minQ p q) (i + j) := by
 unfold minQ; split
 ·exact hs_mono h (by omega)
 ·exact hs_mono g (by omega)
instance (p q : Rat) (i j : Nat) [h : HasSz p i] [g : HasSz q j] : HasSz (maxQ p q) (i + j) := by
 unfold maxQ; split
 ·exact hs_mono h (by omega)
 ·exact hs_mono g (by omega)
end Vi
namespace Go.Proofs.YthdaimoankaciaaGreatDoor
open Go Go.RowKit Go.Sy
open Vi
theorem fz {q : Rat} {k : Nat} [h : HasSz q k] (hk : k ≤ 131000 := by first | omega | decide) : Fits q := h.sz.fits hk
theorem cmpI_sg (p : Rat) : cmpI p.num 0 = sgQ p := by
 rcases sgn_cases p with ⟨h1, h2⟩ | ⟨h1, h2⟩ | ⟨h1, h2⟩ <;> rcases sgQ_cases p with ⟨g1, g2⟩ | ⟨g1, g2⟩ | ⟨g1, g2⟩ <;> rw [h1, g1] <;> grind
theorem cmpQ_sg (p q : Rat) : cmpQ p q = sgQ (p - q) := by
 rcases cmpQ_cases p q with ⟨h1, h2⟩ | ⟨h1, h2⟩ | ⟨h1, h2⟩ <;> rcases sgQ_cases (p - q) with ⟨g1, g2⟩ | ⟨g1, g2⟩ | ⟨g1, g2⟩ <;> rw [h1, g1] <;> grind
end Go.Proofs.YthdaimoankaciaaGreatDoor

end
section
/- No program in sight: the canonical form of p + q * sqrt r, and what follows for moves, inverses and values of quadratics. -/
set_option linter.unusedSimpArgs false
set_option linter.unusedVariables false
namespace Vi
open RR Rl
noncomputable def mkR (p q r : Rat) : Rl := open Classical in
 if h : ∃ w : Rat, 0 ≤ w ∧ w * w = r then ⟨p + q * Classical.choose h, 0, false⟩ else ⟨p, q * q * r, decide (q < 0)⟩
theorem sq_inj {v w : Rat} (hv : 0 ≤ v) (hw : 0 ≤ w) (h : v * v = w * w) : v = w := by
 have h2 : (v - w) * (v + w) = 0 := by grind
 rcases Rat.mul_eq_zero.1 h2 with h3 | h3 <;> grind
theorem mkR_sq (p q r w : Rat) (h0 : 0 ≤ w) (h : w * w = r) : mkR p q r = ⟨p + q * w, 0, false⟩ := by
 unfold mkR
 have hx : ∃ w : Rat, 0 ≤ w ∧ w * w = r := ⟨w, h0, h⟩
 rw [dif_pos hx]
 obtain ⟨h1, h2⟩ := Classical.choose_spec hx
 rw [sq_inj h1 h0 (h2.trans h.symm)]
theorem mkR_irr (p q r : Rat) (h : ∀ w : Rat, w * w ≠ r) : mkR p q r = ⟨p, q * q * r, decide (q < 0)⟩ := by
 unfold mkR
 exact dif_neg fun ⟨w, _, hw⟩ => h w hw
theorem sqr_pos {q : Rat} (h : q ≠ 0) : 0 < q * q := by
 rcases (by grind : q < 0 ∨ 0 < q) with h | h
 ·have := Rat.mul_pos (show 0 < -q by grind) (show 0 < -q by grind); grind
 ·exact Rat.mul_pos h h
theorem irr_scale {q r : Rat} (hq : q ≠ 0) (h : ∀ w : Rat, w * w ≠ r) (w : Rat) : w * w ≠ q * q * r := by
 intro e
 refine h (w / q) ?_
 have : q * q ≠ 0 := fun e => (Rat.lt_irrefl (a := 0)) (by have := sqr_pos hq; rw [e] at this; exact this)
 have e2 : (w / q) * q = w := by rw [Rat.div_mul_cancel hq]
 have e3 : (q * q) * (w / q * (w / q)) = (q * q) * r := by
  rw [← e]
  have : (q * q) * (w / q * (w / q)) = (w / q * q) * (w / q * q) := by grind
  rw [this, e2]
 have h5 : (q * q) * (w / q * (w / q) - r) = 0 := by grind
 rcases Rat.mul_eq_zero.1 h5 with h6 | h6
 ·exact absurd h6 this
 ·grind
theorem mkR_ok (p q r : Rat) (hr : 0 ≤ r) : (mkR p q r).Ok := by
 by_cases h : ∃ w : Rat, w * w = r
 ·obtain ⟨w, hw⟩ := h
  rcases (by grind : 0 ≤ w ∨ 0 ≤ -w) with h0 | h0
  ·rw [mkR_sq p q r w h0 hw]; exact .inl ⟨rfl, rfl⟩
  ·rw [mkR_sq p q r (-w) h0 (by grind)]; exact .inl ⟨rfl, rfl⟩
 ·have h : ∀ w : Rat, w * w ≠ r := fun w hw => h ⟨w, hw⟩
  rw [mkR_irr p q r h]
  have r0 : r ≠ 0 := fun e => h 0 (by rw [e, Rat.mul_zero])
  have rp : 0 < r := by grind
  by_cases hq : q = 0
  ·subst hq; exact .inl ⟨by show (0 : Rat) * 0 * r = 0; grind, by show decide ((0 : Rat) < 0) = false; decide +kernel⟩
  ·exact .inr ⟨Rat.mul_pos (sqr_pos hq) rp, irr_scale hq h⟩
theorem sqrt_scale {q r : Rat} (hr : 0 ≤ r) : sqrt (q * q * r) = ofRat (if q < 0 then -q else q) * sqrt r := by
 rw [RR.sqrt_mul (by rcases (by grind : q < 0 ∨ 0 ≤ q) with h | h; have := Rat.mul_nonneg (show 0 ≤ -q by grind) (show 0 ≤ -q by grind); grind; exact Rat.mul_nonneg h h) hr]
 split
 ·rename_i h
  rw [show q * q = -q * -q by grind, RR.sqrt_sqr (by grind)]
 ·rename_i h
  rw [RR.sqrt_sqr (by grind)]
theorem mkR_val (p q r : Rat) (hr : 0 ≤ r) : (mkR p q r).val = ofRat p + ofRat q * sqrt r := by
 by_cases h : ∃ w : Rat, w * w = r
 ·obtain ⟨w, hw⟩ := h
  have main : ∀ w : Rat, 0 ≤ w → w * w = r → (mkR p q r).val = ofRat p + ofRat q * sqrt r := fun w h0 hw => by
   rw [mkR_sq p q r w h0 hw, ← hw, RR.sqrt_sqr h0]
   have := rat_val (p + q * w)
   unfold rat at this
   rw [this]; rfl
  rcases (by grind : 0 ≤ w ∨ 0 ≤ -w) with h0 | h0
  ·exact main w h0 hw
  ·exact main (-w) h0 (by grind)
 ·have h : ∀ w : Rat, w * w ≠ r := fun w hw => h ⟨w, hw⟩
  rw [mkR_irr p q r h]
  unfold Rl.val Rl.s
  dsimp only
  rw [sqrt_scale hr]
  by_cases hq : q < 0
  ·rw [if_pos hq, if_pos (decide_eq_true hq)]
   exact ring [p, q, sqrt r] (by decide +kernel)
  ·rw [if_neg hq, if_neg (by simpa using hq)]
   exact ring [p, q, sqrt r] (by decide +kernel)
theorem mkR_eq {p q r : Rat} {x : Rl} (hr : 0 ≤ r) (hx : x.Ok) (h : x.val = ofRat p + ofRat q * sqrt r) : mkR p q r = x := inj (mkR_ok p q r hr) hx ((mkR_val p q r hr).trans h.symm)
theorem sz_root {w : Rat} {k : Nat} [h : HasSz (w * w) k] : HasSz w k := by
 have h1 : (w * w).num = w.num * w.num ∧ (w * w).den = w.den * w.den := by
  have hc : Nat.Coprime (w.num * w.num).natAbs (w.den * w.den) := by
   rw [Int.natAbs_mul]
   exact Nat.Coprime.mul_left (Nat.Coprime.mul_right w.reduced w.reduced) (Nat.Coprime.mul_right w.reduced w.reduced)
  have e : w * w = ⟨w.num * w.num, w.den * w.den, Nat.mul_ne_zero w.den_nz w.den_nz, hc⟩ := by
   rw [Rat.mul_def, ← Rat.mk_eq_normalize]
  rw [e]; exact ⟨rfl, rfl⟩
 have h2 := h.sz
 unfold Sz at h2
 rw [h1.1, h1.2, Int.natAbs_mul] at h2
 refine ⟨?_⟩
 unfold Sz
 have a1 := Nat.le_mul_self w.num.natAbs
 have a2 := Nat.le_mul_self w.den
 omega
theorem hz0 : HasSz (0 : Rat) 1 := inferInstance
instance (p q r : Rat) (i j k : Nat) [hp : HasSz p i] [hq : HasSz q j] [hr : HasSz r k] : HasSz (mkR p q r).p (i + (j + k) + 1) := by
 by_cases h : ∃ w : Rat, 0 ≤ w ∧ w * w = r
 ·obtain ⟨w, h0, hw⟩ := h
  rw [mkR_sq p q r w h0 hw]
  subst hw
  haveI : HasSz w k := sz_root
  exact (inferInstance : HasSz (p + q * w) _)
 ·unfold mkR
  rw [dif_neg h]
  exact hs_mono hp (by omega)
instance (p q r : Rat) (i j k : Nat) [hp : HasSz p i] [hq : HasSz q j] [hr : HasSz r k] : HasSz (mkR p q r).r (j + j + k + 1) := by
 by_cases h : ∃ w : Rat, 0 ≤ w ∧ w * w = r
 ·obtain ⟨w, h0, hw⟩ := h
  rw [mkR_sq p q r w h0 hw]
  exact hs_mono hz0 (by omega)
 ·unfold mkR
  rw [dif_neg h]
  exact hs_mono (inferInstance : HasSz (q * q * r) _) (by omega)
theorem mkR_zero (p q : Rat) : mkR p q 0 = rat p := by
 rw [mkR_sq p q 0 0 Rat.le_refl (by decide +kernel)]
 unfold rat
 rw [Rat.mul_zero, Rat.add_zero]
theorem neg_mk {x : Rl} (hx : x.Ok) : mkR (x.p * -1) (-1 * x.s) x.r = x.ngR := by
 refine mkR_eq hx.nonneg (ngR_ok hx) ?_
 rw [ngR_val hx]
 unfold Rl.val
 exact ring [x.p, x.s, sqrt x.r] (by decide +kernel)
theorem shift_mk {x : Rl} (hx : x.Ok) (q : Rat) : mkR (x.p + q) x.s x.r = ⟨x.p + q, x.r, x.neg⟩ := by
 refine mkR_eq hx.nonneg (shift_ok hx q) ?_
 rw [shift_val]
 unfold Rl.val
 exact ring [x.p, q, x.s, sqrt x.r] (by decide +kernel)
theorem scale_mk {x : Rl} (hx : x.Ok) (q : Rat) : mkR (x.p * q) (q * x.s) x.r = x.scR q := by
 refine mkR_eq hx.nonneg (scR_ok hx q) ?_
 rw [scR_val hx]
 unfold Rl.val
 exact ring [x.p, q, x.s, sqrt x.r] (by decide +kernel)
def Rl.cj (x : Rl) : Rl := ⟨x.p, x.r, !x.neg⟩
theorem Rl.cj_s (x : Rl) : x.cj.s = -x.s := by
 obtain ⟨p, r, b⟩ := x
 cases b
 ·show (-1 : Rat) = -(1 : Rat); rfl
 ·show (1 : Rat) = -(-1 : Rat); decide +kernel
def Rl.nm (x : Rl) : Rat := x.p * x.p - x.r
theorem nm_ne {x : Rl} (hx : x.Ok) (h0 : x.r ≠ 0) : x.nm ≠ 0 := by
 rcases hx with ⟨h, _⟩ | ⟨_, h⟩
 ·exact absurd h h0
 ·intro e; exact h x.p (by unfold Rl.nm at e; grind)
theorem val_cj {x : Rl} (hx : x.Ok) : x.val * x.cj.val = ofRat x.nm := by
 have e := sr_sq x hx.nonneg
 have e2 : x.cj.val = ofRat x.p - ofRat x.s * sqrt x.r := by
  unfold Rl.val
  rw [Rl.cj_s]
  show ofRat x.p + ofRat (-x.s) * sqrt x.r = _
  exact ring [x.p, x.s, sqrt x.r] (by decide +kernel)
 rw [e2]
 unfold Rl.val Rl.nm
 exact ring1 [x.p, x.s, sqrt x.r, x.r] e (-1) (by decide +kernel)
theorem cj_ok {x : Rl} (hx : x.Ok) (h0 : x.r ≠ 0) : x.cj.Ok := by
 rcases hx with ⟨h, _⟩ | h
 ·exact absurd h h0
 ·exact .inr h
noncomputable def Rl.inv (x : Rl) : Rl := if x.r = 0 then Rl.rat (1 / x.p) else x.cj.scR (1 / x.nm)
theorem hs_div0 (p q : Rat) (i j : Nat) [h : HasSz p i] [g : HasSz q j] : HasSz (p / q) (i + j + 1) := by
 by_cases h0 : q = 0
 ·rw [h0, show p / 0 = 0 by rw [Rat.div_def]; simp]
  exact hs_mono hz0 (by omega)
 ·exact hs_mono (hs_div p q i j h0) (by omega)
instance (x : Rl) (i j : Nat) [h : HasSz x.p i] [g : HasSz x.r j] : HasSz x.nm (i + i + j + 1) := (inferInstance : HasSz (x.p * x.p - x.r) _)
instance (x : Rl) (i j : Nat) [h : HasSz x.p i] [g : HasSz x.r j] : HasSz x.inv.p (i + (1 + (i + i + j + 1) + 1)) := by
 haveI := hs_div0 1 x.nm 1 (i + i + j + 1)
 haveI := hs_div0 1 x.p 1 i
 unfold Rl.inv
 split
 ·exact hs_mono (inferInstance : HasSz (1 / x.p) _) (by omega)
 ·exact (inferInstance : HasSz (x.p * (1 / x.nm)) _)
instance (x : Rl) (i j : Nat) [h : HasSz x.p i] [g : HasSz x.r j] : HasSz x.inv.r (1 + (i + i + j + 1) + 1 + (1 + (i + i + j + 1) + 1) + j) := by
 haveI := hs_div0 1 x.nm 1 (i + i + j + 1)
 unfold Rl.inv
 split
 ·exact hs_mono hz0 (by omega)
 ·exact (inferInstance : HasSz (1 / x.nm * (1 / x.nm) * x.r) _)
theorem div_mul1 {q : Rat} (h : q ≠ 0) : 1 / q * q = 1 := Rat.div_mul_cancel h
theorem inv_ok {x : Rl} (hx : x.Ok) : x.inv.Ok := by
 unfold Rl.inv
 split
 ·exact rat_ok _
 ·exact scR_ok (cj_ok hx ‹_›) _
theorem val_rat0 {x : Rl} (h : x.r = 0) : x.val = ofRat x.p := by
 unfold Rl.val
 rw [h, sqrt_zero]
 exact ring [x.p, x.s] (by decide +kernel)
theorem val_ne0 {x : Rl} (hx : x.Ok) (h0 : x ≠ Rl.rat 0) : x.val ≠ 0 := by
 intro e
 exact h0 (inj hx (rat_ok 0) (e.trans (rat_val 0).symm))
theorem inv_val {x : Rl} (hx : x.Ok) (h0 : x ≠ Rl.rat 0) : x.inv.val * x.val = 1 := by
 unfold Rl.inv
 split
 ·rename_i h
  rw [rat_val, val_rat0 h, ← rat_mul, div_mul1]
  ·rfl
  ·intro e
   exact val_ne0 hx h0 (by rw [val_rat0 h, e]; rfl)
 ·rename_i h
  have e := val_cj hx
  rw [scR_val (cj_ok hx h)]
  have e2 := div_mul1 (nm_ne hx h)
  have e3 : ofRat (1 / x.nm) * ofRat x.nm = 1 := by rw [← rat_mul, e2]; rfl
  generalize 1 / x.nm = t at *
  exact ring2 [t, x.cj.val, x.val, x.nm] e t e3 1 (by decide +kernel)
end Vi
set_option linter.unusedSimpArgs false
set_option linter.unusedVariables false
namespace Vi
open RR Rl
theorem irr_nat (n k : Nat) (h1 : k * k < n) (h2 : n < (k + 1) * (k + 1)) (w : Rat) : w * w ≠ ((n : Nat) : Rat) := by
 intro e
 have hc : Nat.Coprime (w.num * w.num).natAbs (w.den * w.den) := by
  rw [Int.natAbs_mul]
  exact Nat.Coprime.mul_left (Nat.Coprime.mul_right w.reduced w.reduced) (Nat.Coprime.mul_right w.reduced w.reduced)
 have e2 : w * w = ⟨w.num * w.num, w.den * w.den, Nat.mul_ne_zero w.den_nz w.den_nz, hc⟩ := by
  rw [Rat.mul_def, ← Rat.mk_eq_normalize]
 have e3 : (w * w).num = w.num * w.num := by rw [e2]
 have e4 : (((n : Nat) : Rat)).num = (n : Int) := by rfl
 rw [e, e4] at e3
 have e5 : n = w.num.natAbs * w.num.natAbs := by rw [← Int.natAbs_mul, ← e3]; rfl
 generalize w.num.natAbs = m at e5
 rcases Nat.lt_or_ge m (k + 1) with h | h
 ·have := Nat.mul_le_mul (show m ≤ k by omega) (show m ≤ k by omega); omega
 ·have := Nat.mul_le_mul h h; omega
theorem ok_nat (p : Rat) (n k : Nat) (b : Bool) (h0 : 0 < n) (h1 : k * k < n) (h2 : n < (k + 1) * (k + 1)) : (⟨p, ((n : Nat) : Rat), b⟩ : Rl).Ok :=
 .inr ⟨by have : ((0 : Nat) : Rat) < ((n : Nat) : Rat) := Rat.natCast_lt_natCast.2 h0
          exact this, irr_nat n k h1 h2⟩
theorem root_near (isq : Nat → Nat) (hq : ∀ X, isq X * isq X ≤ X ∧ X < (isq X + 1) * (isq X + 1)) (r : Rat) (hr : 0 ≤ r) :
    ofRat (Rat.divInt ((isq (r.num * (r.den : Int)).toNat : Nat) : Int) (r.den : Int)) ≤ sqrt r ∧ sqrt r < ofRat (Rat.divInt ((isq (r.num * (r.den : Int)).toNat : Nat) : Int) (r.den : Int) + 1) := by
 have hb : (0 : Int) < r.den := by have := r.den_nz; omega
 have ha : 0 ≤ r.num := Rat.num_nonneg.2 hr
 obtain ⟨X, hX⟩ : ∃ X : Nat, X = (r.num * (r.den : Int)).toNat := ⟨_, rfl⟩
 have hXi : (X : Int) = r.num * (r.den : Int) := by rw [hX]; exact Int.toNat_of_nonneg (Int.mul_nonneg ha (Int.le_of_lt hb))
 obtain ⟨g1, g2⟩ := hq X
 rw [← hX]
 obtain ⟨w1, w2⟩ := isq_real X (isq X) g1 g2
 generalize isq X = k at *
 have hre : r * (r.den : Rat) = (r.num : Rat) := rat_mul_den r
 have hdq : (0 : Rat) < (r.den : Rat) := by exact_mod_cast hb
 have hXr : (X : Rat) = (r.den : Rat) * (r.den : Rat) * r := by
  have e2 : ((X : Int) : Rat) = (X : Rat) := rfl
  rw [← e2, hXi]
  push_cast
  rw [← hre]
  grind
 have hW : RR.sqrt (X : Rat) = ofRat (r.den : Rat) * sqrt r := by
  rw [hXr, RR.sqrt_mul (Rat.mul_nonneg (Rat.le_of_lt hdq) (Rat.le_of_lt hdq)) hr, RR.sqrt_sqr (Rat.le_of_lt hdq)]
 have ht : (r.den : Rat) * Rat.divInt ((k : Nat) : Int) (r.den : Int) = (k : Rat) := by
  rw [Rat.divInt_eq_div]
  have e1 : ((r.den : Int) : Rat) = (r.den : Rat) := rfl
  have e2 : (((k : Nat) : Int) : Rat) = (k : Rat) := rfl
  rw [e1, e2, Rat.mul_comm, Rat.div_mul_cancel (by grind)]
 have h1q : (1 : Rat) ≤ (r.den : Rat) := by
  have : (1 : Int) ≤ r.den := hb
  exact_mod_cast this
 generalize Rat.divInt ((k : Nat) : Int) (r.den : Int) = t at *
 rw [hW] at w1 w2
 generalize (r.den : Rat) = d at *
 have hd' : (0 : RR) < ofRat d := rat_lt.2 hdq
 constructor
 ·rw [← mul_le_iff hd', ← rat_mul, ht]; exact w1
 ·rw [← mul_lt_iff hd', ← rat_mul]
  refine lt_of_lt_of_le w2 (rat_le.2 ?_)
  rw [Rat.mul_add, ht, Rat.mul_one]
  grind
theorem floor_near {x : Rl} {t : Rat} {m : Int} (h1 : ofRat t ≤ sqrt x.r) (h2 : sqrt x.r < ofRat (t + 1)) (hm : IsFl x.val m) :
    m = (x.p + x.s * t).floor ∨ m = (x.p + x.s * t).floor + 1 ∨ m = (x.p + x.s * t).floor - 1 := by
 have f1 := Rat.floor_le (x.p + x.s * t)
 have f2 := Rat.lt_floor_add_one (x.p + x.s * t)
 generalize (x.p + x.s * t).floor = n at *
 obtain ⟨g1, g2⟩ := hm
 unfold Rl.val at g1 g2
 have up : ofRat x.p + ofRat x.s * sqrt x.r < ofRat (x.p + x.s * t + 1) := by
  rcases s_cases x with ⟨_, e⟩ | ⟨_, e⟩ <;> rw [e]
  ·refine lt_of_le_of_lt (y := ofRat (x.p + -1 * t)) ?_ (rat_lt.2 (by grind))
   refine le_of_nonneg (sqrt x.r - ofRat t) (sub_nonneg.2 h1) ?_
   exact ring [x.p, t, sqrt x.r] (by decide +kernel)
  ·refine lt_of_pos (ofRat (t + 1) - sqrt x.r) (sub_pos.2 h2) ?_
   exact ring [x.p, t, sqrt x.r] (by decide +kernel)
 have lo : ofRat (x.p + x.s * t - 1) < ofRat x.p + ofRat x.s * sqrt x.r := by
  rcases s_cases x with ⟨_, e⟩ | ⟨_, e⟩ <;> rw [e]
  ·refine lt_of_pos (ofRat (t + 1) - sqrt x.r) (sub_pos.2 h2) ?_
   exact ring [x.p, t, sqrt x.r] (by decide +kernel)
  ·refine lt_of_lt_of_le (y := ofRat (x.p + 1 * t)) (rat_lt.2 (by grind)) ?_
   refine le_of_nonneg (sqrt x.r - ofRat t) (sub_nonneg.2 h1) ?_
   exact ring [x.p, t, sqrt x.r] (by decide +kernel)
 have a := rat_lt.1 (lt_of_le_of_lt g1 up)
 have b := rat_lt.1 (lt_trans lo g2)
 have a2 : (m : Rat) < ((n + 2 : Int) : Rat) := by rw [Rat.intCast_add]; have : ((2 : Int) : Rat) = 2 := rfl
                                                   grind
 have b2 : ((n - 1 : Int) : Rat) < ((m + 1 : Int) : Rat) := by rw [Rat.intCast_sub]; have : ((1 : Int) : Rat) = 1 := rfl
                                                               grind
 have a3 : m < n + 2 := by exact_mod_cast a2
 have b3 : n - 1 < m + 1 := by exact_mod_cast b2
 omega
theorem cmp_fl {x : Rl} {m : Int} (hm : IsFl x.val m) : (cmp (Rl.rat (m : Rat)) x ≤ 0) ∧ cmp (Rl.rat ((m + 1 : Int) : Rat)) x = 1 := by
 obtain ⟨g1, g2⟩ := hm
 unfold Rl.cmp
 rw [rat_val, rat_val]
 constructor
 ·rcases sg_cases (ofRat (m : Rat) - x.val) with ⟨h, _⟩ | ⟨h, _⟩ | ⟨h, h2⟩ <;> rw [h]
  ·omega
  ·omega
  ·exact absurd (sub_pos.1 h2) g1
 ·exact sg_pos (sub_pos.2 g2)
theorem cmp_fl_low {x : Rl} {m : Int} (hm : IsFl x.val m) : cmp (Rl.rat ((m - 1 : Int) : Rat)) x = -1 := by
 obtain ⟨g1, g2⟩ := hm
 unfold Rl.cmp
 rw [rat_val]
 refine RR.sg_neg ?_
 rw [lt_zero]
 have h : ofRat ((m - 1 : Int) : Rat) < x.val := by
  refine lt_of_lt_of_le (rat_lt.2 ?_) g1
  rw [Rat.intCast_sub]; have : ((1 : Int) : Rat) = 1 := rfl
  grind
 have e : -(ofRat ((m - 1 : Int) : Rat) - x.val) = x.val - ofRat ((m - 1 : Int) : Rat) := ring [((m - 1 : Int) : Rat), x.val] (by decide +kernel)
 rw [e]
 exact sub_pos.2 h
end Vi

end
section
/- No program in sight: the simplest fraction between two numbers, one whole part after the other. -/
set_option linter.unusedSimpArgs false
set_option linter.unusedVariables false
namespace Go.Proofs.YthdaimoankaciaaGreatDoor
open Go Go.RowKit Go.Sy
open Vi RR
def Btw (X Y : RR) (t : Rat) : Prop := X < ofRat t ∧ ofRat t < Y
def BestP (P : Rat → Prop) (q : Rat) : Prop := P q ∧ ∀ r, P r → q.den ≤ r.den ∧ q.num.natAbs ≤ r.num.natAbs
theorem best_nextP {P : Rat → Prop} (n : Int) (h0 : 0 ≤ n) (hgt : ∀ r, P r → (n : Rat) < r) (hin : P ((n + 1 : Int) : Rat)) : BestP P ((n + 1 : Int) : Rat) := by
 refine ⟨hin, fun r hr => ⟨?_, ?_⟩⟩
 ·rw [Rat.den_intCast]; exact Nat.pos_of_ne_zero r.den_nz
 ·rw [Rat.num_intCast]
  have h1 := int_lt_num (hgt r hr)
  have h2 : 0 < r.den := Nat.pos_of_ne_zero r.den_nz
  have h3 : n * 1 ≤ n * r.den := Int.mul_le_mul_of_nonneg_left (by omega) h0
  omega
theorem best_stepP {P : Rat → Prop} (n : Int) (h0 : 0 ≤ n) (s : Rat) (hs : 0 < s) (hin : P ((n : Rat) + s⁻¹)) (hall : ∀ r, P r → (n : Rat) < r ∧ s.den ≤ ((r - (n : Rat))⁻¹).den ∧ s.num ≤ ((r - (n : Rat))⁻¹).num) : BestP P ((n : Rat) + s⁻¹) := by
 refine ⟨hin, fun r hr => ?_⟩
 obtain ⟨h1, h2, h3⟩ := hall r hr
 obtain ⟨e1, e2⟩ := add_int n s⁻¹
 obtain ⟨i1, i2⟩ := inv_pos_parts s hs
 have hp : 0 < r - (n : Rat) := (Rat.lt_iff_sub_pos _ _).1 h1
 obtain ⟨j1, j2⟩ := inv_pos_parts _ hp
 obtain ⟨k1, k2⟩ := sub_int n r
 rw [j2] at h2
 rw [j1, k2] at h3
 have hsn := num_pos_of s hs
 have hrn := num_pos_of _ hp
 rw [k1] at h2 hrn
 rw [e1, e2, i1, i2]
 have hm : n * (s.num.natAbs : Int) ≤ n * r.den := Int.mul_le_mul_of_nonneg_left (by omega) h0
 have hm0 : 0 ≤ n * (s.num.natAbs : Int) := Int.mul_nonneg h0 (by omega)
 constructor
 ·omega
 ·omega
theorem rinv {z : Rat} (h : 0 < z) : 0 < z⁻¹ ∧ z * z⁻¹ = 1 := ⟨Rat.inv_pos.2 h, Rat.mul_inv_cancel _ (by grind)⟩
theorem inv_up {Y U : RR} {z : Rat} (hz : 0 < z) (hU : 0 < U) (h : U * Y = 1) : ofRat z⁻¹ < Y ↔ U < ofRat z := by
 obtain ⟨_, h2⟩ := rinv hz
 have h3 : ofRat z * ofRat z⁻¹ = 1 := by rw [← rat_mul, h2]; rfl
 generalize z⁻¹ = y at *
 have hd : 0 < U * ofRat z := mul_pos hU (rat_lt.2 hz)
 rw [← mul_lt_iff hd]
 have e1 : U * ofRat z * ofRat y = U := ring1 [U, z, y] h3 U (by decide +kernel)
 have e2 : U * ofRat z * Y = ofRat z := ring1 [U, z, Y] h (ofRat z) (by decide +kernel)
 rw [e1, e2]
theorem inv_dn {X V : RR} {z : Rat} (hz : 0 < z) (hV : 0 < V) (h : V * X = 1) : X < ofRat z⁻¹ ↔ ofRat z < V := by
 obtain ⟨_, h2⟩ := rinv hz
 have h3 : ofRat z * ofRat z⁻¹ = 1 := by rw [← rat_mul, h2]; rfl
 generalize z⁻¹ = y at *
 have hd : 0 < V * ofRat z := mul_pos hV (rat_lt.2 hz)
 rw [← mul_lt_iff hd]
 have e1 : V * ofRat z * ofRat y = V := ring1 [V, z, y] h3 V (by decide +kernel)
 have e2 : V * ofRat z * X = ofRat z := ring1 [V, z, X] h (ofRat z) (by decide +kernel)
 rw [e1, e2]
theorem shift_lt {X : RR} {n : Int} {t : Rat} : X < ofRat ((n : Rat) + t) ↔ X - ofRat (n : Rat) < ofRat t := by
 rw [rat_add]
 constructor
 ·intro h; exact lt_of_pos (ofRat (n : Rat) + ofRat t - X) (sub_pos.2 h) (ring [X, (n : Rat), t] (by decide +kernel))
 ·intro h; exact lt_of_pos (ofRat t - (X - ofRat (n : Rat))) (sub_pos.2 h) (ring [X, (n : Rat), t] (by decide +kernel))
theorem lt_shift {Y : RR} {n : Int} {t : Rat} : ofRat ((n : Rat) + t) < Y ↔ ofRat t < Y - ofRat (n : Rat) := by
 rw [rat_add]
 constructor
 ·intro h; exact lt_of_pos (Y - (ofRat (n : Rat) + ofRat t)) (sub_pos.2 h) (ring [Y, (n : Rat), t] (by decide +kernel))
 ·intro h; exact lt_of_pos (Y - ofRat (n : Rat) - ofRat t) (sub_pos.2 h) (ring [Y, (n : Rat), t] (by decide +kernel))
theorem pos_of_mul {U Y : RR} (hY : 0 < Y) (h : U * Y = 1) : 0 < U := by
 rcases tri 0 U with h1 | h1 | h1
 ·exact h1
 ·rw [← h1] at h
  have : (0 : RR) = 1 := by rw [← h]; exact ring [Y] (by decide +kernel)
  exact absurd (rat_inj (p := 0) (q := 1) this) (by decide +kernel)
 ·have := mul_neg hY h1
  rw [RR.mul_comm, h] at this
  exact absurd (rat_lt (p := 1) (q := 0) |>.1 this) (by decide +kernel)
section
variable {X Y U : RR} {n : Int}
theorem btw_inv {V : RR} (hX : ofRat (n : Rat) < X) (hXY : X < Y) (hU : U * (Y - ofRat (n : Rat)) = 1) (hV : V * (X - ofRat (n : Rat)) = 1) {z : Rat} (hz : 0 < z) : Btw X Y ((n : Rat) + z⁻¹) ↔ Btw U V z := by
 have pX : 0 < X - ofRat (n : Rat) := sub_pos.2 hX
 have pY : 0 < Y - ofRat (n : Rat) := sub_pos.2 (lt_trans hX hXY)
 unfold Btw
 rw [shift_lt, lt_shift, inv_dn hz (pos_of_mul pX hV) hV, inv_up hz (pos_of_mul pY hU) hU]
 exact And.comm
theorem btw_inv0 (hX : X = ofRat (n : Rat)) (hXY : X < Y) (hU : U * (Y - ofRat (n : Rat)) = 1) {z : Rat} (hz : 0 < z) : Btw X Y ((n : Rat) + z⁻¹) ↔ U < ofRat z := by
 have pY : 0 < Y - ofRat (n : Rat) := sub_pos.2 (by rw [← hX]; exact hXY)
 unfold Btw
 rw [lt_shift, inv_up hz (pos_of_mul pY hU) hU]
 constructor
 ·exact fun h => h.2
 ·refine fun h => ⟨?_, h⟩
  rw [hX]
  refine rat_lt.2 ?_
  have := (rinv hz).1
  grind
theorem gt_floor (hX : ofRat (n : Rat) ≤ X) {t : Rat} (h : Btw X Y t) : (n : Rat) < t := rat_lt.1 (lt_of_le_of_lt hX h.1)
theorem back (t : Rat) : (n : Rat) + ((t - (n : Rat))⁻¹)⁻¹ = t := by rw [Rat.inv_inv]; grind
theorem best_rec {V : RR} (h0 : 0 ≤ n) (hX : ofRat (n : Rat) < X) (hXY : X < Y) (hU : U * (Y - ofRat (n : Rat)) = 1) (hV : V * (X - ofRat (n : Rat)) = 1) {s : Rat} (hs : 0 < s) (hb : BestP (Btw U V) s) : BestP (Btw X Y) ((n : Rat) + s⁻¹) := by
 refine best_stepP n h0 s hs ((btw_inv hX hXY hU hV hs).2 hb.1) fun r hr => ?_
 have h1 := gt_floor (le_of_lt hX) hr
 have hp : 0 < (r - (n : Rat))⁻¹ := (rinv (by grind)).1
 have h2 : Btw U V (r - (n : Rat))⁻¹ := by
  rw [← btw_inv hX hXY hU hV hp, back]; exact hr
 have h3 := hb.2 _ h2
 have h4 := num_pos_of s hs
 have h5 := num_pos_of _ hp
 exact ⟨h1, h3.1, by omega⟩
theorem best_last (h0 : 0 ≤ n) (hX : X = ofRat (n : Rat)) (hXY : X < Y) (hU : U * (Y - ofRat (n : Rat)) = 1) {m : Int} (hm : IsFl U m) (hm0 : 0 ≤ m) : BestP (Btw X Y) ((n : Rat) + (((m + 1 : Int) : Rat))⁻¹) := by
 have hs : (0 : Rat) < ((m + 1 : Int) : Rat) := by
  have : (0 : Int) < m + 1 := by omega
  exact_mod_cast this
 refine best_stepP n h0 _ hs ((btw_inv0 hX hXY hU hs).2 hm.2) fun r hr => ?_
 have h1 := gt_floor (le_of_eq hX.symm) hr
 have hp : 0 < (r - (n : Rat))⁻¹ := (rinv (by grind)).1
 have h2 : U < ofRat (r - (n : Rat))⁻¹ := by
  rw [← btw_inv0 hX hXY hU hp, back]; exact hr
 generalize (r - (n : Rat))⁻¹ = w at *
 have h3 : (m : Rat) < w := rat_lt.1 (lt_of_le_of_lt hm.1 h2)
 have h4 := int_lt_num h3
 have h5 : 0 < w.den := Nat.pos_of_ne_zero w.den_nz
 have h6 : m * 1 ≤ m * w.den := Int.mul_le_mul_of_nonneg_left (by omega) hm0
 refine ⟨h1, ?_, ?_⟩
 ·rw [Rat.den_intCast]; exact h5
 ·rw [Rat.num_intCast]; omega
theorem best_whole (h0 : 0 ≤ n) (hX : IsFl X n) (hY : ofRat ((n + 1 : Int) : Rat) < Y) : BestP (Btw X Y) ((n + 1 : Int) : Rat) :=
 best_nextP n h0 (fun r hr => gt_floor hX.1 hr) ⟨hX.2, hY⟩
theorem best_zeroR (hX : X < 0) (hY : 0 < Y) : BestP (Btw X Y) 0 := ⟨⟨hX, hY⟩, fun r _ => ⟨Nat.pos_of_ne_zero r.den_nz, Nat.zero_le _⟩⟩
theorem neg_lt_neg {a b : RR} : -a < -b ↔ b < a := by
 constructor
 ·intro h; exact lt_of_pos (-b - -a) (sub_pos.2 h) (ring [a, b] (by decide +kernel))
 ·intro h; exact lt_of_pos (a - b) (sub_pos.2 h) (ring [a, b] (by decide +kernel))
theorem best_negR {r : Rat} (h : BestP (Btw (-Y) (-X)) r) : BestP (Btw X Y) (-r) := by
 have flip : ∀ t : Rat, Btw (-Y) (-X) t ↔ Btw X Y (-t) := fun t => by
  unfold Btw
  rw [rat_neg, ← neg_lt_neg (a := -ofRat t) (b := X), ← neg_lt_neg (a := Y) (b := -ofRat t), RR.neg_neg]
  exact And.comm
 refine ⟨(flip r).1 h.1, fun t ht => ?_⟩
 have := h.2 (-t) ((flip (-t)).2 (by rw [Rat.neg_neg]; exact ht))
 rw [Rat.neg_den, Rat.neg_num, Int.natAbs_neg]
 rw [Rat.neg_den, Rat.neg_num, Int.natAbs_neg] at this
 exact this
end
end Go.Proofs.YthdaimoankaciaaGreatDoor

end
section
/- No program in sight: sizes of the numbers that come up on the way to the simplest fraction. -/
set_option linter.unusedSimpArgs false
set_option linter.unusedVariables false
namespace Go.Proofs.YthdaimoankaciaaGreatDoor
open Go Go.RowKit Go.Sy
open Vi RR
def Rm (z0 z : Rl) (a b c d : Int) : Prop := z0.val * (ofRat (c : Rat) * z.val + ofRat (d : Rat)) = ofRat (a : Rat) * z.val + ofRat (b : Rat)
theorem Rm.start (z : Rl) : Rm z z 1 0 0 1 := by
 unfold Rm
 show z.val * (ofRat 0 * z.val + ofRat 1) = ofRat 1 * z.val + ofRat 0
 exact ring [z.val] (by decide +kernel)
theorem Rm.next {z0 z z' : Rl} {a b c d n : Int} (h : Rm z0 z a b c d) (hz : z'.val * (z.val - ofRat (n : Rat)) = 1) : Rm z0 z' (a * n + b) a (c * n + d) c := by
 unfold Rm at h ⊢
 rw [Rat.intCast_add, Rat.intCast_add, Rat.intCast_mul, Rat.intCast_mul]
 exact ring2 [z0.val, z.val, z'.val, (a : Rat), (b : Rat), (c : Rat), (d : Rat), (n : Rat)] h z'.val hz (ofRat (a : Rat) - z0.val * ofRat (c : Rat)) (by decide +kernel)
theorem lift {x : Int} {i j : Nat} (h : x.natAbs < 256 ^ i) (hij : i ≤ j) : x.natAbs < 256 ^ j := Nat.lt_of_lt_of_le h (Nat.pow_le_pow_right (by omega) hij)
theorem sub_lt' {x y : Int} {i : Nat} (hx : x.natAbs < 256 ^ i) (hy : y.natAbs < 256 ^ i) : (x - y).natAbs < 256 ^ (i + 1) := by
 rw [Int.sub_eq_add_neg]
 exact natAbs_add_lt' hx (by rw [Int.natAbs_neg]; exact hy)
theorem size_of {z0 z : Rl} (h0 : z0.Ok) (hz : z.Ok) [hp : HasSz z0.p 8] [hr : HasSz z0.r 8] {a b c d : Int} {m : Nat} (ha : a.natAbs < 256 ^ m) (hb : b.natAbs < 256 ^ m) (hc : c.natAbs < 256 ^ m) (hd : d.natAbs < 256 ^ m)
    (det : a * d - b * c = 1 ∨ a * d - b * c = -1) (h : Rm z0 z a b c d) : HasSz z.p (2 * m + 27) ∧ HasSz z.r (4 * m + 62) := by
 obtain ⟨n, hn⟩ : ∃ n : Int, n = z0.p.num := ⟨_, rfl⟩
 obtain ⟨e, he⟩ : ∃ e : Int, e = (z0.p.den : Int) := ⟨_, rfl⟩
 obtain ⟨u, hu⟩ : ∃ u : Int, u = z0.r.num := ⟨_, rfl⟩
 obtain ⟨v, hv⟩ : ∃ v : Int, v = (z0.r.den : Int) := ⟨_, rfl⟩
 have pe : z0.p * (e : Rat) = (n : Rat) := by rw [he, hn]; exact rat_mul_den z0.p
 have rv : z0.r * (v : Rat) = (u : Rat) := by rw [hv, hu]; exact rat_mul_den z0.r
 have zn : n.natAbs < 256 ^ 8 := by rw [hn]; exact hp.sz.1
 have ze : e.natAbs < 256 ^ 8 := by rw [he, Int.natAbs_natCast]; exact hp.sz.2
 have zu : u.natAbs < 256 ^ 8 := by rw [hu]; exact hr.sz.1
 have zv : v.natAbs < 256 ^ 8 := by rw [hv, Int.natAbs_natCast]; exact hr.sz.2
 have e0 : (e : Rat) ≠ 0 := by
  have : e ≠ 0 := by rw [he]; have := z0.p.den_nz; omega
  exact_mod_cast this
 have v0 : (v : Rat) ≠ 0 := by
  have : v ≠ 0 := by rw [hv]; have := z0.r.den_nz; omega
  exact_mod_cast this
 clear hn he hu hv
 have detR : (a : Rat) * (d : Rat) - (b : Rat) * (c : Rat) = 1 ∨ (a : Rat) * (d : Rat) - (b : Rat) * (c : Rat) = -1 := by
  rcases det with h | h
  ·left; rw [← Rat.intCast_mul, ← Rat.intCast_mul, ← Rat.intCast_sub, h]; rfl
  ·right; rw [← Rat.intCast_mul, ← Rat.intCast_mul, ← Rat.intCast_sub, h]; rfl
 obtain ⟨ε, hε⟩ : ∃ ε : Int, ε = a * d - b * c := ⟨_, rfl⟩
 have hεR : (ε : Rat) = (a : Rat) * (d : Rat) - (b : Rat) * (c : Rat) := by rw [hε, Rat.intCast_sub, Rat.intCast_mul, Rat.intCast_mul]
 have sq := Rl.sr_sq z0 h0.nonneg
 obtain ⟨N, hN⟩ : ∃ N : Rat, N = (a : Rat) * a - 2 * a * c * z0.p + c * c * (z0.p * z0.p - z0.r) := ⟨_, rfl⟩
 have N0 : N ≠ 0 := by
  intro hz0
  have f : ((a : Rat) - c * z0.p) * ((a : Rat) - c * z0.p) = c * c * z0.r := by grind
  by_cases c0 : (c : Rat) = 0
  ·have a0 : (a : Rat) = 0 := by
     rw [c0] at f
     have f2 : (a : Rat) * a = 0 := by grind
     rcases Rat.mul_eq_zero.1 f2 with g | g <;> exact g
   rcases detR with g | g <;> (rw [c0, a0] at g; grind)
  ·rcases h0 with ⟨r0, _⟩ | ⟨_, irr⟩
   ·
    have g1 : (a : Rat) - c * z0.p = 0 := by
     rw [r0] at f
     have f2 : ((a : Rat) - c * z0.p) * ((a : Rat) - c * z0.p) = 0 := by grind
     rcases Rat.mul_eq_zero.1 f2 with g | g <;> exact g
    have hv0 := val_rat0 r0
    unfold Rm at h
    rw [hv0] at h
    have g2 : ofRat (d * z0.p - b) = 0 := by
     have g3 : (a : Rat) = c * z0.p := by grind
     rw [g3] at h
     have : ofRat (d * z0.p - b) = ofRat z0.p * (ofRat (c : Rat) * z.val + ofRat (d : Rat)) - (ofRat ((c : Rat) * z0.p) * z.val + ofRat (b : Rat)) := ring [(c : Rat), (d : Rat), (b : Rat), z0.p, z.val] (by decide +kernel)
     rw [this, h]
     exact ring [(c : Rat), z0.p, z.val, (b : Rat)] (by decide +kernel)
    have g4 := rat_inj (q := 0) g2
    have g5 : (a : Rat) * d - b * c = 0 := by
     have g3 : (a : Rat) = c * z0.p := by grind
     have g6 : (b : Rat) = d * z0.p := by grind
     rw [g3, g6]; grind
    rcases detR with g | g <;> (rw [g5] at g; exact absurd g (by decide +kernel))
   ·refine irr (((a : Rat) - c * z0.p) / c) ?_
    have ee : ((a : Rat) - c * z0.p) / c * c = (a : Rat) - c * z0.p := Rat.div_mul_cancel c0
    generalize ((a : Rat) - c * z0.p) / c = q at *
    have f2 : (c * c) * (q * q - z0.r) = 0 := by rw [← ee] at f; grind
    rcases Rat.mul_eq_zero.1 f2 with g | g
    ·rcases Rat.mul_eq_zero.1 g with g | g <;> exact absurd g c0
    ·grind
 obtain ⟨I, hI⟩ : ∃ I : Rat, I = 1 / N := ⟨_, rfl⟩
 have hIN : I * N = 1 := by rw [hI]; exact div_mul1 N0
 obtain ⟨T, hT⟩ : ∃ T : Rat, T = ((a : Rat) * d + b * c) * z0.p - d * c * (z0.p * z0.p - z0.r) - a * b := ⟨_, rfl⟩
 have key : ofRat N * z.val = ofRat T + ofRat (ε : Rat) * (ofRat z0.s * sqrt z0.r) := by
  unfold Rm Rl.val at h
  rw [hN, hT, hεR]
  have k1 : ofRat ((a : Rat) - c * z0.p) + ofRat (c : Rat) * (ofRat z0.s * sqrt z0.r) = ofRat ((a : Rat) - c * z0.p) + ofRat (c : Rat) * (ofRat z0.s * sqrt z0.r) := rfl
  show _ = _
  have hv : z.val = ofRat z.p + ofRat z.s * sqrt z.r := rfl
  rw [← hv] at h
  generalize z.val = Z at *
  exact ring2 [Z, z0.p, z0.r, (a : Rat), (b : Rat), (c : Rat), (d : Rat), z0.s, sqrt z0.r] h (-(ofRat ((a : Rat) - c * z0.p) + ofRat (c : Rat) * (ofRat z0.s * sqrt z0.r))) sq (ofRat (c : Rat) * ofRat (c : Rat) * Z + ofRat (d : Rat) * ofRat (c : Rat)) (by decide +kernel)
 have val : z.val = ofRat (T * I) + ofRat ((ε : Rat) * z0.s * I) * sqrt z0.r := by
  have h1 : ofRat I * ofRat N = 1 := by rw [← rat_mul, hIN]; rfl
  exact ring2 [z.val, T, I, N, (ε : Rat), z0.s, sqrt z0.r] key (ofRat I) h1 (-z.val) (by decide +kernel)
 have mk := mkR_eq h0.nonneg hz val
 obtain ⟨A, hA⟩ : ∃ A : Int, A = (a * d + b * c) * (n * e * v) - d * c * (n * n * v - u * (e * e)) - a * b * (e * e * v) := ⟨_, rfl⟩
 obtain ⟨B, hB⟩ : ∃ B : Int, B = a * a * (e * e * v) - 2 * (a * c) * (n * e * v) + c * c * (n * n * v - u * (e * e)) := ⟨_, rfl⟩
 obtain ⟨F, hF⟩ : ∃ F : Rat, F = (e : Rat) * e * v := ⟨_, rfl⟩
 have F0 : F ≠ 0 := by
  rw [hF]
  intro g
  rcases Rat.mul_eq_zero.1 g with g | g
  ·rcases Rat.mul_eq_zero.1 g with g | g <;> exact e0 g
  ·exact v0 g
 have eA : (A : Rat) = T * F := by
  rw [hA, hT, hF]
  push_cast
  rw [← pe, ← rv]
  grind
 have eB : (B : Rat) = N * F := by
  rw [hB, hN, hF]
  push_cast
  rw [← pe, ← rv]
  grind
 have B0 : (B : Rat) ≠ 0 := by
  rw [eB]
  intro g
  rcases Rat.mul_eq_zero.1 g with g | g
  ·exact N0 g
  ·exact F0 g
 have B0' : B ≠ 0 := fun g => B0 (by rw [g]; rfl)
 have eP : T * I = Rat.divInt A B := by
  rw [Rat.divInt_eq_div]
  have g1 : T * I * (B : Rat) = (A : Rat) := by rw [eA, eB]; grind
  have g2 : (A : Rat) / (B : Rat) * (B : Rat) = (A : Rat) := Rat.div_mul_cancel B0
  have g3 : (T * I - (A : Rat) / (B : Rat)) * (B : Rat) = 0 := by grind
  rcases Rat.mul_eq_zero.1 g3 with g | g
  ·grind
  ·exact absurd g B0
 have eQ : (ε : Rat) * I = Rat.divInt (ε * (e * e * v)) B := by
  rw [Rat.divInt_eq_div]
  have g1 : (ε : Rat) * I * (B : Rat) = ((ε * (e * e * v) : Int) : Rat) := by
   rw [eB]; push_cast; rw [hF]; grind
  have g2 : ((ε * (e * e * v) : Int) : Rat) / (B : Rat) * (B : Rat) = ((ε * (e * e * v) : Int) : Rat) := Rat.div_mul_cancel B0
  have g3 : ((ε : Rat) * I - ((ε * (e * e * v) : Int) : Rat) / (B : Rat)) * (B : Rat) = 0 := by grind
  rcases Rat.mul_eq_zero.1 g3 with g | g
  ·grind
  ·exact absurd g B0
 have znev := natAbs_mul_lt' (natAbs_mul_lt' zn ze) zv
 have zeev := natAbs_mul_lt' (natAbs_mul_lt' ze ze) zv
 have zdif := sub_lt' (natAbs_mul_lt' (natAbs_mul_lt' zn zn) zv) (lift (natAbs_mul_lt' zu (natAbs_mul_lt' ze ze)) (show 8 + (8 + 8) ≤ 8 + 8 + 8 by omega))
 have sA : A.natAbs < 256 ^ (2 * m + 27) := by
  rw [hA]
  have t1 := natAbs_mul_lt' (natAbs_add_lt' (natAbs_mul_lt' ha hd) (natAbs_mul_lt' hb hc)) znev
  have t2 := natAbs_mul_lt' (natAbs_mul_lt' hd hc) zdif
  have t3 := natAbs_mul_lt' (natAbs_mul_lt' ha hb) zeev
  have t4 := sub_lt' (lift t1 (show _ ≤ 2 * m + 25 by omega)) (lift t2 (show _ ≤ 2 * m + 25 by omega))
  exact lift (sub_lt' (lift t4 (show _ ≤ 2 * m + 26 by omega)) (lift t3 (show _ ≤ 2 * m + 26 by omega))) (by omega)
 have sB : B.natAbs < 256 ^ (2 * m + 27) := by
  rw [hB]
  have two : (2 : Int).natAbs < 256 ^ 1 := by decide
  have t1 := natAbs_mul_lt' (natAbs_mul_lt' ha ha) zeev
  have t2 := natAbs_mul_lt' (natAbs_mul_lt' two (natAbs_mul_lt' ha hc)) znev
  have t3 := natAbs_mul_lt' (natAbs_mul_lt' hc hc) zdif
  have t4 := sub_lt' (lift t1 (show _ ≤ 2 * m + 25 by omega)) (lift t2 (show _ ≤ 2 * m + 25 by omega))
  exact lift (natAbs_add_lt' (lift t4 (show _ ≤ 2 * m + 26 by omega)) (lift t3 (show _ ≤ 2 * m + 26 by omega))) (by omega)
 have sE : (ε * (e * e * v)).natAbs < 256 ^ (2 * m + 27) := by
  have t0 : ε.natAbs < 256 ^ 1 := by rw [hε]; rcases det with g | g <;> rw [g] <;> decide
  exact lift (natAbs_mul_lt' t0 zeev) (by omega)
 haveI zP : HasSz (T * I) (2 * m + 27) := by rw [eP]; exact ⟨Sz.of A B _ B0' sA sB⟩
 haveI zQ : HasSz ((ε : Rat) * I) (2 * m + 27) := by rw [eQ]; exact ⟨Sz.of _ B _ B0' sE sB⟩
 have ss : (ε : Rat) * z0.s * I * ((ε : Rat) * z0.s * I) = (ε : Rat) * I * ((ε : Rat) * I) := by have := Rl.s_sq z0; grind
 have zQQ : HasSz ((ε : Rat) * z0.s * I * ((ε : Rat) * z0.s * I) * z0.r) (4 * m + 62) := by
  rw [ss]
  exact hs_mono (inferInstance : HasSz ((ε : Rat) * I * ((ε : Rat) * I) * z0.r) _) (by omega)
 rcases h0 with ⟨r0, _⟩ | ⟨_, irr⟩
 ·rw [r0, mkR_zero] at mk
  rw [← mk]
  exact ⟨zP, hs_mono hz0 (by omega)⟩
 ·rw [mkR_irr _ _ _ irr] at mk
  rw [← mk]
  exact ⟨zP, zQQ⟩
end Go.Proofs.YthdaimoankaciaaGreatDoor

end
section
/- No program in sight: different numbers lie apart, so a fraction of bounded size lies between them. -/
set_option linter.unusedSimpArgs false
set_option linter.unusedVariables false
namespace Go.Proofs.YthdaimoankaciaaGreatDoor
open Go Go.RowKit Go.Sy
open Vi RR
theorem sq_ge (a : Rat) : -(a * a + 1) ≤ a ∧ a ≤ a * a + 1 := by
 rcases (by grind : a < 0 ∨ 0 ≤ a) with h | h
 ·have h1 := Rat.mul_pos (show 0 < -a by grind) (show 0 < -a by grind)
  refine ⟨?_, by grind⟩
  rcases (by grind : -1 ≤ a ∨ a < -1) with g | g
  ·grind
  ·have := Rat.mul_pos (show 0 < -a by grind) (show 0 < -a - 1 by grind)
   grind
 ·have h1 := Rat.mul_nonneg h h
  refine ⟨by grind, ?_⟩
  rcases (by grind : a ≤ 1 ∨ 1 < a) with g | g
  ·grind
  ·have := Rat.mul_pos (show 0 < a by grind) (show 0 < a - 1 by grind)
   grind
theorem sqrt_le1 {r : Rat} (hr : 0 ≤ r) : sqrt r ≤ ofRat (r + 1) := by
 refine sq_le (sqrt_nonneg r) (rat_le.2 (by grind)) ?_
 rw [sqrt_sq r hr, ← rat_mul]
 refine rat_le.2 ?_
 have := Rat.mul_nonneg hr hr
 grind
theorem le_add {a b c d : RR} (h1 : a ≤ b) (h2 : c ≤ d) : a + c ≤ b + d := by
 refine le_of_nonneg ((b - a) + (d - c)) (add_nonneg (sub_nonneg.2 h1) (sub_nonneg.2 h2)) ?_
 exact ring [a, b, c, d] (by decide +kernel)
theorem neg_le {a b : RR} (h : a ≤ b) : -b ≤ -a := by
 refine le_of_nonneg (b - a) (sub_nonneg.2 h) ?_
 exact ring [a, b] (by decide +kernel)
def Abs (w : RR) (M : Rat) : Prop := -ofRat M ≤ w ∧ w ≤ ofRat M
theorem Abs.rat (a : Rat) : Abs (ofRat a) (a * a + 1) := ⟨by rw [← rat_neg]; exact rat_le.2 (sq_ge a).1, rat_le.2 (sq_ge a).2⟩
theorem Abs.add {v w : RR} {M K : Rat} (h : Abs v M) (g : Abs w K) : Abs (v + w) (M + K) := by
 refine ⟨?_, by rw [rat_add]; exact le_add h.2 g.2⟩
 rw [show -ofRat (M + K) = -ofRat M + -ofRat K from ring [M, K] (by decide +kernel)]
 exact le_add h.1 g.1
theorem Abs.neg {v : RR} {M : Rat} (h : Abs v M) : Abs (-v) M := ⟨neg_le h.2, by have := neg_le h.1; rwa [RR.neg_neg] at this⟩
theorem Abs.nonneg {v : RR} {M : Rat} (h : Abs v M) : 0 ≤ M := by
 have h1 := le_trans h.1 h.2
 rw [← rat_neg] at h1
 have := rat_le.1 h1
 grind
theorem mul_le_of {v w : RR} {M K : Rat} (hv : 0 ≤ v) (hvM : v ≤ ofRat M) (hw : w ≤ ofRat K) (hK : 0 ≤ K) : v * w ≤ ofRat (M * K) := by
 rw [rat_mul]
 have h1 := mul_nonneg hv (sub_nonneg.2 hw)
 have h2 := mul_nonneg (sub_nonneg.2 hvM) (show (0 : RR) ≤ ofRat K from rat_le.2 hK)
 refine le_of_nonneg (v * (ofRat K - w) + (ofRat M - v) * ofRat K) (add_nonneg h1 h2) ?_
 exact ring [v, w, M, K] (by decide +kernel)
theorem Abs.mul {v w : RR} {M K : Rat} (h : Abs v M) (g : Abs w K) : Abs (v * w) (M * K) := by
 have pos : ∀ v w : RR, 0 ≤ v → Abs v M → Abs w K → Abs (v * w) (M * K) := fun v w hv h g => by
  refine ⟨?_, mul_le_of hv h.2 g.2 g.nonneg⟩
  have := neg_le (mul_le_of hv h.2 g.neg.2 g.nonneg)
  rwa [show -(v * -w) = v * w from ring [v, w] (by decide +kernel)] at this
 rcases le_total 0 v with hv | hv
 ·exact pos v w hv h g
 ·have hv2 : 0 ≤ -v := by
    have := neg_le hv
    rwa [show -(0 : RR) = 0 from ring [] (by decide +kernel)] at this
  have := (pos (-v) w hv2 h.neg g).neg
  rwa [show -(-v * w) = v * w from ring [v, w] (by decide +kernel)] at this
theorem Abs.root (x : Rl) (hx : 0 ≤ x.r) : Abs (ofRat x.s * sqrt x.r) (x.r + 1) := by
 have h1 := sqrt_le1 hx
 have h2 := sqrt_nonneg x.r
 have h : Abs (sqrt x.r) (x.r + 1) := ⟨le_trans (by rw [← rat_neg]; exact rat_le.2 (by grind)) h2, h1⟩
 rcases Rl.s_cases x with ⟨_, e⟩ | ⟨_, e⟩ <;> rw [e]
 ·have := h.neg
  rwa [show -sqrt x.r = ofRat (-1) * sqrt x.r from ring [sqrt x.r] (by decide +kernel)] at this
 ·rwa [show sqrt x.r = ofRat 1 * sqrt x.r from ring [sqrt x.r] (by decide +kernel)] at h
theorem Abs.mono {v : RR} {M K : Rat} (h : Abs v M) (hMK : M ≤ K) : Abs v K :=
 ⟨le_trans (by rw [← rat_neg, ← rat_neg]; exact rat_le.2 (by grind)) h.1, le_trans h.2 (rat_le.2 hMK)⟩
theorem ge_den (e : Rat) (h : 0 < e) : 1 ≤ e * (e.den : Rat) := by
 rw [rat_mul_den]
 have := num_pos_of e h
 have h2 : (1 : Int) ≤ e.num := by omega
 exact_mod_cast h2
theorem apart {δ w : RR} {e M : Rat} (hδ : 0 < δ) (h : δ * w = ofRat e) (he : e ≠ 0) (hw : Abs w M) : 1 ≤ δ * ofRat (M * (e.den : Rat)) := by
 have hM := hw.nonneg
 have main : ∀ (e : Rat) (w : RR), 0 < e → δ * w = ofRat e → w ≤ ofRat M → 1 ≤ δ * ofRat (M * (e.den : Rat)) := fun e w he h hw => by
  have h1 : ofRat (e * (e.den : Rat)) ≤ δ * ofRat (M * (e.den : Rat)) := by
   have h3 : (0 : RR) ≤ ofRat (e.den : Rat) := rat_le.2 (by exact_mod_cast Nat.zero_le e.den)
   have h4 := mul_nonneg (mul_nonneg (le_of_lt hδ) (sub_nonneg.2 hw)) h3
   refine le_of_nonneg _ h4 ?_
   rw [rat_mul, rat_mul, ← h]
   generalize (e.den : Rat) = D
   exact ring [δ, w, M, D] (by decide +kernel)
  exact le_trans (rat_le.2 (ge_den e he)) h1
 rcases (by grind : 0 < e ∨ e < 0) with g | g
 ·exact main e w g h hw.2
 ·have := main (-e) (-w) (by grind) (by rw [rat_neg, ← h]; exact ring [δ, w] (by decide +kernel)) hw.neg.2
  rwa [Rat.neg_den] at this
theorem rat_le_pow {q : Rat} {k : Nat} [h : HasSz q k] : q ≤ ((256 ^ k : Nat) : Rat) := by
 have h1 := h.sz.1
 obtain ⟨Q, hQ⟩ : ∃ Q : Nat, Q = 256 ^ k := ⟨_, rfl⟩
 rw [← hQ] at h1 ⊢
 have hd : (1 : Rat) ≤ (q.den : Rat) := by have := q.den_nz; exact_mod_cast (show 1 ≤ q.den by omega)
 have hn : (q.num : Rat) ≤ (Q : Rat) := by
  have : q.num ≤ (Q : Int) := by omega
  exact_mod_cast this
 have he := rat_mul_den q
 have hp : (0 : Rat) ≤ (Q : Rat) := by exact_mod_cast Nat.zero_le _
 generalize (Q : Rat) = P at *
 generalize (q.den : Rat) = d at *
 rcases (by grind : q ≤ 0 ∨ 0 < q) with g | g
 ·exact Rat.le_trans g hp
 ·have := Rat.mul_le_mul_of_nonneg_left hd (Rat.le_of_lt g)
  grind
theorem sep_num {x y : Rl} (hx : x.Ok) (hy : y.Ok) [h1 : HasSz x.p 8] [h2 : HasSz x.r 8] [h3 : HasSz y.p 8] [h4 : HasSz y.r 8] (hlt : x.val < y.val) :
    ∃ G : Rat, HasSz G 600 ∧ 1 ≤ (y.val - x.val) * ofRat G := by
 obtain ⟨d, hd⟩ : ∃ d : Rat, d = y.p - x.p := ⟨_, rfl⟩
 haveI zd : HasSz d 17 := by rw [hd]; exact (inferInstance : HasSz (y.p - x.p) (8 + 8 + 1))
 obtain ⟨σ, hσ⟩ : ∃ σ, σ = ofRat x.s * sqrt x.r := ⟨_, rfl⟩
 obtain ⟨τ, hτ⟩ : ∃ τ, τ = ofRat y.s * sqrt y.r := ⟨_, rfl⟩
 have qσ : σ * σ = x.r := by rw [hσ]; exact Rl.sr_sq x hx.nonneg
 have qτ : τ * τ = y.r := by rw [hτ]; exact Rl.sr_sq y hy.nonneg
 have aσ : Abs σ (x.r + 1) := by rw [hσ]; exact Abs.root x hx.nonneg
 have aτ : Abs τ (y.r + 1) := by rw [hτ]; exact Abs.root y hy.nonneg
 obtain ⟨δ, hδ⟩ : ∃ δ, δ = y.val - x.val := ⟨_, rfl⟩
 have eδ : δ = ofRat d - σ + τ := by
  rw [hδ, hd, hσ, hτ]
  unfold Rl.val
  exact ring [y.p, x.p, y.s, x.s, sqrt y.r, sqrt x.r] (by decide +kernel)
 have pδ : 0 < δ := by rw [hδ]; exact sub_pos.2 hlt
 rw [← hδ]
 obtain ⟨g, hg⟩ : ∃ g : Rat, g = d * d + x.r - y.r := ⟨_, rfl⟩
 obtain ⟨h, hh⟩ : ∃ h : Rat, h = -2 * d := ⟨_, rfl⟩
 have f1 : δ * (ofRat d - σ - τ) = ofRat g + ofRat h * σ := by
  rw [eδ, hg, hh]
  exact ring2 [d, σ, τ, x.r, y.r] qσ 1 qτ (-1) (by decide +kernel)
 have f2 : (ofRat g + ofRat h * σ) * (ofRat g - ofRat h * σ) = ofRat (g * g - h * h * x.r) := ring1 [g, h, σ, x.r] qσ (-(ofRat h * ofRat h)) (by decide +kernel)
 have b1 : Abs (ofRat d - σ - τ) (d * d + 1 + (x.r + 1) + (y.r + 1)) := by
  have := ((Abs.rat d).add aσ.neg).add aτ.neg
  rwa [show ofRat d + -σ + -τ = ofRat d - σ - τ from ring [d, σ, τ] (by decide +kernel)] at this
 have b2 : Abs (ofRat g - ofRat h * σ) (g * g + 1 + (h * h + 1) * (x.r + 1)) := by
  have := (Abs.rat g).add ((Abs.rat h).mul aσ).neg
  rwa [show ofRat g + -(ofRat h * σ) = ofRat g - ofRat h * σ from ring [g, h, σ] (by decide +kernel)] at this
 haveI zg : HasSz g 52 := by rw [hg]; exact (inferInstance : HasSz (d * d + x.r - y.r) (17 + 17 + 8 + 1 + 8 + 1))
 haveI zh : HasSz h 18 := by rw [hh]; exact (inferInstance : HasSz (-2 * d) (1 + 17))
 by_cases he : g * g - h * h * x.r = 0
 ·
  have g0 : g = 0 ∧ ofRat h * σ = 0 := by
   rcases hx with ⟨r0, _⟩ | ⟨_, irr⟩
   ·rw [r0] at he
    have : g * g = 0 := by grind
    refine ⟨by rcases Rat.mul_eq_zero.1 this with h | h <;> exact h, ?_⟩
    rw [hσ, r0, sqrt_zero]
    exact ring [h, x.s] (by decide +kernel)
   ·by_cases h0 : h = 0
    ·rw [h0] at he
     have : g * g = 0 := by grind
     refine ⟨by rcases Rat.mul_eq_zero.1 this with h | h <;> exact h, ?_⟩
     rw [h0]
     exact ring [σ] (by decide +kernel)
    ·exfalso
     refine irr (g / h) ?_
     have ee : g / h * h = g := Rat.div_mul_cancel h0
     generalize g / h = q at *
     have f3 : (h * h) * (q * q - x.r) = 0 := by rw [← ee] at he; grind
     rcases Rat.mul_eq_zero.1 f3 with k | k
     ·rcases Rat.mul_eq_zero.1 k with k | k <;> exact absurd k h0
     ·grind
  have f4 : δ * (ofRat d - σ - τ) = 0 := by
   rw [f1, g0.1, g0.2]
   exact ring [] (by decide +kernel)
  have f5 : ofRat d - σ - τ = 0 := Classical.byContradiction fun hne => mul_ne (ne_of_lt pδ).symm hne f4
  have f6 : δ * τ = ofRat (2 * y.r) := by
   have f7 : δ = τ + τ := by rw [eδ]; exact ring1 [d, σ, τ] f5 1 (by decide +kernel)
   rw [f7]
   exact ring1 [τ, y.r] qτ 2 (by decide +kernel)
  have hr : 2 * y.r ≠ 0 := by
   intro hr
   rw [hr] at f6
   have h7 : τ = 0 := Classical.byContradiction fun hne => mul_ne (ne_of_lt pδ).symm hne f6
   have h8 : δ = 0 := by rw [eδ]; exact ring2 [d, σ, τ] f5 1 h7 2 (by decide +kernel)
   rw [h8] at pδ
   exact lt_irrefl _ pδ
  have h9 := apart pδ f6 hr aτ
  have hz : (2 * y.r).den < 256 ^ 9 := (inferInstance : HasSz (2 * y.r) (1 + 8)).sz.2
  haveI : HasSz (((2 * y.r).den : Rat)) 9 := ⟨by rw [show (((2 * y.r).den : Rat)).num = ((2 * y.r).den : Int) from Rat.num_natCast _, Int.natAbs_natCast]; exact hz, by rw [Rat.den_natCast]; decide⟩
  exact ⟨_, hs_mono (inferInstance : HasSz ((y.r + 1) * ((2 * y.r).den : Rat)) _) (by omega), h9⟩
 ·have f3 : δ * ((ofRat d - σ - τ) * (ofRat g - ofRat h * σ)) = ofRat (g * g - h * h * x.r) := by
    rw [← f2, ← f1]
    exact ring [δ, d, σ, τ, g, h] (by decide +kernel)
  have h9 := apart pδ f3 he (b1.mul b2)
  have hz : (g * g - h * h * x.r).den < 256 ^ 149 := (inferInstance : HasSz (g * g - h * h * x.r) (52 + 52 + (18 + 18 + 8) + 1)).sz.2
  generalize (g * g - h * h * x.r).den = D at *
  haveI : HasSz ((D : Nat) : Rat) 149 := ⟨by rw [Rat.num_natCast, Int.natAbs_natCast]; exact hz, by rw [Rat.den_natCast]; exact Nat.one_lt_pow (by decide) (by decide)⟩
  exact ⟨_, hs_mono (inferInstance : HasSz ((d * d + 1 + (x.r + 1) + (y.r + 1)) * (g * g + 1 + (h * h + 1) * (x.r + 1)) * ((D : Nat) : Rat)) _) (by decide), h9⟩
end Go.Proofs.YthdaimoankaciaaGreatDoor

end
