import Derived.Test.YtcbbcmiennjfhaaGreatDoorSy
import Derived.Test.YtcbbcmiennjfhaaGreatDoorFrac
import Derived.Test.YtcbbcmiennjfhaaGreatDoorIntK
import Derived.Test.YtcbbcmiennjfhaaGreatDoorSpF
import Derived.Test.YtcbbcmiennjfhaaGreatDoorSimp
import Derived.Test.YtcbbcmiennjfhaaGreatDoorRelC
/- Contracts for the reckoner: integers; digits as rows. -/
set_option linter.unusedSimpArgs false
set_option linter.unusedVariables false
namespace Go.Proofs.YtcbbcmiennjfhaaGreatDoor
open Go Go.RowKit Go.Sy
open Vi
theorem fol : Tryz.prog.follows .mixedOrders = true := by kernel_rfl
def iV (x : Int) : Value := .agg #[.bool (sg x), .string (mg x)]
def nV (n : Int) : Value := .int .i64 n
def rV (q : Rat) : Value := .agg #[.bool (sg q.num), .string (mg q.num), .bool (sg (dn q)), .string (mg (dn q))]
def rD (x : Nat) : Nat × List Value := (nd 256 x, dvals x (nd 256 x))
theorem row_of_DT {w : World} {v : Value} {x : Nat} (h : DT w v x) : RowW w v (rD x).1 (rD x).2 := by
 refine ⟨fun c hc => ?_, ?_⟩
 ·obtain ⟨i, _, rfl⟩ := List.mem_map.1 hc
  exact ⟨rfl, rfl⟩
 rcases h.2 with ⟨h1, h2⟩ | ⟨g, c, rfl, hc, hm, hg, hcell⟩
 ·refine .inl ⟨h1, h2, ?_⟩
  show dvals x (nd 256 x) = []
  rw [h2]; rfl
 ·refine .inr ⟨g, c, rfl, hc, hm, hg, ?_⟩
  by_cases h0 : nd 256 x = 0
  ·left
   show dvals x (nd 256 x) = []
   rw [h0]; rfl
  ·right
   have h1 := hcell 0 (by omega)
   cases ho : w.heap[g]? with
   | none => unfold World.cell? at h1; rw [ho] at h1; cases h1
   | some ob =>
    cases ob <;> first
     | (unfold World.cell? at h1; rw [ho] at h1; cases h1; done)
     | skip
    rename_i cs ty fz
    refine ⟨cs, ty, fz, rfl, ?_⟩
    apply List.ext_getElem?
    intro i
    show (cs.toList.take (dvals x (nd 256 x)).length)[i]? = (dvals x (nd 256 x))[i]?
    rw [dvals_length]
    by_cases hi : i < nd 256 x
    ·have h2 := hcell i hi
     unfold World.cell? at h2
     rw [ho] at h2
     rw [List.getElem?_take_of_lt hi, Array.getElem?_toList]
     simp only [Option.isSome_none, Bool.false_eq_true, if_false] at h2
     rw [h2]
     unfold dvals
     simp [hi]
    ·rw [List.getElem?_eq_none (by rw [List.length_take]; omega), List.getElem?_eq_none (by rw [dvals_length]; omega)]
theorem DT_of_row {w : World} {v : Value} {x : Nat} (h : RowW w v (rD x).1 (rD x).2) : DT w v x := by
 refine ⟨lt_pow_nd 256 (by omega) x, ?_⟩
 rcases h.2 with ⟨h1, h2, _⟩ | ⟨g, c, rfl, hc, hm, hg, h⟩
 ·exact .inl ⟨h1, h2⟩
 ·refine .inr ⟨g, c, rfl, hc, hm, hg, fun i hi => ?_⟩
  rcases h with h | ⟨cs, ty, fz, h1, h2⟩
  ·have := congrArg List.length h
   rw [show (rD x).2 = dvals x (nd 256 x) from rfl, dvals_length] at this
   simp at this; omega
  ·unfold World.cell?
   rw [h1]
   simp only [Option.isSome_none, Bool.false_eq_true, if_false]
   have h3 : (cs.toList.take (rD x).2.length)[i]? = (rD x).2[i]? := by rw [h2]
   rw [show (rD x).2 = dvals x (nd 256 x) from rfl, dvals_length, List.getElem?_take_of_lt hi] at h3
   rw [Array.getElem?_toList] at h3
   rw [h3]
   unfold dvals
   simp [hi]
theorem loc_own {v : Value} {cells : List Value} {b : Nat} (h : Sy.Loc v cells b) : v.ownBlock = some b := by
 obtain ⟨_, a, n, c, rfl, rfl⟩ := h
 rfl
section
variable {f : FuncId}
theorem Sp.d0 {args : List Value} {z : Nat} (hen : ∀ xs w, (callFunc f xs).run Tryz.prog w = .ok (.enter f xs) w) (ha : args.all plain = true)
    (h : ∀ w, Calls Tryz.prog f ⟨args⟩ w fun e w' => ∃ v, e = .returned v ∧ DT w' v z ∧ (∀ k, v.ownBlock = some k → w.heap.size ≤ k) ∧ Below w.heap.size w w') : Sp Tryz.prog f [] args (row 0 (nd 256 z)) [rD z] := by
 rw [List.all_eq_true] at ha
 refine ⟨hen, fun r w _ => ?_⟩
 have e : args.map (den r) = args := by
  conv => rhs; rw [← List.map_id args]
  exact List.map_congr_left fun x hx => den_plain (ha x hx)
 rw [e]
 refine (h w).mono fun e w' ⟨v, h1, h2, h3, h4⟩ => ⟨fun _ => v, fun i hi => (by cases hi), h1, h4, fun j q hq => ?_⟩
 cases j with
 | zero =>
  simp only [List.getElem?_cons_zero, Option.some.injEq] at hq
  subst hq
  exact ⟨row_of_DT h2, fun b hb => .inl (h3 b (loc_own hb))⟩
 | succ j => simp at hq
theorem two {x y : Nat} {w : World} {r : Nat → Value} (hr : ∀ (i : Nat) (q : Nat × List Value), [rD x, rD y][i]? = some q → RowW w (r i) q.1 q.2) : DT w (r 0) x ∧ DT w (r 1) y :=
 ⟨DT_of_row (hr 0 _ rfl), DT_of_row (hr 1 _ rfl)⟩
theorem Sp.d2 {x y z : Nat} (hen : ∀ xs w, (callFunc f xs).run Tryz.prog w = .ok (.enter f xs) w)
    (h : ∀ v1 v2 w, DT w v1 x → DT w v2 y → Calls Tryz.prog f #[v1, v2] w fun e w' => ∃ v, e = .returned v ∧ DT w' v z ∧ (∀ k, v.ownBlock = some k → w.heap.size ≤ k) ∧ Below w.heap.size w w') :
    Sp Tryz.prog f [rD x, rD y] [row 0 (nd 256 x), row 1 (nd 256 y)] (row 2 (nd 256 z)) [rD z] := by
 refine ⟨hen, fun r w hr => ?_⟩
 obtain ⟨h1, h2⟩ := two hr
 refine (h (r 0) (r 1) w h1 h2).mono fun e w' ⟨v, h1, h2, h3, h4⟩ => ⟨fun k => if k < 2 then r k else v, fun i hi => if_pos hi, h1, h4, fun j q hq => ?_⟩
 cases j with
 | zero =>
  simp only [List.getElem?_cons_zero, Option.some.injEq] at hq
  subst hq
  exact ⟨row_of_DT h2, fun b hb => .inl (h3 b (loc_own hb))⟩
 | succ j => simp at hq
theorem Sp.v2 {x y : Nat} {v : Value} (hv : plain v = true) (hen : ∀ xs w, (callFunc f xs).run Tryz.prog w = .ok (.enter f xs) w)
    (h : ∀ v1 v2 w, DT w v1 x → DT w v2 y → Calls Tryz.prog f #[v1, v2] w fun e w' => e = .returned v ∧ Below w.heap.size w w') : Sp Tryz.prog f [rD x, rD y] [row 0 (nd 256 x), row 1 (nd 256 y)] v [] := by
 refine ⟨hen, fun r w hr => ?_⟩
 obtain ⟨h1, h2⟩ := two hr
 exact (h (r 0) (r 1) w h1 h2).mono fun e w' ⟨h1, h4⟩ => ⟨r, fun i hi => rfl, by rw [den_plain hv]; exact h1, h4, fun j q hq => by simp at hq⟩
theorem Sp.v1 {x : Nat} {v : Value} {l : List Value} (hl : l.all plain = true) (hv : plain v = true) (hen : ∀ xs w, (callFunc f xs).run Tryz.prog w = .ok (.enter f xs) w)
    (h : ∀ v1 w, DT w v1 x → Calls Tryz.prog f ⟨v1 :: l⟩ w fun e w' => e = .returned v ∧ Below w.heap.size w w') : Sp Tryz.prog f [rD x] (row 0 (nd 256 x) :: l) v [] := by
 rw [List.all_eq_true] at hl
 refine ⟨hen, fun r w hr => ?_⟩
 have e : l.map (den r) = l := by
  conv => rhs; rw [← List.map_id l]
  exact List.map_congr_left fun x hx => den_plain (hl x hx)
 rw [List.map_cons, e]
 exact (h (r 0) w (DT_of_row (hr 0 _ rfl))).mono fun e w' ⟨h1, h4⟩ => ⟨r, fun i hi => rfl, by rw [den_plain hv]; exact h1, h4, fun j q hq => by simp at hq⟩
theorem Sp.dd {x y q0 r0 : Nat} (hen : ∀ xs w, (callFunc f xs).run Tryz.prog w = .ok (.enter f xs) w)
    (h : ∀ v1 v2 w, DT w v1 x → DT w v2 y → Calls Tryz.prog f #[v1, v2] w fun e w' => ∃ v, e = .returned v ∧ PTF w.heap.size w' v q0 r0 ∧ Below w.heap.size w w') :
    Sp Tryz.prog f [rD x, rD y] [row 0 (nd 256 x), row 1 (nd 256 y)] (.tuple #[row 2 (nd 256 q0), row 3 (nd 256 r0)]) [rD q0, rD r0] := by
 refine ⟨hen, fun r w hr => ?_⟩
 obtain ⟨h1, h2⟩ := two hr
 refine (h (r 0) (r 1) w h1 h2).mono fun e w' ⟨v, h1, ⟨vq, vr, e1, d1, d2, l1, l2⟩, h4⟩ => ⟨fun k => if k < 2 then r k else if k = 2 then vq else vr, fun i hi => if_pos hi, by rw [h1, e1]; rfl, h4, fun j q hq => ?_⟩
 cases j with
 | zero =>
  simp only [List.getElem?_cons_zero, Option.some.injEq] at hq
  subst hq
  exact ⟨row_of_DT d1, fun b hb => .inl (l1 b (loc_own hb))⟩
 | succ j =>
  cases j with
  | zero =>
   simp only [List.getElem?_cons_succ, List.getElem?_cons_zero, Option.some.injEq] at hq
   subst hq
   exact ⟨row_of_DT d2, fun b hb => .inl (l2 b (loc_own hb))⟩
  | succ j => simp at hq
end
theorem iFromInt (n : Int) (h1 : -9223372036854775808 ≤ n) (h2 : n ≤ 9223372036854775807) : Sp Tryz.prog 99 [] [nV n] (iV n) [] := Sp.of (fun xs w => Tryz.call99 xs w) (by kernel_rfl) (by kernel_rfl) (fun w => FromInt_c n w h1 h2)
theorem iSign (x : Int) : Sp Tryz.prog 135 [] [iV x] (nV (cmpI x 0)) [] := Sp.of (fun xs w => Tryz.call135 xs w) (by kernel_rfl) (by kernel_rfl) (fun w => Sign_c x w)
theorem iCompare (x y : Int) (hx : (mg x).size ≤ 4294967296) (hy : (mg y).size ≤ 4294967296) : Sp Tryz.prog 133 [] [iV x, iV y] (nV (cmpI x y)) [] := Sp.of (fun xs w => Tryz.call133 xs w) (by kernel_rfl) (by kernel_rfl) (fun w => Compare_c x y w hx hy)
theorem iNegate (x : Int) : Sp Tryz.prog 91 [] [iV x] (iV (-x)) [] := Sp.of (fun xs w => Tryz.call91 xs w) (by kernel_rfl) (by kernel_rfl) (fun w => Negate_c x w)
theorem iMul (x y : Int) (hx : (mg x).size ≤ 4294967296) (hy : (mg y).size ≤ 4294967296) : Sp Tryz.prog 100 [] [iV x, iV y] (iV (x * y)) [] := Sp.of (fun xs w => Tryz.call100 xs w) (by kernel_rfl) (by kernel_rfl) (fun w => Mul_c x y w hx hy)
theorem iAdd (x y : Int) (hx : (mg x).size ≤ 4294967296) (hy : (mg y).size ≤ 4294967296) : Sp Tryz.prog 144 [] [iV x, iV y] (iV (x + y)) [] := Sp.of (fun xs w => Tryz.call144 xs w) (by kernel_rfl) (by kernel_rfl) (fun w => Add_c x y w hx hy)
theorem iDivMod (x y : Int) (hy : y ≠ 0) (sx : (mg x).size ≤ 4294967295) (sy : (mg y).size ≤ 4294967296) : Sp Tryz.prog 182 [] [iV x, iV y] (.tuple #[iV (x / y), iV (x % y), nV 0]) [] := Sp.of (fun xs w => Tryz.call182 xs w) (by kernel_rfl) (by kernel_rfl) (fun w => DivMod_c x y w hy sx sy)
theorem iGcd (a b : Int) (ha : (mg a).size ≤ 4294967290) (hb : (mg b).size ≤ 4294967290) : Sp Tryz.prog 153 [] [iV a, iV b] (iV (Nat.gcd a.natAbs b.natAbs : Nat)) [] := Sp.of (fun xs w => Tryz.call153 xs w) (by kernel_rfl) (by kernel_rfl) (fun w => Gcd_c a b _ rfl w ha hb)
theorem dDigits (b : Bool) (s : ByteArray) (hs : s.size ≤ 4294967296) : Sp Tryz.prog 96 [] [.agg #[.bool b, .string s]] (row 0 (nd 256 (num s))) [rD (num s)] := Sp.d0 (fun xs w => Tryz.call96 xs w) (by kernel_rfl) fun w => sdigitsF_c b s w hs
theorem dLarge (X : Nat) (h : X < 9223372036854775808) : Sp Tryz.prog 167 [] [nV X] (row 0 (nd 256 X)) [rD X] := Sp.d0 (fun xs w => Tryz.call167 xs w) (by kernel_rfl) fun w => slargeF_c X w h
theorem dPlus (x y : Nat) (hx : nd 256 x ≤ 4294967296) (hy : nd 256 y ≤ 4294967296) : Sp Tryz.prog 114 [rD x, rD y] [row 0 (nd 256 x), row 1 (nd 256 y)] (row 2 (nd 256 (x + y))) [rD (x + y)] := Sp.d2 (fun xs w => Tryz.call114 xs w) fun v1 v2 w h1 h2 => splusF_c v1 v2 x y _ rfl w h1 h2 hx hy
theorem dMinus (x y : Nat) (hle : y ≤ x) (hx : nd 256 x ≤ 4294967296) (hy : nd 256 y ≤ 4294967296) : Sp Tryz.prog 116 [rD x, rD y] [row 0 (nd 256 x), row 1 (nd 256 y)] (row 2 (nd 256 (x - y))) [rD (x - y)] := Sp.d2 (fun xs w => Tryz.call116 xs w) fun v1 v2 w h1 h2 => sminusF_c v1 v2 x y _ rfl hle w h1 h2 hx hy
theorem dTimes (x y : Nat) (hx : nd 256 x ≤ 4294967290) (hy : nd 256 y ≤ 4294967290) : Sp Tryz.prog 109 [rD x, rD y] [row 0 (nd 256 x), row 1 (nd 256 y)] (row 2 (nd 256 (x * y))) [rD (x * y)] := Sp.d2 (fun xs w => Tryz.call109 xs w) fun v1 v2 w h1 h2 => stimesF_c v1 v2 x y _ rfl w h1 h2 hx hy
theorem dCompare (x y : Nat) (hx : nd 256 x ≤ 8589934592) (hy : nd 256 y ≤ 8589934592) : Sp Tryz.prog 115 [rD x, rD y] [row 0 (nd 256 x), row 1 (nd 256 y)] (nV (cmpN x y)) [] := Sp.v2 rfl (fun xs w => Tryz.call115 xs w) fun v1 v2 w h1 h2 => scompare_c v1 v2 x y w h1 h2 hx hy
theorem dWhole (neg : Bool) (x : Nat) (hx : nd 256 x ≤ 8589934592) : Sp Tryz.prog 134 [rD x] [row 0 (nd 256 x), .bool neg] (iV (if neg then -(x : Int) else x)) [] := Sp.v1 (l := [.bool neg]) rfl rfl (fun xs w => Tryz.call134 xs w) fun v w h => swhole_c neg v _ x _ rfl w h hx
theorem dWhole0 (neg : Bool) : Sp Tryz.prog 134 [] [.slice none 0 0, .bool neg] (iV 0) [] := Sp.of (fun xs w => Tryz.call134 xs w) (by kernel_rfl) (by kernel_rfl) (fun w => swhole_c neg _ 0 0 0 (by cases neg <;> rfl) w ⟨by omega, .inl ⟨rfl, rfl⟩⟩ (by omega))
theorem dSmall (x : Nat) (hx : nd 256 x ≤ 7) : Sp Tryz.prog 147 [rD x] [row 0 (nd 256 x)] (.tuple #[nV x, .bool true]) [] := Sp.v1 (l := []) rfl rfl (fun xs w => Tryz.call147 xs w) fun v w h => (ssmall_c v x w h hx).mono fun e w' ⟨h1, h2⟩ => ⟨h1, h2 ▸ Below.refl _ _⟩
theorem dSmallBig (x : Nat) (hx : 7 < nd 256 x) : Sp Tryz.prog 147 [rD x] [row 0 (nd 256 x)] (.tuple #[nV 0, .bool false]) [] := Sp.v1 (l := []) rfl rfl (fun xs w => Tryz.call147 xs w) fun v w h => (ssmall_big v x w h hx).mono fun e w' ⟨h1, h2⟩ => ⟨h1, h2 ▸ Below.refl _ _⟩
end Go.Proofs.YtcbbcmiennjfhaaGreatDoor
set_option linter.unusedSimpArgs false
set_option linter.unusedVariables false
namespace Go.Proofs.YtcbbcmiennjfhaaGreatDoor
open Go Go.RowKit Go.Sy
open Vi
theorem w64 {z : Int} (h1 : -9223372036854775808 ≤ z) (h2 : z ≤ 9223372036854775807) : IntKind.i64.wrap z = z := IntWalk.i64_in z ⟨h1, h2⟩
theorem bin_quo (x y : Nat) (hx : x < 9223372036854775808) (hy : 0 < y) : ∀ ox oy w, ((do eqGuard .quo 3 ox oy (nV x) (nV y); binOp .quo 3 (nV x) (nV y) : Sem Value)).run Tryz.prog w = .ok (nV (x / y : Nat)) w := by
 intro ox oy w
 have e : (y : Int) ≠ 0 := by omega
 have h1 : x / y ≤ x := Nat.div_le_self _ _
 show (Op.intDiv .quo .i64 (x : Int) (y : Int)).run Tryz.prog w = _
 unfold Op.intDiv
 rw [if_neg e]
 show Result.ok (Value.int .i64 (IntKind.i64.wrap ((x : Int).tdiv (y : Int)))) w = _
 rw [Int.tdiv_eq_ediv_of_nonneg (by omega), ← Int.natCast_ediv]
 obtain ⟨q, hq⟩ : ∃ q, q = x / y := ⟨_, rfl⟩
 rw [← hq] at h1 ⊢
 rw [w64 (by omega) (by omega)]
 rfl
theorem bin_rem (x y : Nat) (hx : x < 9223372036854775808) (hy : 0 < y) : ∀ ox oy w, ((do eqGuard .rem 3 ox oy (nV x) (nV y); binOp .rem 3 (nV x) (nV y) : Sem Value)).run Tryz.prog w = .ok (nV (x % y : Nat)) w := by
 intro ox oy w
 have e : (y : Int) ≠ 0 := by omega
 show (Op.intDiv .rem .i64 (x : Int) (y : Int)).run Tryz.prog w = _
 unfold Op.intDiv
 rw [if_neg e]
 show Result.ok (Value.int .i64 ((x : Int).tmod (y : Int))) w = _
 rw [Int.tmod_eq_emod_of_nonneg (by omega), ← Int.natCast_emod]
 rfl
theorem pow7 {x : Nat} (h : nd 256 x ≤ 7) : x < 9223372036854775808 := by
 have := lt_pow_nd 256 (by omega) x
 have h2 := Nat.pow_le_pow_right (show 0 < 256 by omega) h
 have h3 : 256 ^ 7 < 9223372036854775808 := by decide
 omega
theorem divSmall (x y : Nat) (hy : 0 < y) (hx7 : nd 256 x ≤ 7) (hy7 : nd 256 y ≤ 7) : Sp Tryz.prog 138 [rD x, rD y] [row 0 (nd 256 x), row 1 (nd 256 y)] (.tuple #[row 2 (nd 256 (x / y)), row 3 (nd 256 (x % y))]) [rD (x / y), rD (x % y)] := by
 have h := pow7 hx7
 have h1 : x / y ≤ x := Nat.div_le_self _ _
 have h2 : x % y ≤ x := Nat.mod_le _ _
 exact walk (code := Tryz.f138.body.getD .skip) [cr (dSmall x hx7), cr (dSmall y hy7), eb (show decide ((y : Int) > 0) = true by simpa using hy), x2 (bin_quo x y h hy), cr (dLarge (x / y) (by omega)), x2 (bin_rem x y h hy), cr (dLarge (x % y) (by omega))] fol Tryz.func138 (by kernel_rfl) (fun xs w => Tryz.call138 xs w) (by kernel_rfl)
theorem divLess (x y : Nat) (hlt : x < y) (hx : nd 256 x ≤ 1048576) (hy : nd 256 y ≤ 1048576) (hbig : 7 < nd 256 x ∨ 7 < nd 256 y) : Sp Tryz.prog 138 [rD x, rD y] [row 0 (nd 256 x), row 1 (nd 256 y)] (.tuple #[.slice none 0 0, row 2 (nd 256 x)]) [rD x] := by
 have hc : decide (cmpN x y < 0) = true := by unfold cmpN; rw [if_pos hlt]; rfl
 by_cases h7 : 7 < nd 256 x
 ·by_cases h8 : 7 < nd 256 y
  ·exact walk (code := Tryz.f138.body.getD .skip) [cr (dSmallBig x h7), cr (dSmallBig y h8), cr (dCompare x y (by omega) (by omega)), eb hc] fol Tryz.func138 (by kernel_rfl) (fun xs w => Tryz.call138 xs w) (by kernel_rfl)
  ·exact walk (code := Tryz.f138.body.getD .skip) [cr (dSmallBig x h7), cr (dSmall y (by omega)), cr (dCompare x y (by omega) (by omega)), eb hc] fol Tryz.func138 (by kernel_rfl) (fun xs w => Tryz.call138 xs w) (by kernel_rfl)
 ·exact walk (code := Tryz.f138.body.getD .skip) [cr (dSmall x (by omega)), cr (dSmallBig y (by omega)), cr (dCompare x y (by omega) (by omega)), eb hc] fol Tryz.func138 (by kernel_rfl) (fun xs w => Tryz.call138 xs w) (by kernel_rfl)
theorem nil_row {f : FuncId} {rows : List (Nat × List Value)} {args : List Value} {n : Nat} {q : Nat × List Value} {m : Nat} (hm : rows.length = m) (h : Sp Tryz.prog f rows args (.tuple #[.slice none 0 0, row m n]) [q]) : Sp Tryz.prog f rows args (.tuple #[row m 0, row (m + 1) n]) [(0, []), q] := by
 refine ⟨h.1, fun r w hr => (h.2 r w hr).mono fun e w' ⟨r', h1, h2, h3, h4⟩ => ⟨fun k => if k < m then r' k else if k = m then .slice none 0 0 else r' m, fun i hi => (if_pos (by omega)).trans (h1 i hi), ?_, h3, fun j q' hq => ?_⟩⟩
 ·rw [h2]
  show Ending.returned (.tuple #[.slice none 0 0, r' m]) = .returned (.tuple #[(if m < m then r' m else if m = m then .slice none 0 0 else r' m), (if m + 1 < m then r' (m + 1) else if m + 1 = m then .slice none 0 0 else r' m)])
  rw [if_neg (by omega), if_pos rfl, if_neg (by omega), if_neg (by omega)]
 ·cases j with
  | zero =>
   simp only [List.getElem?_cons_zero, Option.some.injEq] at hq
   subst hq
   show RowW w' (if rows.length + 0 < m then _ else if rows.length + 0 = m then _ else _) _ _ ∧ ∀ b, Sy.Loc (if rows.length + 0 < m then _ else if rows.length + 0 = m then _ else _) _ b → _
   rw [if_neg (by omega), if_pos (by omega)]
   exact ⟨⟨fun x hx => (by cases hx), .inl ⟨rfl, rfl, rfl⟩⟩, fun b hb => absurd rfl hb.1⟩
  | succ j =>
   cases j with
   | zero =>
    have := h4 0 q' (by simpa using hq)
    rw [hm, Nat.add_zero] at this
    show RowW w' (if rows.length + 1 < m then _ else if rows.length + 1 = m then _ else _) _ _ ∧ ∀ b, Sy.Loc (if rows.length + 1 < m then _ else if rows.length + 1 = m then _ else _) _ b → _
    rw [if_neg (by omega), if_neg (by omega)]
    exact this
   | succ j => simp at hq
theorem dDivide (x y : Nat) (hy0 : 0 < y) (hx : nd 256 x ≤ 1048576) (hy : nd 256 y ≤ 1048576) : Sp Tryz.prog 138 [rD x, rD y] [row 0 (nd 256 x), row 1 (nd 256 y)] (.tuple #[row 2 (nd 256 (x / y)), row 3 (nd 256 (x % y))]) [rD (x / y), rD (x % y)] := by
 by_cases hs : nd 256 x ≤ 7 ∧ nd 256 y ≤ 7
 ·exact divSmall x y hy0 hs.1 hs.2
 ·by_cases hlt : x < y
  ·have := nil_row rfl (divLess x y hlt hx hy (by omega))
   rw [Nat.div_eq_of_lt hlt, Nat.mod_eq_of_lt hlt]
   have e : rD 0 = (0, []) := by unfold rD; rw [nd_zero]; rfl
   rw [e, nd_zero]
   exact this
  ·have hm := nd_mono 256 (by omega) y x (by omega)
   exact Sp.dd (fun xs w => Tryz.call138 xs w) fun v1 v2 w h1 h2 => sdivide_big v1 v2 x y _ _ rfl rfl hy0 (by omega) (by omega) w h1 h2 hx
def stC (x y : Nat) : St := ⟨19, 2, [(0, row 2 (nd 256 x)), (1, row 3 (nd 256 y))], junk, [(2, rws (rD x).1 (rD x).2), (3, rws (rD y).1 (rD y).2)], 4⟩
def stC1 (g : Nat) : St := ⟨19, 2, [(0, row 2 (nd 256 g))], junk, [(2, rws (rD g).1 (rD g).2)], 4⟩
theorem common_loop : ∀ (y x : Nat), nd 256 x ≤ 1048576 → nd 256 y ≤ 1048576 → RoundsOk Tryz.prog (nthLoop 0 (Tryz.f120.body.getD .skip)) (stC x y) (.exit 0) (stC1 (Nat.gcd y x)) := by
 intro y
 induction y using Nat.strongRecOn with
 | _ y ih =>
  intro x hx hy
  by_cases h0 : y = 0
  ·have e : decide ((nd 256 y : Int) > 0) = false := by rw [h0, nd_zero]; rfl
   have e2 : Nat.gcd y x = x := by rw [h0, Nat.gcd_zero_left]
   rw [e2]
   exact .out (by simp) (piece [(2, 2)] [eb e] fol (by kernel_rfl))
  ·have e : decide ((nd 256 y : Int) > 0) = true := by
     have := nd_pos 256 (by omega) y (by omega)
     simpa using this
   have hlt := Nat.mod_lt x (show 0 < y by omega)
   have := ih (x % y) hlt y hy (Nat.le_trans (nd_mono 256 (by omega) _ y (by omega)) hy)
   rw [← Nat.gcd_rec] at this
   exact .more (piece [(2, 3), (3, 5)] [eb e, cr (dDivide x y (by omega) hx hy)] fol (by kernel_rfl)) this
theorem dCommon (x y : Nat) (hx : nd 256 x ≤ 1048576) (hy : nd 256 y ≤ 1048576) : Sp Tryz.prog 120 [rD x, rD y] [row 0 (nd 256 x), row 1 (nd 256 y)] (row 2 (nd 256 (Nat.gcd y x))) [rD (Nat.gcd y x)] :=
 walk (code := Tryz.f120.body.getD .skip) [lp [(2, 0), (3, 1)] (common_loop y x hx hy).loop] fol Tryz.func120 (by kernel_rfl) (fun xs w => Tryz.call120 xs w) (by kernel_rfl)
theorem num_mg (x : Int) : num (mg x) = x.natAbs := num_mag _
theorem dDig (x : Int) (h : (mg x).size ≤ 4294967296) : Sp Tryz.prog 96 [] [iV x] (row 0 (nd 256 x.natAbs)) [rD x.natAbs] := by
 have := dDigits (sg x) (mg x) h
 rwa [num_mg] at this
end Go.Proofs.YtcbbcmiennjfhaaGreatDoor
set_option linter.unusedSimpArgs false
set_option linter.unusedVariables false
namespace Go.Proofs.YtcbbcmiennjfhaaGreatDoor
open Go Go.RowKit Go.Sy
open Vi
theorem nd_mul (x y : Nat) : nd 256 (x * y) ≤ nd 256 x + nd 256 y := by
 apply nd_le 256 (by omega)
 rw [Nat.pow_add]
 exact Nat.mul_lt_mul_of_lt_of_lt (lt_pow_nd 256 (by omega) x) (lt_pow_nd 256 (by omega) y)
theorem nd_add (x y : Nat) : nd 256 (x + y) ≤ nd 256 x + nd 256 y + 1 := by
 apply nd_le 256 (by omega)
 have h1 := lt_pow_nd 256 (by omega) x
 have h2 := lt_pow_nd 256 (by omega) y
 have h3 := Nat.pow_le_pow_right (show 0 < 256 by omega) (show nd 256 x ≤ nd 256 x + nd 256 y by omega)
 have h4 := Nat.pow_le_pow_right (show 0 < 256 by omega) (show nd 256 y ≤ nd 256 x + nd 256 y by omega)
 rw [Nat.pow_succ]; omega
def Fits (q : Rat) : Prop := nd 256 q.num.natAbs ≤ 131000 ∧ nd 256 q.den ≤ 131000
theorem _root_.Vi.Sz.fits {k : Nat} {q : Rat} (h : Sz k q) (hk : k ≤ 131000) : Fits q := ⟨Nat.le_trans (nd_le 256 (by omega) _ k h.1) hk, Nat.le_trans (nd_le 256 (by omega) _ k h.2) hk⟩
theorem Fits.sz {q : Rat} (h : Fits q) : ∃ k, k ≤ 131000 ∧ Sz k q := by
 refine ⟨max (nd 256 q.num.natAbs) (nd 256 q.den), by have := h.1; have := h.2; omega, ?_, ?_⟩
 ·exact Nat.lt_of_lt_of_le (lt_pow_nd 256 (by omega) _) (Nat.pow_le_pow_right (by omega) (by omega))
 ·exact Nat.lt_of_lt_of_le (lt_pow_nd 256 (by omega) _) (Nat.pow_le_pow_right (by omega) (by omega))
theorem mg_nd (x : Int) : (mg x).size = nd 256 x.natAbs := size_mag _
theorem Fits.mn {q : Rat} (h : Fits q) : (mg q.num).size ≤ 131000 := by rw [mg_nd]; exact h.1
theorem dn_abs (q : Rat) : (dn q).natAbs = if q.den = 1 then 0 else q.den := by unfold dn; split <;> simp
theorem Fits.md {q : Rat} (h : Fits q) : (mg (dn q)).size ≤ 131000 := by
 rw [mg_nd, dn_abs]
 split
 ·rw [nd_zero]; omega
 ·exact h.2
theorem nd_small (n : Nat) (h0 : 0 < n) (h : n < 256) : nd 256 n = 1 := by
 have h1 := nd_le 256 (by omega) n 1 (by omega)
 have h2 := nd_pos 256 (by omega) n h0
 omega
theorem rD_small (n : Nat) (h0 : 0 < n) (h : n < 256) : rD n = (1, [nV n]) := by
 unfold rD
 rw [nd_small n h0 h]
 unfold dvals d8
 simp [nV]
 omega
def fV (neg : Bool) (x y : Nat) : Value := .agg #[.bool neg, row 0 (nd 256 x), row 1 (nd 256 y)]
theorem fOf (p : Rat) (hp : Fits p) : Sp Tryz.prog 108 [] [rV p] (fV (sg p.num) p.num.natAbs p.den) [rD p.num.natAbs, rD p.den] := by
 have hn := hp.mn
 have hd := hp.md
 have e := dn_abs p
 by_cases h : p.den = 1
 ·rw [if_pos h] at e
  have h0 : ((nd 256 (dn p).natAbs : Int) == 0) = true := by rw [e]; rfl
  have e1 : rD p.den = (1, [nV (1 : Nat)]) := by rw [h]; exact rD_small 1 (by omega) (by omega)
  have e2 : nd 256 p.den = 1 := by rw [h]; exact nd_small 1 (by omega) (by omega)
  rw [e1, fV, e2]
  exact walk (code := Tryz.f108.body.getD .skip) [cr (dDig (dn p) (by omega)), eb h0, cr (dDig p.num (by omega))] fol Tryz.func108 (by kernel_rfl) (fun xs w => Tryz.call108 xs w) (by kernel_rfl)
 ·rw [if_neg h] at e
  have h0 : ((nd 256 (dn p).natAbs : Int) == 0) = false := by
   rw [e]
   have := nd_pos 256 (by omega) p.den (by have := p.den_nz; omega)
   simp; omega
  rw [← e]
  exact walk (code := Tryz.f108.body.getD .skip) [cr (dDig (dn p) (by omega)), eb h0, cr (dDig p.num (by omega))] fol Tryz.func108 (by kernel_rfl) (fun xs w => Tryz.call108 xs w) (by kernel_rfl)
def sgd (neg : Bool) (x : Nat) : Int := if neg then -(x : Int) else x
theorem rV_of {q : Rat} {z e : Int} (h1 : q.num = z) (h2 : dn q = e) : (.agg #[.bool (sg z), .string (mg z), .bool (sg e), .string (mg e)] : Value) = rV q := by rw [← h1, ← h2]; rfl
theorem can_parts (neg : Bool) (x y : Nat) (hy : 0 < y) : (Rat.divInt (sgd neg x) y).num = sgd neg (x / Nat.gcd y x) ∧ (Rat.divInt (sgd neg x) y).den = y / Nat.gcd y x := by
 have hg : gg (sgd neg x) y = (Nat.gcd y x : Nat) := by
  unfold gg sgd
  cases neg <;> simp [Nat.gcd_comm]
 have h1 := num_of (sgd neg x) y (by omega)
 have h2 := den_of (sgd neg x) y (by omega)
 rw [hg] at h1 h2
 refine ⟨?_, by omega⟩
 rw [h1]
 unfold sgd
 cases neg
 ·simp
 ·simp only [if_true]
  rw [Int.natCast_ediv]
  exact Int.neg_ediv_of_dvd (Int.ofNat_dvd.2 (Nat.gcd_dvd_right _ _))
theorem fCan (neg : Bool) (x y : Nat) (hy : 0 < y) (sx : nd 256 x ≤ 1048576) (sy : nd 256 y ≤ 1048576) : Sp Tryz.prog 94 [rD x, rD y] [fV neg x y] (rV (Rat.divInt (sgd neg x) y)) [] := by
 obtain ⟨e1, e2⟩ := can_parts neg x y hy
 have hg := Nat.gcd_pos_of_pos_left x hy
 obtain ⟨g, hgg⟩ : ∃ g, g = Nat.gcd y x := ⟨_, rfl⟩
 have hC := dCommon x y sx sy
 rw [← hgg] at e1 e2 hg hC
 have hgy : g ≤ y := by rw [hgg]; exact Nat.le_of_dvd hy (Nat.gcd_dvd_left _ _)
 have sg' : nd 256 g ≤ 1048576 := Nat.le_trans (nd_mono 256 (by omega) _ _ hgy) sy
 have hD1 := dDivide x g hg sx sg'
 have hD2 := dDivide y g hg sy sg'
 have hxg : nd 256 (x / g) ≤ 1048576 := Nat.le_trans (nd_mono 256 (by omega) _ _ (Nat.div_le_self _ _)) sx
 have hyg : nd 256 (y / g) ≤ 1048576 := Nat.le_trans (nd_mono 256 (by omega) _ _ (Nat.div_le_self _ _)) sy
 have hd0 : 0 < y / g := Nat.div_pos hgy hg
 obtain ⟨d, hd⟩ : ∃ d, d = y / g := ⟨_, rfl⟩
 rw [← hd] at e2 hD2 hyg hd0
 have hdn : dn (Rat.divInt (sgd neg x) y) = if d = 1 then 0 else (d : Int) := by unfold dn; rw [e2]
 by_cases h1 : d = 1
 ·rw [if_pos h1] at hdn
  subst h1
  rw [rD_small 1 (by omega) (by omega), nd_small 1 (by omega) (by omega)] at hD2
  rw [← rV_of e1 hdn]
  exact walk (code := Tryz.f94.body.getD .skip) [cr hC, cr hD1, cr hD2, cr (dWhole neg (x / g) (by omega)), c (dWhole0 false)] fol Tryz.func94 (by kernel_rfl) (fun xs w => Tryz.call94 xs w) (by kernel_rfl)
 ·rw [if_neg h1] at hdn
  rw [← rV_of e1 hdn]
  have hW := dWhole false d (by omega)
  by_cases h2 : nd 256 d = 1
  ·have hlt : d < 256 := by have := lt_pow_nd 256 (by omega) d; rw [h2] at this; omega
   rw [rD_small d hd0 hlt, nd_small d hd0 hlt] at hD2 hW
   exact walk (code := Tryz.f94.body.getD .skip) [cr hC, cr hD1, cr hD2, L, eb (show ((d : Int) == 1) = false by simp; omega), cr (dWhole neg (x / g) (by omega)), cr hW] fol Tryz.func94 (by kernel_rfl) (fun xs w => Tryz.call94 xs w) (by kernel_rfl)
  ·exact walk (code := Tryz.f94.body.getD .skip) [cr hC, cr hD1, cr hD2, eb (show ((nd 256 d : Int) == 1) = false by simp; omega), cr (dWhole neg (x / g) (by omega)), cr hW] fol Tryz.func94 (by kernel_rfl) (fun xs w => Tryz.call94 xs w) (by kernel_rfl)
end Go.Proofs.YtcbbcmiennjfhaaGreatDoor
set_option linter.unusedSimpArgs false
set_option linter.unusedVariables false
namespace Go.Proofs.YtcbbcmiennjfhaaGreatDoor
open Go Go.RowKit
open Vi
def qabs (p : Rat) : Rat := if p < 0 then -p else p
theorem qabs_num (p : Rat) : (qabs p).num = (p.num.natAbs : Nat) := by
 unfold qabs
 by_cases h : p < 0
 ·have h2 : ¬ 0 ≤ p.num := fun h3 => Rat.not_le.2 h (Rat.num_nonneg.1 h3)
  rw [if_pos h, Rat.neg_num]; omega
 ·have h2 : 0 ≤ p.num := Rat.num_nonneg.2 (Rat.not_lt.1 h)
  rw [if_neg h]; omega
theorem qabs_dn (p : Rat) : dn (qabs p) = dn p := by
 unfold qabs
 split
 ·exact dn_neg p
 ·rfl
def cmpQ (p q : Rat) : Int := if p < q then -1 else if p = q then 0 else 1
theorem cmpQ_int (p q : Rat) : cmpQ p q = cmpI (p.num * q.den) (q.num * p.den) := by
 unfold cmpQ cmpI
 by_cases h : p < q
 ·rw [if_pos h, if_pos ((Rat.lt_iff p q).1 h)]
 ·rw [if_neg h, if_neg (fun h2 => h ((Rat.lt_iff p q).2 h2))]
  by_cases h3 : p = q
  ·rw [if_pos h3, if_pos (Rat.eq_iff_mul_eq_mul.1 h3)]
  ·rw [if_neg h3, if_neg (fun h2 => h3 (Rat.eq_iff_mul_eq_mul.2 h2))]
set_option maxRecDepth 100000 in
set_option maxHeartbeats 1600000 in
theorem sInt_pos (X : Nat) (w : World) (h2 : X < 9223372036854775808) : Calls Tryz.prog 81 #[.int .i64 (X : Int)] w fun e w' => e = .returned (.agg #[.bool (sg (X : Int)), .string (mg (X : Int))]) ∧ Below w.heap.size w w' := by
 obtain ⟨i0, hi, hz0, hz1, hz2⟩ := info_parts info3
 have hn : ¬ ((X : Int) < 0) := by omega
 have hn2 : decide ((X : Int) < 0) = false := decide_eq_false hn
 go_enter Tryz.func81, Tryz.ntmps81
 go_wp2_with fail
 obtain ⟨W, hW⟩ : ∃ W, W = w.alloc (.cells #[.bool false, .string ⟨#[]⟩] 26) := ⟨_, rfl⟩
 go_loopw [3, 4] (fun v c wr => ∃ k q : Nat, k ≤ 8 ∧ Hid (q = X / 256 ^ k) ∧ c = .int .i64 (q : Int) ∧ wr.ownsRow W.heap.size 3 1 v k (dvals X k) ∧ Below W.heap.size W wr) (fun _ c _ => (intOf c).toNat)
 case atStart =>
  exact ⟨0, X, Nat.zero_le _, Lib.hid (by rw [Nat.pow_zero, Nat.div_one]), rfl, World.ownsRow_nil _ _ _ _, by rw [hW]; exact Below.refl _ _⟩
 case round =>
  obtain ⟨k, q, hk, HQ, rfl, hown, hbel⟩ := hrel
  have HW := Lib.hid hW
  clear hW
  have hqX : q ≤ X := by rw [HQ.out]; exact Nat.div_le_self _ _
  by_cases h0 : q = 0
  ·subst h0
   have HX := Lib.hid (cur_zero X k HQ.out.symm)
   rw [show ((0 : Nat) : Int) = 0 from rfl]
   have hW := HW.out
   subst hW
   obtain ⟨u0, rfl⟩ := World.plus_of_below hbel
   clear hbel
   go_wp2_with fail
   (go_wp2_with fail; refine (swhole_c false _ k X (X : Int) (by simp) _ (Dl.of_owned hown HX.out) (by omega)).mono ?_; rintro e w' ⟨rfl, hb⟩; (first | (with_reducible (have hb2 := World.plus_of_below ((World.below_plus _ _).trans (hb.mono (World.size_plus _ _)))); obtain ⟨u, rfl⟩ := hb2) | (obtain ⟨u, rfl⟩ := World.plus_of_below hb)); clear hb)
   go_wp2_with fail
   refine bodyPost_ret (by simp [results, Tryz.results81, go_sem]; rfl) rfl ?_
   exact ⟨rfl, by (repeat' (first | (with_reducible first | exact Below.refl _ _ | assumption | refine Below.plus0 ?_ _ | refine Below.alloc0 ?_ _ | refine Below.plus ?_ ?_ _ | refine Below.alloc ?_ ?_ _ | refine Below.drew ?_ | refine Below.drewN ?_ _) | (simp [go_sem]; done) | (simp [go_sem]; omega)))⟩
  ·obtain ⟨q1, hq1⟩ : ∃ z, z = q / 256 := ⟨_, rfl⟩
   obtain ⟨dg1, hdg⟩ : ∃ z, z = d8 X k := ⟨_, rfl⟩
   have hk8 : k < 8 := by
    apply Decidable.byContradiction
    intro hc
    have e8 : k = 8 := by omega
    have := HQ.out
    rw [e8, Nat.div_eq_of_lt (Nat.lt_trans h2 (by decide))] at this
    exact h0 this
   have hdq : dg1 = q % 256 := by rw [hdg, HQ.out]; rfl
   have hd2 : dg1 < 256 := hdg ▸ d8_lt _ _
   have HQ1 : Hid (q1 = X / 256 ^ (k + 1)) := Lib.hid (by rw [hq1, HQ.out, cur_next])
   have Hs : Hid (dvals X k ++ [Value.int .i64 (dg1 : Nat)] = dvals X (k + 1)) := Lib.hid (by rw [hdg, dvals_succ])
   have HM := Lib.hid (show q1 < q by omega)
   have hsz := hbel.size
   have hq1b : q1 ≤ 9223372036854775807 := by rw [hq1]; exact Nat.le_trans (Nat.div_le_self _ _) (by omega)
   have hz : (0 : Int) < (q : Int) := by omega
   have HCW := Lib.hid (w64_of q1 hq1b)
   have em : (q : Int).tmod 256 = (dg1 : Int) := by rw [hdq]; exact tmod256 q
   have ed : (q : Int).tdiv 256 = (q1 : Int) := by rw [hq1]; exact tdiv256 q
   have HED := Lib.hid ed
   have hdn : ¬ ((dg1 : Int) < 0) := by omega
   have hdn2 : decide ((dg1 : Int) < 0) = false := decide_eq_false hdn
   have hqn : ¬ ((q : Int) = 0) := by omega
   have hqn2 : ((q : Int) == 0) = false := by rw [beq_eq_false_iff_ne]; exact hqn
   clear hq1 hdg hdq h0
   go_wp2_with (first | (at_builtin; refine wpList_append_own _ rfl _ _ 127 rfl W.heap.size 3 i0 (.int .i64 0) 1 8 Tryz.underlying127 hi hz0 hz1 hz2 rfl (by decide) _ _ _ rfl (hown.alloc _) ⟨wr.heap.size, 0, none⟩ 1 1 [.int .i64 (dg1 : Nat)] rfl rfl ?c1 ?c2 ?c3 ?c4 ?c5 ?_) | go_in)
   all_goals clear em ed
   first
   | case c1 =>
       intro j u hj
       match j, hj with
       | 0, hj => simp at hj; subst hj; simp [Addr.add]
   | skip
   case c2 => first | rfl | (intro u hu; simp at hu; subst hu; rfl)
   case c3 => unfold maxLen; omega
   case c4 => omega
   case c5 => first | omega | (simp; done) | (simp; omega)
   intro v' w1 hown' hgrow _
   rw [Hs.out] at hown'
   have hb2 : Below W.heap.size W w1 := (hbel.alloc hsz _).grown hgrow (by first | omega | (simp; done) | (simp; omega)) fun k' hk' => (hown.lt k' hk').1
   have ed : (q : Int).tdiv 256 = (q1 : Int) := HED.out
   have HOWN := Lib.hid hown'
   have HB2 := Lib.hid hb2
   have HK8 := Lib.hid hk8
   clear hown hgrow hbel hown' hb2 hqX hq1b hsz h2 hd2 hz hk8 hk
   go_wp2_with fail
   clear ed
   rw [HCW.out]
   exact ⟨⟨k + 1, q1, by have := HK8.out; omega, HQ1, rfl, HOWN.out, HB2.out⟩, by have := HM.out; first | (simp [intOf]; done) | (simp [intOf]; omega)⟩
set_option maxRecDepth 100000 in
set_option maxHeartbeats 1600000 in
theorem sInt_neg (X : Nat) (w : World) (h1 : 0 < X) (h2 : X ≤ 9223372036854775808) : Calls Tryz.prog 81 #[.int .i64 (-(X : Int))] w fun e w' => e = .returned (.agg #[.bool (sg (-(X : Int))), .string (mg (-(X : Int)))]) ∧ Below w.heap.size w w' := by
 obtain ⟨i0, hi, hz0, hz1, hz2⟩ := info_parts info3
 have hn : -(X : Int) < 0 := by omega
 have hn2 : decide (-(X : Int) < 0) = true := decide_eq_true hn
 go_enter Tryz.func81, Tryz.ntmps81
 go_wp2_with fail
 obtain ⟨W, hW⟩ : ∃ W, W = w.alloc (.cells #[.bool false, .string ⟨#[]⟩] 26) := ⟨_, rfl⟩
 go_loopw [3, 4] (fun v c wr => ∃ k q : Nat, k ≤ 8 ∧ Hid (q = X / 256 ^ k) ∧ c = .int .i64 (-(q : Int)) ∧ wr.ownsRow W.heap.size 3 1 v k (dvals X k) ∧ Below W.heap.size W wr) (fun _ c _ => (-intOf c).toNat)
 case atStart =>
  exact ⟨0, X, Nat.zero_le _, Lib.hid (by rw [Nat.pow_zero, Nat.div_one]), rfl, World.ownsRow_nil _ _ _ _, by rw [hW]; exact Below.refl _ _⟩
 case round =>
  obtain ⟨k, q, hk, HQ, rfl, hown, hbel⟩ := hrel
  have HW := Lib.hid hW
  clear hW
  have hqX : q ≤ X := by rw [HQ.out]; exact Nat.div_le_self _ _
  by_cases h0 : q = 0
  ·subst h0
   have HX := Lib.hid (cur_zero X k HQ.out.symm)
   rw [show -((0 : Nat) : Int) = 0 from rfl]
   have hW := HW.out
   subst hW
   obtain ⟨u0, rfl⟩ := World.plus_of_below hbel
   clear hbel
   go_wp2_with fail
   (go_wp2_with fail; refine (swhole_c true _ k X (-(X : Int)) (by simp) _ (Dl.of_owned hown HX.out) (by omega)).mono ?_; rintro e w' ⟨rfl, hb⟩; (first | (with_reducible (have hb2 := World.plus_of_below ((World.below_plus _ _).trans (hb.mono (World.size_plus _ _)))); obtain ⟨u, rfl⟩ := hb2) | (obtain ⟨u, rfl⟩ := World.plus_of_below hb)); clear hb)
   go_wp2_with fail
   refine bodyPost_ret (by simp [results, Tryz.results81, go_sem]; rfl) rfl ?_
   exact ⟨rfl, by (repeat' (first | (with_reducible first | exact Below.refl _ _ | assumption | refine Below.plus0 ?_ _ | refine Below.alloc0 ?_ _ | refine Below.plus ?_ ?_ _ | refine Below.alloc ?_ ?_ _ | refine Below.drew ?_ | refine Below.drewN ?_ _) | (simp [go_sem]; done) | (simp [go_sem]; omega)))⟩
  ·obtain ⟨q1, hq1⟩ : ∃ z, z = q / 256 := ⟨_, rfl⟩
   obtain ⟨dg1, hdg⟩ : ∃ z, z = d8 X k := ⟨_, rfl⟩
   have hk8 : k < 8 := by
    apply Decidable.byContradiction
    intro hc
    have e8 : k = 8 := by omega
    have := HQ.out
    rw [e8, Nat.div_eq_of_lt (Nat.lt_of_le_of_lt h2 (by decide))] at this
    exact h0 this
   have hdq : dg1 = q % 256 := by rw [hdg, HQ.out]; rfl
   have hd2 : dg1 < 256 := hdg ▸ d8_lt _ _
   have HQ1 : Hid (q1 = X / 256 ^ (k + 1)) := Lib.hid (by rw [hq1, HQ.out, cur_next])
   have Hs : Hid (dvals X k ++ [Value.int .i64 (dg1 : Nat)] = dvals X (k + 1)) := Lib.hid (by rw [hdg, dvals_succ])
   have HM := Lib.hid (show q1 < q by omega)
   have hsz := hbel.size
   have hq1b : q1 ≤ 9223372036854775807 := by rw [hq1]; omega
   obtain ⟨nn, hnn⟩ : ∃ n : Int, n = -(q : Int) := ⟨_, rfl⟩
   obtain ⟨n1, hn1⟩ : ∃ n : Int, n = -(q1 : Int) := ⟨_, rfl⟩
   obtain ⟨r, hr⟩ : ∃ n : Int, n = -(dg1 : Int) := ⟨_, rfl⟩
   have HCW : Hid (wrap64 n1 = n1) := Lib.hid (by rw [hn1]; unfold wrap64; omega)
   have em : nn.tmod 256 = r := by rw [hnn, hr, Int.neg_tmod, hdq, tmod256 q]
   have HED : Hid (nn.tdiv 256 = n1) := Lib.hid (by rw [hnn, hn1, Int.neg_tdiv, hq1, tdiv256 q])
   have hqn : ¬ (nn = 0) := by omega
   have hqn2 : (nn == 0) = false := by rw [beq_eq_false_iff_ne]; exact hqn
   rw [← hnn]
   have HN1 := Lib.hid hn1
   have HNN := Lib.hid hnn
   by_cases hd0 : dg1 = 0
   ·have er : r = 0 := by rw [hr, hd0]; rfl
    have hdn : ¬ (r < 0) := by omega
    rw [er] at em
    subst hd0
    simp only [Int.natCast_zero] at Hs
    clear hq1 hdg hdq h0 hn1 hnn hr er hdn
    go_wp2_with (first | (at_builtin; refine wpList_append_own _ rfl _ _ 127 rfl W.heap.size 3 i0 (.int .i64 0) 1 8 Tryz.underlying127 hi hz0 hz1 hz2 rfl (by decide) _ _ _ rfl (hown.alloc _) ⟨wr.heap.size, 0, none⟩ 1 1 [.int .i64 0] rfl rfl ?c1 ?c2 ?c3 ?c4 ?c5 ?_) | go_in)
    all_goals clear em
    first
    | case c1 =>
        intro j u hj
        match j, hj with
        | 0, hj => simp at hj; subst hj; simp [Addr.add]
    | skip
    case c2 => first | rfl | (intro u hu; simp at hu; subst hu; rfl)
    case c3 => unfold maxLen; omega
    case c4 => omega
    case c5 => first | omega | (simp; done) | (simp; omega)
    intro v' w1 hown' hgrow _
    rw [Hs.out] at hown'
    have hb2 : Below W.heap.size W w1 := (hbel.alloc hsz _).grown hgrow (by first | omega | (simp; done) | (simp; omega)) fun k' hk' => (hown.lt k' hk').1
    have ed := HED.out
    have HOWN := Lib.hid hown'
    have HB2 := Lib.hid hb2
    have HK8 := Lib.hid hk8
    clear hown hgrow hbel hown' hb2 hqX hsz h2 hk8 hk
    go_wp2_with fail
    clear ed
    rw [HCW.out, HN1.out]
    exact ⟨⟨k + 1, q1, by have := HK8.out; omega, HQ1, rfl, HOWN.out, HB2.out⟩, by have := HM.out; have a2 := HN1.out; have a3 := HNN.out; first | (show (-(-(q1 : Int))).toNat < (-nn).toNat; omega) | (simp [intOf]; done) | (simp [intOf]; omega)⟩
   ·have hr0 : r < 0 := by omega
    have HR : Hid (wrap64 (-r) = (dg1 : Int)) := Lib.hid (by rw [show -r = (dg1 : Int) by omega]; unfold wrap64; omega)
    have hr1 : decide (r < 0) = true := decide_eq_true hr0
    clear hq1 hdg hdq h0 hn1 hnn hr hd0
    go_upto_region 7 with fail
    rw [HR.out]
    clear hr0 hr1
    go_wp2_with (first | (at_builtin; refine wpList_append_own _ rfl _ _ 127 rfl W.heap.size 3 i0 (.int .i64 0) 1 8 Tryz.underlying127 hi hz0 hz1 hz2 rfl (by decide) _ _ _ rfl (hown.alloc _) ⟨wr.heap.size, 0, none⟩ 1 1 [.int .i64 (dg1 : Nat)] rfl rfl ?d1 ?d2 ?d3 ?d4 ?d5 ?_) | go_in)
    all_goals clear em
    first
    | case d1 =>
        intro j u hj
        match j, hj with
        | 0, hj => simp at hj; subst hj; simp [Addr.add]
    | skip
    case d2 => first | rfl | (intro u hu; simp at hu; subst hu; rfl)
    case d3 => unfold maxLen; omega
    case d4 => omega
    case d5 => first | omega | (simp; done) | (simp; omega)
    intro v' w1 hown' hgrow _
    rw [Hs.out] at hown'
    have hb2 : Below W.heap.size W w1 := (hbel.alloc hsz _).grown hgrow (by first | omega | (simp; done) | (simp; omega)) fun k' hk' => (hown.lt k' hk').1
    have ed := HED.out
    have HOWN := Lib.hid hown'
    have HB2 := Lib.hid hb2
    have HK8 := Lib.hid hk8
    clear hown hgrow hbel hown' hb2 hqX hsz h2 hk8 hk
    go_wp2_with fail
    clear ed
    rw [HCW.out, HN1.out]
    exact ⟨⟨k + 1, q1, by have := HK8.out; omega, HQ1, rfl, HOWN.out, HB2.out⟩, by have := HM.out; have a2 := HN1.out; have a3 := HNN.out; first | (show (-(-(q1 : Int))).toNat < (-nn).toNat; omega) | (simp [intOf]; done) | (simp [intOf]; omega)⟩
theorem sInt_c (n : Int) (w : World) (h1 : -9223372036854775808 ≤ n) (h2 : n ≤ 9223372036854775807) : Calls Tryz.prog 81 #[.int .i64 n] w fun e w' => e = .returned (.agg #[.bool (sg n), .string (mg n)]) ∧ Below w.heap.size w w' := by
 by_cases h : n < 0
 ·obtain ⟨X, rfl⟩ : ∃ X : Nat, n = -(X : Int) := ⟨n.natAbs, by omega⟩
  exact sInt_neg X w (by omega) (by omega)
 ·obtain ⟨X, rfl⟩ : ∃ X : Nat, n = (X : Int) := ⟨n.natAbs, by omega⟩
  exact sInt_pos X w (by omega)
theorem cmpQ_sub (p q : Rat) : cmpI (p - q).num 0 = cmpQ p q := by
 unfold cmpI cmpQ
 have h1 : (p - q).num < 0 ↔ p < q := by
  rw [← Int.not_le, Rat.num_nonneg, ← Rat.le_iff_sub_nonneg, Rat.not_le]
 have h2 : (p - q).num = 0 ↔ p = q := by
  rw [Rat.num_eq_zero]
  constructor
  ·intro h
   have := congrArg (· + q) h
   simpa [Rat.sub_add_cancel, Rat.zero_add] using this
  ·intro h; rw [h]; exact Rat.sub_self
 by_cases a : p < q
 ·rw [if_pos a, if_pos (h1.2 a)]
 ·rw [if_neg a, if_neg (fun h => a (h1.1 h))]
  by_cases b : p = q
  ·rw [if_pos b, if_pos (h2.2 b)]
  ·rw [if_neg b, if_neg (fun h => b (h2.1 h))]
def within (x a b : Rat) (oa ob : Bool) : Bool := decide (cmpQ a x ≤ 0) && decide (cmpQ x b ≤ 0) && !(oa && cmpQ a x == 0) && !(ob && cmpQ x b == 0)
theorem within_iff (x a b : Rat) (oa ob : Bool) : within x a b oa ob = true ↔ InI a b oa ob x := by
 have key : ∀ p q : Rat, (cmpQ p q = -1 ∧ p < q) ∨ (cmpQ p q = 0 ∧ p = q) ∨ (cmpQ p q = 1 ∧ q < p) := by
  intro p q
  unfold cmpQ
  by_cases h : p < q
  ·exact .inl ⟨by rw [if_pos h], h⟩
  ·by_cases h2 : p = q
   ·exact .inr (.inl ⟨by rw [if_neg h, if_pos h2], h2⟩)
   ·exact .inr (.inr ⟨by rw [if_neg h, if_neg h2], Rat.lt_of_le_of_ne (Rat.not_lt.1 h) (fun e => h2 e.symm)⟩)
 have irr : ∀ p q : Rat, p < q → ¬ q < p ∧ p ≠ q ∧ q ≠ p := fun p q h => ⟨fun h2 => Rat.lt_irrefl (lt_of_lt_of_le' h (Rat.le_of_lt h2)), Rat.ne_of_lt h, Rat.ne_of_gt h⟩
 unfold within InI
 rcases key a x with ⟨h1, g1⟩ | ⟨h1, g1⟩ | ⟨h1, g1⟩ <;> rcases key x b with ⟨h2, g2⟩ | ⟨h2, g2⟩ | ⟨h2, g2⟩ <;> rw [h1, h2]
 ·simp [g1, g2]
 ·have := irr _ _ g1
  subst g2
  cases ob <;> simp [g1, Rat.lt_irrefl]
 ·have := irr _ _ g2
  simp [this]
 ·subst g1
  cases oa <;> simp [g2, Rat.lt_irrefl]
 ·subst g1
  subst g2
  cases oa <;> cases ob <;> simp [Rat.lt_irrefl]
 ·have := irr _ _ g2
  simp [this]
 ·have := irr _ _ g1
  simp [this]
 ·have := irr _ _ g1
  simp [this]
 ·have := irr _ _ g1
  simp [this]
theorem floor_pos (X Y : Nat) : ((X : Int) / (Y : Int)) = ((X / Y : Nat) : Int) := by simp
theorem floor_neg (X Y : Nat) (hY : 0 < Y) : (-(X : Int)) / (Y : Int) = -((X / Y : Nat) : Int) - (if X % Y = 0 then 0 else 1) := by
 have h1 := Nat.div_add_mod X Y
 have h2 := Nat.mod_lt X hY
 have hYi : (0 : Int) < (Y : Int) := by omega
 have h1i : (Y : Int) * ((X / Y : Nat) : Int) + ((X % Y : Nat) : Int) = (X : Int) := by exact_mod_cast h1
 split
 ·rename_i h0
  rw [h0] at h1i
  have e : -(X : Int) = (-((X / Y : Nat) : Int)) * (Y : Int) := by rw [Int.neg_mul, Int.mul_comm]; omega
  rw [e, Int.mul_ediv_cancel _ (by omega)]; omega
 ·rename_i h0
  have e : -(X : Int) = ((Y : Int) - ((X % Y : Nat) : Int)) + (-((X / Y : Nat) : Int) - 1) * (Y : Int) := by
   rw [Int.sub_mul, Int.neg_mul, Int.mul_comm ((X / Y : Nat) : Int)]; omega
  rw [e, Int.add_mul_ediv_right _ _ (by omega), Int.ediv_eq_zero_of_lt (by omega) (by omega)]; omega
set_option maxHeartbeats 400000 in
theorem sIsInt_c (b : Bool) (s : ByteArray) (w : World) (hs : s.size ≤ 9223372036854775807) : Calls Tryz.prog 119 #[.agg #[.bool b, .string s]] w fun e w' => e = .returned (.bool (okInt b s)) ∧ Below w.heap.size w w' := by
 cases he : s.toList.isEmpty
 ·have hp : 0 < s.size := by
    rcases Nat.eq_zero_or_pos s.size with h | h
    ·rw [toList_data] at he
     have : s.data.toList.length = 0 := h
     rw [List.eq_nil_of_length_eq_zero this] at he; simp at he
    ·exact h
  have hc := can_first s hp
  by_cases h0 : (s[0]'hp).toNat = 0
  ·have e : okInt b s = false := by
     unfold okInt; rw [he]
     have h1 : ¬ Vi.Can s := fun h => (hc.1 h) h0
     unfold Vi.Can at h1
     have h2 : s.data.toList.head? = some 0 := Decidable.byContradiction h1
     rw [h2]; rfl
   rw [e]
   clear hc
   go_enter Tryz.func119, Tryz.ntmps119
   go_wp2
   go_ret
   exact ⟨rfl, by (repeat' (first | (with_reducible first | exact Below.refl _ _ | assumption | refine Below.plus0 ?_ _ | refine Below.alloc0 ?_ _ | refine Below.plus ?_ ?_ _ | refine Below.alloc ?_ ?_ _ | refine Below.drew ?_ | refine Below.drewN ?_ _) | (simp [go_sem]; done) | (simp [go_sem]; omega)))⟩
  ·have e : okInt b s = true := by
     unfold okInt; rw [he]
     have h1 : Vi.Can s := hc.2 h0
     unfold Vi.Can at h1
     simp [h1]
   rw [e]
   have hb : ((s[0].toNat : Int) != 0) = true := by simpa using h0
   clear hc
   go_enter Tryz.func119, Tryz.ntmps119
   go_wp2
   go_ret
   exact ⟨by simp [h0], by (repeat' (first | (with_reducible first | exact Below.refl _ _ | assumption | refine Below.plus0 ?_ _ | refine Below.alloc0 ?_ _ | refine Below.plus ?_ ?_ _ | refine Below.alloc ?_ ?_ _ | refine Below.drew ?_ | refine Below.drewN ?_ _) | (simp [go_sem]; done) | (simp [go_sem]; omega)))⟩
 ·have e : okInt b s = !b := by unfold okInt; rw [he]; rfl
  rw [e]
  have hz : s.size = 0 := by
   rw [toList_data] at he
   have h2 : s.data.toList = [] := by simpa using he
   have : s.data.toList.length = 0 := by rw [h2]; rfl
   exact this
  cases b
  all_goals
   go_enter Tryz.func119, Tryz.ntmps119
   go_wp2
   go_ret
   exact ⟨rfl, by (repeat' (first | (with_reducible first | exact Below.refl _ _ | assumption | refine Below.plus0 ?_ _ | refine Below.alloc0 ?_ _ | refine Below.plus ?_ ?_ _ | refine Below.alloc ?_ ?_ _ | refine Below.drew ?_ | refine Below.drewN ?_ _) | (simp [go_sem]; done) | (simp [go_sem]; omega)))⟩
theorem okInt_mg (z : Int) : okInt (sg z) (mg z) = true := by
 unfold okInt
 by_cases h : z = 0
 ·subst h; rw [mg_empty_of 0 rfl, if_pos rfl]; rfl
 ·rw [mg_empty_not z h, if_neg (by simp)]
  have hc := can_mag z.natAbs
  unfold Vi.Can at hc
  have : ¬ ((mg z).data.toList.head? = some 0) := hc
  simpa using this
theorem okInt_num (b : Bool) (s : ByteArray) (h : okInt b s = true) : ∃ z : Int, b = sg z ∧ s = mg z := by
 unfold okInt at h
 by_cases he : s.toList.isEmpty = true
 ·rw [if_pos he] at h
  have hb : b = false := by simpa using h
  refine ⟨0, by rw [hb]; rfl, byte_inj ?_⟩
  have e1 : s.toList = [] := by simpa using he
  rw [e1]
  have := mg_empty_of 0 rfl
  have e2 : (mg 0).toList = [] := by simpa using this
  rw [e2]
 ·rw [if_neg he] at h
  have hc : Vi.Can s := by
   unfold Vi.Can
   intro e
   rw [e] at h
   simp at h
  have hm : mag (num s) = s := Vi.mag_num s hc
  have hn : num s ≠ 0 := by
   intro e
   rw [e] at hm
   rw [← hm] at he
   exact he (mg_empty_of 0 rfl)
  refine ⟨if b then -(num s : Int) else num s, ?_, ?_⟩
  ·unfold sg
   cases b <;> simp <;> omega
  ·unfold mg
   cases b <;> simp [hm]
def okRat (b1 : Bool) (s1 : ByteArray) (b2 : Bool) (s2 : ByteArray) : Bool := okInt b1 s1 && okInt b2 s2 && !b2 && (s2.toList.isEmpty || (num s2 != 1 && Nat.gcd (num s1) (num s2) == 1))
theorem okRat_of (q : Rat) : okRat (sg q.num) (mg q.num) (sg (dn q)) (mg (dn q)) = true := by
 unfold okRat
 rw [okInt_mg, okInt_mg, mg_isEmpty, num_mg, num_mg]
 have h1 := dn_nonneg q
 have h2 : sg (dn q) = false := by unfold sg; simpa using h1
 rw [h2]
 unfold dn
 by_cases h : q.den = 1
 ·rw [if_pos h]; rfl
 ·rw [if_neg h]
  have h3 := q.reduced
  unfold Nat.Coprime at h3
  simp [h, h3]
theorem okRat_rat (b1 : Bool) (s1 : ByteArray) (b2 : Bool) (s2 : ByteArray) (h : okRat b1 s1 b2 s2 = true) : ∃ q : Rat, b1 = sg q.num ∧ s1 = mg q.num ∧ b2 = sg (dn q) ∧ s2 = mg (dn q) := by
 unfold okRat at h
 simp only [Bool.and_eq_true, Bool.or_eq_true] at h
 obtain ⟨⟨⟨h1, h2⟩, h3⟩, h4⟩ := h
 obtain ⟨n, rfl, rfl⟩ := okInt_num b1 s1 h1
 obtain ⟨d, rfl, rfl⟩ := okInt_num b2 s2 h2
 have h5 : 0 ≤ d := by
  unfold sg at h3
  simpa using h3
 rcases h4 with h4 | h4
 ·have hd : d = 0 := by rw [mg_isEmpty] at h4; simpa using h4
  refine ⟨(n : Rat), rfl, rfl, ?_⟩
  rw [hd]
  exact ⟨rfl, rfl⟩
 ·rw [num_mg, num_mg] at h4
  by_cases hd : d = 0
  ·refine ⟨(n : Rat), rfl, rfl, ?_⟩
   rw [hd]
   exact ⟨rfl, rfl⟩
  ·have h6 : d.natAbs ≠ 1 ∧ Nat.gcd n.natAbs d.natAbs = 1 := by simpa using h4
   refine ⟨Rat.mk' n d.natAbs (by omega) h6.2, rfl, rfl, ?_⟩
   have e : dn (Rat.mk' n d.natAbs (by omega) h6.2) = d := by
    unfold dn
    rw [if_neg h6.1]
    show (d.natAbs : Int) = d
    omega
   rw [e]
   exact ⟨rfl, rfl⟩
end Go.Proofs.YtcbbcmiennjfhaaGreatDoor
set_option linter.unusedSimpArgs false
set_option linter.unusedVariables false
namespace Go.Proofs.YtcbbcmiennjfhaaGreatDoor
open Go Go.RowKit Go.Sy
open Vi
theorem rInt (n : Int) (h1 : -9223372036854775808 ≤ n) (h2 : n ≤ 9223372036854775807) : Sp Tryz.prog 81 [] [nV n] (iV n) [] := Sp.of (fun xs w => Tryz.call81 xs w) (by kernel_rfl) (by kernel_rfl) (fun w => sInt_c n w h1 h2)
theorem rIsInt (b : Bool) (s : ByteArray) (hs : s.size ≤ 9223372036854775807) : Sp Tryz.prog 119 [] [.agg #[.bool b, .string s]] (.bool (okInt b s)) [] := Sp.of (fun xs w => Tryz.call119 xs w) (by kernel_rfl) (by kernel_rfl) (fun w => sIsInt_c b s w hs)
theorem sgd_nat (z : Int) : sgd (sg z) z.natAbs = z := by
 unfold sgd sg
 by_cases h : z < 0
 ·simp [h]; omega
 ·simp [h]; omega
theorem sgd_m (b d : Bool) (x y : Nat) : sgd (!(b == d)) (x * y) = sgd b x * sgd d y := by
 unfold sgd
 cases b <;> cases d <;> simp [Int.natCast_mul, Int.neg_mul, Int.mul_neg]
theorem sgd_mul (a b : Int) : sgd (!(sg a == sg b)) (a.natAbs * b.natAbs) = a * b := by rw [sgd_m, sgd_nat, sgd_nat]
theorem sgd_den (z : Int) (y : Nat) : z * y = sgd (sg z) (z.natAbs * y) := by
 have := sgd_m (sg z) false z.natAbs y
 rw [sgd_nat] at this
 rw [show sgd false y = (y : Int) from rfl] at this
 rw [← this]
 cases sg z <;> rfl
theorem sgd_not (b : Bool) (x : Nat) : sgd (!(b == true)) x = -sgd b x := by
 unfold sgd
 cases b <;> simp
theorem divInt_sgd (p : Rat) : Rat.divInt (sgd (sg p.num) p.num.natAbs) p.den = p := by rw [sgd_nat]; exact divInt_num p
theorem rMake (n d : Int) (h0 : d ≠ 0) (hn : nd 256 n.natAbs ≤ 1048576) (hd : nd 256 d.natAbs ≤ 1048576) : Sp Tryz.prog 80 [] [iV n, iV d] (rV (Rat.divInt n d)) [] := by
 have e : Rat.divInt n d = Rat.divInt (sgd (!(sg n == sg d)) n.natAbs) d.natAbs := by
  rcases Int.natAbs_eq d with hb | hb
  ·have : sg d = false := by unfold sg; simp; omega
   rw [this, ← hb]
   congr 1
   unfold sgd sg
   by_cases h : n < 0 <;> simp [h] <;> omega
  ·have : sg d = true := by unfold sg; simp; omega
   rw [this]
   have h1 : ((d.natAbs : Nat) : Int) = -d := by omega
   rw [h1]
   have h2 : sgd (!(sg n == true)) n.natAbs = -n := by
    unfold sgd sg
    by_cases h : n < 0 <;> simp [h] <;> omega
   rw [h2]
   exact (neg_of n d).symm
 rw [e]
 have s1 := mg_nd n
 have s2 := mg_nd d
 exact walk (code := Tryz.f80.body.getD .skip) [cr (dDig n (by omega)), cr (dDig d (by omega)), cr (fCan (!(sg n == sg d)) n.natAbs d.natAbs (by omega) hn hd)] fol Tryz.func80 (by kernel_rfl) (fun xs w => Tryz.call80 xs w) (by kernel_rfl)
theorem rMul (p q : Rat) (hp : Fits p) (hq : Fits q) : Sp Tryz.prog 38 [] [rV p, rV q] (rV (p * q)) [] := by
 obtain ⟨p1, p2⟩ := hp
 obtain ⟨q1, q2⟩ := hq
 have h1 := nd_mul p.num.natAbs q.num.natAbs
 have h2 := nd_mul p.den q.den
 have hd : 0 < p.den * q.den := Nat.mul_pos (by have := p.den_nz; omega) (by have := q.den_nz; omega)
 have e : p * q = Rat.divInt (sgd (!(sg p.num == sg q.num)) (p.num.natAbs * q.num.natAbs)) (p.den * q.den : Nat) := by rw [sgd_mul, mul_of, Int.natCast_mul]
 rw [e]
 exact walk (code := Tryz.f38.body.getD .skip) [cr (fOf p ⟨p1, p2⟩), cr (fOf q ⟨q1, q2⟩), cr (dTimes p.num.natAbs q.num.natAbs (by omega) (by omega)), cr (dTimes p.den q.den (by omega) (by omega)), cr (fCan (!(sg p.num == sg q.num)) (p.num.natAbs * q.num.natAbs) (p.den * q.den) hd (by omega) (by omega))] fol Tryz.func38 (by kernel_rfl) (fun xs w => Tryz.call38 xs w) (by kernel_rfl)
theorem rDiv (p q : Rat) (h0 : q ≠ 0) (hp : Fits p) (hq : Fits q) : Sp Tryz.prog 56 [] [rV p, rV q] (rV (p / q)) [] := by
 obtain ⟨p1, p2⟩ := hp
 obtain ⟨q1, q2⟩ := hq
 have h1 := nd_mul p.num.natAbs q.den
 have h2 := nd_mul p.den q.num.natAbs
 have hqn : q.num ≠ 0 := fun h => h0 (Rat.num_eq_zero.1 h)
 have hd : 0 < p.den * q.num.natAbs := Nat.mul_pos (by have := p.den_nz; omega) (by omega)
 have e : p / q = Rat.divInt (sgd (!(sg p.num == sg q.num)) (p.num.natAbs * q.den)) (p.den * q.num.natAbs : Nat) := by
  rw [div_of]
  rw [sgd_den p.num q.den]
  cases hs : sg q.num
  ·have h3 : ((p.den * q.num.natAbs : Nat) : Int) = (p.den : Int) * q.num := by
     have : 0 ≤ q.num := by unfold sg at hs; simpa using hs
     rw [Int.natCast_mul]; congr 1; omega
   rw [h3]
   congr 1
   cases sg p.num <;> rfl
  ·have h3 : ((p.den * q.num.natAbs : Nat) : Int) = -((p.den : Int) * q.num) := by
     have : q.num < 0 := by unfold sg at hs; simpa using hs
     rw [Int.natCast_mul, ← Int.mul_neg]; congr 1; omega
   rw [h3, sgd_not]
   exact (neg_of _ _).symm
 rw [e]
 exact walk (code := Tryz.f56.body.getD .skip) [cr (fOf p ⟨p1, p2⟩), cr (fOf q ⟨q1, q2⟩), cr (dTimes p.num.natAbs q.den (by omega) (by omega)), cr (dTimes p.den q.num.natAbs (by omega) (by omega)), cr (fCan (!(sg p.num == sg q.num)) (p.num.natAbs * q.den) (p.den * q.num.natAbs) hd (by omega) (by omega))] fol Tryz.func56 (by kernel_rfl) (fun xs w => Tryz.call56 xs w) (by kernel_rfl)
theorem rAdd (p q : Rat) (hp : Fits p) (hq : Fits q) : Sp Tryz.prog 54 [] [rV p, rV q] (rV (p + q)) [] := by
 obtain ⟨p1, p2⟩ := hp
 obtain ⟨q1, q2⟩ := hq
 have h1 := nd_mul p.num.natAbs q.den
 have h2 := nd_mul q.num.natAbs p.den
 have h3 := nd_mul p.den q.den
 have hd : 0 < p.den * q.den := Nat.mul_pos (by have := p.den_nz; omega) (by have := q.den_nz; omega)
 obtain ⟨A, hA⟩ : ∃ A, A = p.num.natAbs * q.den := ⟨_, rfl⟩
 obtain ⟨B, hB⟩ : ∃ B, B = q.num.natAbs * p.den := ⟨_, rfl⟩
 have hO1 := fOf p ⟨p1, p2⟩
 have hO2 := fOf q ⟨q1, q2⟩
 have hT1 := dTimes p.num.natAbs q.den (by omega) (by omega)
 have hT2 := dTimes q.num.natAbs p.den (by omega) (by omega)
 have hT3 := dTimes p.den q.den (by omega) (by omega)
 rw [← hA] at h1 hT1
 rw [← hB] at h2 hT2
 have e1 : p.num * q.den = sgd (sg p.num) A := by rw [hA]; exact sgd_den ..
 have e2 : q.num * p.den = sgd (sg q.num) B := by rw [hB]; exact sgd_den ..
 have e : p + q = Rat.divInt (sgd (sg p.num) A + sgd (sg q.num) B) (p.den * q.den : Nat) := by rw [add_of, e1, e2, Int.natCast_mul]
 by_cases hs : sg p.num = sg q.num
 ·have e3 : sgd (sg p.num) A + sgd (sg q.num) B = sgd (sg p.num) (A + B) := by rw [← hs]; unfold sgd; cases sg p.num <;> simp <;> omega
  rw [e, e3]
  have := nd_add A B
  exact walk (code := Tryz.f54.body.getD .skip) [cr hO1, cr hO2, cr hT1, cr hT2, cr hT3, eb (show (sg p.num == sg q.num) = true by rw [hs]; simp), cr (dPlus A B (by omega) (by omega)), cr (fCan (sg p.num) (A + B) (p.den * q.den) hd (by omega) (by omega))] fol Tryz.func54 (by kernel_rfl) (fun xs w => Tryz.call54 xs w) (by kernel_rfl)
 ·have hs' : (sg p.num == sg q.num) = false := by simpa using hs
  have hC := dCompare A B (by omega) (by omega)
  by_cases hge : B ≤ A
  ·have e3 : sgd (sg p.num) A + sgd (sg q.num) B = sgd (sg p.num) (A - B) := by
     unfold sgd
     cases h5 : sg p.num <;> cases h6 : sg q.num <;> simp_all <;> omega
   rw [e, e3]
   have := nd_mono 256 (by omega) (A - B) A (by omega)
   exact walk (code := Tryz.f54.body.getD .skip) [cr hO1, cr hO2, cr hT1, cr hT2, cr hT3, eb hs', cr hC, eb (show decide (cmpN A B ≥ 0) = true from cmpN_ge2 A B hge), cr (dMinus A B hge (by omega) (by omega)), cr (fCan (sg p.num) (A - B) (p.den * q.den) hd (by omega) (by omega))] fol Tryz.func54 (by kernel_rfl) (fun xs w => Tryz.call54 xs w) (by kernel_rfl)
  ·have e3 : sgd (sg p.num) A + sgd (sg q.num) B = sgd (sg q.num) (B - A) := by
     unfold sgd
     cases h5 : sg p.num <;> cases h6 : sg q.num <;> simp_all <;> omega
   rw [e, e3]
   have := nd_mono 256 (by omega) (B - A) B (by omega)
   exact walk (code := Tryz.f54.body.getD .skip) [cr hO1, cr hO2, cr hT1, cr hT2, cr hT3, eb hs', cr hC, eb (show decide (cmpN A B ≥ 0) = false from cmpN_lt2 A B (by omega)), cr (dMinus B A (by omega) (by omega) (by omega)), cr (fCan (sg q.num) (B - A) (p.den * q.den) hd (by omega) (by omega))] fol Tryz.func54 (by kernel_rfl) (fun xs w => Tryz.call54 xs w) (by kernel_rfl)
theorem rV_b {p : Rat} {b : Bool} (h : sg p.num = b) : rV p = .agg #[.bool b, .string (mg p.num), .bool (sg (dn p)), .string (mg (dn p))] := by unfold rV; rw [h]
theorem mg_eq0 (z : Int) : ((mg z).toList == []) = (z == 0) := by
 rw [← mg_isEmpty]
 cases (mg z).toList <;> rfl
theorem rNeg (p : Rat) : Sp Tryz.prog 34 [] [rV p] (rV (-p)) [] := by
 have e0 : rV (-p) = .agg #[.bool (sg (-p).num), .string (mg p.num), .bool (sg (dn p)), .string (mg (dn p))] := by
  unfold rV
  rw [dn_neg, show mg (-p).num = mg p.num by rw [Rat.neg_num]; unfold mg; rw [Int.natAbs_neg]]
 cases h : sg p.num
 ·have hn : ¬ p.num < 0 := by simpa [sg] using h
  by_cases h0 : p.num = 0
  ·have e1 : sg (-p).num = false := by rw [Rat.neg_num, h0]; rfl
   rw [e0, e1]
   exact walk (code := Tryz.f34.body.getD .skip) [eb (show (!(sg p.num)) = true by rw [h]; rfl), eb (show (!((mg p.num).toList == [])) = false by rw [mg_eq0, h0]; rfl)] fol Tryz.func34 (by kernel_rfl) (fun xs w => Tryz.call34 xs w) (by kernel_rfl)
  ·have e1 : sg (-p).num = true := by rw [Rat.neg_num]; unfold sg; simp; omega
   rw [e0, e1]
   exact walk (code := Tryz.f34.body.getD .skip) [eb (show (!(sg p.num)) = true by rw [h]; rfl), eb (show (!((mg p.num).toList == [])) = true by rw [mg_eq0]; simpa using h0)] fol Tryz.func34 (by kernel_rfl) (fun xs w => Tryz.call34 xs w) (by kernel_rfl)
 ·have hn : p.num < 0 := by simpa [sg] using h
  have e1 : sg (-p).num = false := by rw [Rat.neg_num]; unfold sg; simp; omega
  rw [e0, e1]
  exact walk (code := Tryz.f34.body.getD .skip) [eb (show (!(sg p.num)) = false by rw [h]; rfl)] fol Tryz.func34 (by kernel_rfl) (fun xs w => Tryz.call34 xs w) (by kernel_rfl)
theorem rSub (p q : Rat) (hp : Fits p) (hq : Fits q) : Sp Tryz.prog 55 [] [rV p, rV q] (rV (p - q)) [] := by
 rw [Rat.sub_eq_add_neg]
 exact walk (code := Tryz.f55.body.getD .skip) [c (rNeg q), c (rAdd p (-q) hp ⟨by rw [Rat.neg_num, Int.natAbs_neg]; exact hq.1, by rw [Rat.neg_den]; exact hq.2⟩)] fol Tryz.func55 (by kernel_rfl) (fun xs w => Tryz.call55 xs w) (by kernel_rfl)
theorem rSign (p : Rat) : Sp Tryz.prog 29 [] [rV p] (nV (cmpI p.num 0)) [] := by
 by_cases h0 : p.num = 0
 ·rw [show cmpI p.num 0 = 0 by rw [h0]; rfl]
  exact walk (code := Tryz.f29.body.getD .skip) [eb (show ((mg p.num).toList == []) = true by rw [mg_eq0, h0]; rfl)] fol Tryz.func29 (by kernel_rfl) (fun xs w => Tryz.call29 xs w) (by kernel_rfl)
 ·have e : ((mg p.num).toList == []) = false := by rw [mg_eq0]; simpa using h0
  by_cases h : p.num < 0
  ·rw [show cmpI p.num 0 = -1 by unfold cmpI; rw [if_pos h], rV_b (show sg p.num = true by unfold sg; simpa using h)]
   exact walk (code := Tryz.f29.body.getD .skip) [eb e] fol Tryz.func29 (by kernel_rfl) (fun xs w => Tryz.call29 xs w) (by kernel_rfl)
  ·rw [show cmpI p.num 0 = 1 by unfold cmpI; rw [if_neg h, if_neg h0], rV_b (show sg p.num = false by unfold sg; simpa using h)]
   exact walk (code := Tryz.f29.body.getD .skip) [eb e] fol Tryz.func29 (by kernel_rfl) (fun xs w => Tryz.call29 xs w) (by kernel_rfl)
theorem Fits.mk2 {q : Rat} (h1 : nd 256 q.num.natAbs ≤ 131000) (h2 : nd 256 q.den ≤ 131000) : Fits q := ⟨h1, h2⟩
theorem rCompare (p q : Rat) (hp : Fits p) (hq : Fits q) : Sp Tryz.prog 18 [] [rV p, rV q] (nV (cmpQ p q)) [] := by
 rw [← cmpQ_sub]
 exact walk (code := Tryz.f18.body.getD .skip) [c (rSub p q hp hq), c (rSign (p - q))] fol Tryz.func18 (by kernel_rfl) (fun xs w => Tryz.call18 xs w) (by kernel_rfl)
theorem rOf (n d : Int) (n1 : -9223372036854775808 ≤ n) (n2 : n ≤ 9223372036854775807) (d1 : -9223372036854775808 ≤ d) (d2 : d ≤ 9223372036854775807) (h0 : d ≠ 0) : Sp Tryz.prog 16 [] [nV n, nV d] (rV (Rat.divInt n d)) [] := by
 have hs : ∀ z : Int, -9223372036854775808 ≤ z → z ≤ 9223372036854775807 → nd 256 z.natAbs ≤ 8 := fun z h1 h2 => nd_le 256 (by omega) _ 8 (by
  have : (256 : Nat) ^ 8 = 18446744073709551616 := by decide
  omega)
 have h1 := hs n n1 n2
 have h2 := hs d d1 d2
 exact walk (code := Tryz.f16.body.getD .skip) [c (rInt n n1 n2), c (rInt d d1 d2), c (rMake n d h0 (by omega) (by omega))] fol Tryz.func16 (by kernel_rfl) (fun xs w => Tryz.call16 xs w) (by kernel_rfl)
theorem rWithin (x a b : Rat) (oa ob : Bool) (hx : Fits x) (ha : Fits a) (hb : Fits b) : Sp Tryz.prog 20 [] [rV x, rV a, rV b, .bool oa, .bool ob] (.bool (within x a b oa ob)) [] := by
 have h1 := rCompare a x ha hx
 have h2 := rCompare x b hx hb
 have key : ∀ p q : Rat, cmpQ p q = -1 ∨ cmpQ p q = 0 ∨ cmpQ p q = 1 := by
  intro p q; unfold cmpQ; split
  ·exact .inl rfl
  ·split
   ·exact .inr (.inl rfl)
   ·exact .inr (.inr rfl)
 unfold within
 rcases key a x with e1 | e1 | e1 <;> rcases key x b with e2 | e2 | e2 <;> rw [e1] at h1 ⊢ <;> rw [e2] at h2 ⊢ <;> cases oa <;> cases ob <;> exact walk (code := Tryz.f20.body.getD .skip) [c h1, c h2] fol Tryz.func20 (by kernel_rfl) (fun xs w => Tryz.call20 xs w) (by kernel_rfl)
end Go.Proofs.YtcbbcmiennjfhaaGreatDoor
set_option linter.unusedSimpArgs false
set_option linter.unusedVariables false
namespace Go.Proofs.YtcbbcmiennjfhaaGreatDoor
open Go Go.RowKit Go.Sy
open Vi
abbrev Bin (op : BinOp) (T : TypeId) (x y v : Value) : Prop := ∀ ox oy w, ((do eqGuard op T ox oy x y; binOp op T x y : Sem Value)).run Tryz.prog w = .ok v w
theorem eqI_run (d : Nat) (x y : Int) (w : World) : (Op.equalIn (d + 2) 26 (iV x) (iV y)).run Tryz.prog w = .ok (x == y) w := by
 rw [← int_beq]
 unfold iV
 rw [run_equalIn_agg _ _ _ _ _ (by kernel_rfl) (by kernel_rfl)]
 simp [go_sem]
 cases h1 : (sg x == sg y) <;> cases h2 : ((mg x).toList == (mg y).toList) <;> simp_all
theorem eqR_run (d : Nat) (p q : Rat) (w : World) : (Op.equalIn (d + 3) 28 (rV p) (rV q)).run Tryz.prog w = .ok (decide (p = q)) w := by
 rw [← rat_beq, ← int_beq p.num, ← int_beq (dn p)]
 unfold rV
 rw [run_equalIn_agg _ _ _ _ _ (by kernel_rfl) (by kernel_rfl)]
 simp [go_sem]
 cases h1 : (sg p.num == sg q.num) <;> cases h2 : ((mg p.num).toList == (mg q.num).toList) <;> cases h3 : (sg (dn p) == sg (dn q)) <;> cases h4 : ((mg (dn p)).toList == (mg (dn q)).toList) <;> simp_all
theorem binI (x y : Int) : Bin .eql 26 (iV x) (iV y) (.bool (x == y)) := fun ox oy w => by
 have h := eqI_run 9998 x y w
 unfold iV at h ⊢
 rw [Sem.run_bind, run_eqGuard_agg _ _ _ _ _ _ _ (by kernel_rfl), Result.andThen_ok, run_eql_struct, h]
 rfl
theorem binI' (x y : Int) : Bin .neq 26 (iV x) (iV y) (.bool (!(x == y))) := fun ox oy w => by
 have h := eqI_run 9998 x y w
 unfold iV at h ⊢
 rw [Sem.run_bind, run_eqGuard_agg _ _ _ _ _ _ _ (by kernel_rfl), Result.andThen_ok, run_neq_struct, h]
 rfl
theorem binR (p q : Rat) : Bin .eql 28 (rV p) (rV q) (.bool (decide (p = q))) := fun ox oy w => by
 have h := eqR_run 9997 p q w
 unfold rV at h ⊢
 rw [Sem.run_bind, run_eqGuard_agg _ _ _ _ _ _ _ (by kernel_rfl), Result.andThen_ok, run_eql_struct, h]
 rfl
theorem binR' (p q : Rat) : Bin .neq 28 (rV p) (rV q) (.bool (!decide (p = q))) := fun ox oy w => by
 have h := eqR_run 9997 p q w
 unfold rV at h ⊢
 rw [Sem.run_bind, run_eqGuard_agg _ _ _ _ _ _ _ (by kernel_rfl), Result.andThen_ok, run_neq_struct, h]
 rfl
def iZ : Value := .agg #[.bool false, .string ⟨#[]⟩]
def rZ : Value := .agg #[.bool false, .string ⟨#[]⟩, .bool false, .string ⟨#[]⟩]
theorem sg0 : sg 0 = false := by decide
theorem mg0 : mg 0 = ⟨#[]⟩ := by decide
theorem iV0 : iV 0 = iZ := by unfold iV iZ; rw [sg0, mg0]
theorem dn_int (n : Int) : dn (n : Rat) = 0 := by unfold dn; rw [Rat.den_intCast, if_pos rfl]
theorem rV_int (n : Int) : rV (n : Rat) = .agg #[.bool (sg n), .string (mg n), .bool false, .string ⟨#[]⟩] := by unfold rV; rw [dn_int, sg0, mg0, Rat.num_intCast]
theorem rV0 : rV 0 = rZ := by rw [show (0 : Rat) = ((0 : Int) : Rat) from rfl, rV_int, sg0, mg0]; rfl
theorem Bin.as {op : BinOp} {T : TypeId} {x y v : Value} {b c : Bool} (h : Bin op T x y (.bool b)) (e : b = c) : Bin op T x y (.bool c) := e ▸ h
theorem binI0 (x : Int) {b : Bool} (e : (x == 0) = b) : Bin .eql 26 (iV x) iZ (.bool b) := by rw [← iV0]; exact (binI x 0).as (v := .nilIface) e
theorem binI1 (x y : Int) {b : Bool} (e : (x == y) = b) : Bin .eql 26 (iV x) (iV y) (.bool b) := (binI x y).as (v := .nilIface) e
theorem binI1' (x y : Int) {b : Bool} (e : (!(x == y)) = b) : Bin .neq 26 (iV x) (iV y) (.bool b) := (binI' x y).as (v := .nilIface) e
theorem binR1 (p q : Rat) {b : Bool} (e : decide (p = q) = b) : Bin .eql 28 (rV p) (rV q) (.bool b) := (binR p q).as (v := .nilIface) e
theorem binR1' (p q : Rat) {b : Bool} (e : (!decide (p = q)) = b) : Bin .neq 28 (rV p) (rV q) (.bool b) := (binR' p q).as (v := .nilIface) e
theorem binR0 (p : Rat) {b : Bool} (e : decide (p = 0) = b) : Bin .eql 28 (rV p) rZ (.bool b) := by rw [← rV0]; exact binR1 p 0 e
theorem binR0' (p : Rat) {b : Bool} (e : (!decide (p = 0)) = b) : Bin .neq 28 (rV p) rZ (.bool b) := by rw [← rV0]; exact binR1' p 0 e
end Go.Proofs.YtcbbcmiennjfhaaGreatDoor
set_option linter.unusedSimpArgs false
set_option linter.unusedVariables false
namespace Go.Proofs.YtcbbcmiennjfhaaGreatDoor
open Go Go.RowKit Go.Sy
open Vi
theorem cmpI_neg {x : Int} (h : x < 0) : cmpI x 0 = -1 := by unfold cmpI; rw [if_pos h]
theorem cmpI_zero : cmpI 0 0 = 0 := rfl
theorem cmpI_pos {x : Int} (h : 0 < x) : cmpI x 0 = 1 := by unfold cmpI; rw [if_neg (by omega), if_neg (by omega)]
theorem pOne : Sp Tryz.prog 90 [] [] (iV 1) [] := walk (code := Tryz.f90.body.getD .skip) [c (iFromInt 1 (by omega) (by omega))] fol Tryz.func90 (by kernel_rfl) (fun xs w => Tryz.call90 xs w) (by kernel_rfl)
theorem pQuot (a b : Int) (hb : b ≠ 0) (sa : (mg a).size ≤ 4294967290) (sb : (mg b).size ≤ 4294967290) : Sp Tryz.prog 154 [] [iV a, iV b] (iV (a / b)) [] := walk (code := Tryz.f154.body.getD .skip) [c (iDivMod a b hb (by omega) (by omega))] fol Tryz.func154 (by kernel_rfl) (fun xs w => Tryz.call154 xs w) (by kernel_rfl)
theorem rV_is {q : Rat} {z e : Int} (h1 : q.num = z) (h2 : dn q = e) : rV q = .agg #[.bool (sg z), .string (mg z), .bool (sg e), .string (mg e)] := (rV_of h1 h2).symm
theorem rV_is1 {q : Rat} {z : Int} (h1 : q.num = z) (h2 : q.den = 1) : rV q = .agg #[.bool (sg z), .string (mg z), .bool false, .string ⟨#[]⟩] := by
 rw [rV_is h1 (e := 0) (by unfold dn; rw [if_pos h2]), sg0, mg0]
theorem mg_le {x y : Int} (h : x.natAbs ≤ y.natAbs) : (mg x).size ≤ (mg y).size := by rw [mg_nd, mg_nd]; exact nd_mono 256 (by omega) _ _ h
theorem canPos (n d : Int) (hd : 0 < d) (sn : (mg n).size ≤ 4294967290) (sd : (mg d).size ≤ 4294967290) :
    ∃ g : Int, 0 < g ∧ g.natAbs ≤ d.natAbs ∧ Sp Tryz.prog 153 [] [iV n, iV d] (iV g) [] ∧ (Rat.divInt n d).num = n / g ∧ ((Rat.divInt n d).den : Int) = d / g := by
 refine ⟨gg n d, gg_pos n d (by omega), ?_, iGcd n d (by omega) (by omega), num_of n d hd, den_of n d hd⟩
 show (Nat.gcd n.natAbs d.natAbs : Nat) ≤ d.natAbs
 exact Nat.gcd_le_right _ (by omega)
theorem den_pos' (q : Rat) : 0 < (q.den : Int) := den_pos q
theorem pCan (n d : Int) (h0 : d ≠ 0) (sn : (mg n).size ≤ 4294967290) (sd : (mg d).size ≤ 4294967290) : Sp Tryz.prog 105 [] [iV n, iV d] (rV (Rat.divInt n d)) [] := by
 rcases Int.lt_or_gt_of_ne h0 with hd | hd
 ·have sn' : (mg (-n)).size ≤ 4294967290 := by rw [mg_nd, Int.natAbs_neg, ← mg_nd]; exact sn
  have sd' : (mg (-d)).size ≤ 4294967290 := by rw [mg_nd, Int.natAbs_neg, ← mg_nd]; exact sd
  obtain ⟨g, g0, gd, hg, e1, e2⟩ := canPos (-n) (-d) (by omega) sn' sd'
  have sg' : (mg g).size ≤ 4294967290 := Nat.le_trans (mg_le (y := -d) gd) sd'
  have s1 : cmpI d 0 = -1 := cmpI_neg hd
  have hs := iSign d
  rw [s1] at hs
  rw [← neg_of n d]
  by_cases h1 : (-d) / g = 1
  ·rw [rV_is1 e1 (by omega)]
   exact walk (code := Tryz.f105.body.getD .skip) [c hs, c (iNegate n), c (iNegate d), c hg, c (pQuot (-n) g (by omega) sn' sg'), c (pQuot (-d) g (by omega) sd' sg'), c pOne, x2 (binI1 ((-d) / g) 1 (b := true) (by rw [h1]; rfl))] fol Tryz.func105 (by kernel_rfl) (fun xs w => Tryz.call105 xs w) (by kernel_rfl)
  ·rw [rV_is e1 (e := (-d) / g) (by unfold dn; rw [if_neg (by omega)]; exact e2)]
   exact walk (code := Tryz.f105.body.getD .skip) [c hs, c (iNegate n), c (iNegate d), c hg, c (pQuot (-n) g (by omega) sn' sg'), c (pQuot (-d) g (by omega) sd' sg'), c pOne, x2 (binI1 ((-d) / g) 1 (b := false) (by simpa using h1))] fol Tryz.func105 (by kernel_rfl) (fun xs w => Tryz.call105 xs w) (by kernel_rfl)
 ·obtain ⟨g, g0, gd, hg, e1, e2⟩ := canPos n d hd sn sd
  have sg' : (mg g).size ≤ 4294967290 := Nat.le_trans (mg_le gd) sd
  have s1 : cmpI d 0 = 1 := cmpI_pos hd
  have hs := iSign d
  rw [s1] at hs
  by_cases h1 : d / g = 1
  ·rw [rV_is1 e1 (by omega)]
   exact walk (code := Tryz.f105.body.getD .skip) [c hs, c hg, c (pQuot n g (by omega) sn sg'), c (pQuot d g (by omega) sd sg'), c pOne, x2 (binI1 (d / g) 1 (b := true) (by rw [h1]; rfl))] fol Tryz.func105 (by kernel_rfl) (fun xs w => Tryz.call105 xs w) (by kernel_rfl)
  ·rw [rV_is e1 (e := d / g) (by unfold dn; rw [if_neg (by omega)]; exact e2)]
   exact walk (code := Tryz.f105.body.getD .skip) [c hs, c hg, c (pQuot n g (by omega) sn sg'), c (pQuot d g (by omega) sd sg'), c pOne, x2 (binI1 (d / g) 1 (b := false) (by simpa using h1))] fol Tryz.func105 (by kernel_rfl) (fun xs w => Tryz.call105 xs w) (by kernel_rfl)
theorem pMake (n d : Int) (h0 : d ≠ 0) (sn : (mg n).size ≤ 4294967290) (sd : (mg d).size ≤ 4294967290) : Sp Tryz.prog 92 [] [iV n, iV d] (.tuple #[rV (Rat.divInt n d), nV 0]) [] := by
 have hs := iSign d
 have e : decide (cmpI d 0 = 0) = false := by unfold cmpI; rcases Int.lt_or_gt_of_ne h0 with h | h <;> simp <;> omega
 rcases Int.lt_or_gt_of_ne h0 with h | h
 ·rw [cmpI_neg h] at hs
  exact walk (code := Tryz.f92.body.getD .skip) [c hs, c (pCan n d h0 sn sd)] fol Tryz.func92 (by kernel_rfl) (fun xs w => Tryz.call92 xs w) (by kernel_rfl)
 ·rw [cmpI_pos h] at hs
  exact walk (code := Tryz.f92.body.getD .skip) [c hs, c (pCan n d h0 sn sd)] fol Tryz.func92 (by kernel_rfl) (fun xs w => Tryz.call92 xs w) (by kernel_rfl)
theorem pMake0 (n : Int) : Sp Tryz.prog 92 [] [iV n, iV 0] (.tuple #[rZ, nV 6]) [] := walk (code := Tryz.f92.body.getD .skip) [c (iSign 0)] fol Tryz.func92 (by kernel_rfl) (fun xs w => Tryz.call92 xs w) (by kernel_rfl)
theorem pFromInt (n : Int) (h1 : -9223372036854775808 ≤ n) (h2 : n ≤ 9223372036854775807) : Sp Tryz.prog 112 [] [nV n] (rV (n : Rat)) [] := by
 rw [rV_int]
 exact walk (code := Tryz.f112.body.getD .skip) [c (iFromInt n h1 h2)] fol Tryz.func112 (by kernel_rfl) (fun xs w => Tryz.call112 xs w) (by kernel_rfl)
theorem s64 (n : Int) (h1 : -9223372036854775808 ≤ n) (h2 : n ≤ 9223372036854775807) : (mg n).size ≤ 8 := by
 rw [mg_nd]
 refine nd_le 256 (by omega) _ 8 ?_
 have : (256 : Nat) ^ 8 = 18446744073709551616 := by decide
 omega
theorem pFromInts (n d : Int) (n1 : -9223372036854775808 ≤ n) (n2 : n ≤ 9223372036854775807) (d1 : -9223372036854775808 ≤ d) (d2 : d ≤ 9223372036854775807) (h0 : d ≠ 0) : Sp Tryz.prog 77 [] [nV n, nV d] (.tuple #[rV (Rat.divInt n d), nV 0]) [] := by
 have h1 := s64 n n1 n2
 have h2 := s64 d d1 d2
 exact walk (code := Tryz.f77.body.getD .skip) [c (iFromInt n n1 n2), c (iFromInt d d1 d2), c (pMake n d h0 (by omega) (by omega))] fol Tryz.func77 (by kernel_rfl) (fun xs w => Tryz.call77 xs w) (by kernel_rfl)
theorem pFromInts0 (n : Int) (n1 : -9223372036854775808 ≤ n) (n2 : n ≤ 9223372036854775807) : Sp Tryz.prog 77 [] [nV n, nV 0] (.tuple #[rZ, nV 6]) [] :=
 walk (code := Tryz.f77.body.getD .skip) [c (iFromInt n n1 n2), c (iFromInt 0 (by omega) (by omega)), c (pMake0 n)] fol Tryz.func77 (by kernel_rfl) (fun xs w => Tryz.call77 xs w) (by kernel_rfl)
theorem pNum (p : Rat) : Sp Tryz.prog 183 [] [rV p] (iV p.num) [] := walk (code := Tryz.f183.body.getD .skip) [] fol Tryz.func183 (by kernel_rfl) (fun xs w => Tryz.call183 xs w) (by kernel_rfl)
theorem pDen (p : Rat) : Sp Tryz.prog 106 [] [rV p] (iV p.den) [] := by
 by_cases h : p.den = 1
 ·rw [h]
  exact walk (code := Tryz.f106.body.getD .skip) [x2 (binI0 (dn p) (b := true) (by unfold dn; rw [if_pos h]; rfl)), c pOne] fol Tryz.func106 (by kernel_rfl) (fun xs w => Tryz.call106 xs w) (by kernel_rfl)
 ·have e : dn p = (p.den : Int) := by unfold dn; rw [if_neg h]
  rw [show iV (p.den : Int) = iV (dn p) by rw [e]]
  exact walk (code := Tryz.f106.body.getD .skip) [x2 (binI0 (dn p) (b := false) (by rw [e]; have := p.den_nz; simp; omega))] fol Tryz.func106 (by kernel_rfl) (fun xs w => Tryz.call106 xs w) (by kernel_rfl)
theorem pNeg (p : Rat) : Sp Tryz.prog 83 [] [rV p] (rV (-p)) [] := by
 rw [rV_is (q := -p) (Rat.neg_num p) (dn_neg p)]
 exact walk (code := Tryz.f83.body.getD .skip) [c (iNegate p.num)] fol Tryz.func83 (by kernel_rfl) (fun xs w => Tryz.call83 xs w) (by kernel_rfl)
theorem pSign (p : Rat) : Sp Tryz.prog 82 [] [rV p] (nV (cmpI p.num 0)) [] := walk (code := Tryz.f82.body.getD .skip) [c (iSign p.num)] fol Tryz.func82 (by kernel_rfl) (fun xs w => Tryz.call82 xs w) (by kernel_rfl)
theorem cross_frac (p q : Rat) (x y d : Int) (hx : x = if dn p = dn q then p.num else p.num * q.den) (hy : y = if dn p = dn q then q.num else q.num * p.den) (hd : d = if dn p = dn q then (p.den : Int) else p.den * q.den) : d ≠ 0 ∧ p + q = Rat.divInt (x + y) d ∧ 0 < d ∧ cmpI x y = cmpI (p.num * q.den) (q.num * p.den) := by
 have h1 := den_pos p
 have h2 := den_pos q
 by_cases h : dn p = dn q
 ·rw [if_pos h] at hx hy hd
  have hde := dn_inj h
  refine ⟨by omega, ?_, by omega, ?_⟩
  ·rw [add_of, hx, hy, hd, ← hde, ← Int.add_mul, Rat.divInt_mul_right (by omega)]
  ·rw [hx, hy, ← hde]
   unfold cmpI
   by_cases h3 : p.num < q.num
   ·rw [if_pos h3, if_pos (Int.mul_lt_mul_of_pos_right h3 h1)]
   ·rw [if_neg h3]
    have h4 : ¬ p.num * (p.den : Int) < q.num * (p.den : Int) := fun h5 => h3 (Int.lt_of_mul_lt_mul_right h5 (by omega))
    rw [if_neg h4]
    by_cases h6 : p.num = q.num
    ·rw [if_pos h6, if_pos (by rw [h6])]
    ·rw [if_neg h6, if_neg (fun h7 => h6 (Int.eq_of_mul_eq_mul_right (by omega) h7))]
 ·rw [if_neg h] at hx hy hd
  have h3 := Int.mul_pos h1 h2
  refine ⟨by omega, ?_, by omega, by rw [hx, hy]⟩
  rw [hx, hy, hd, add_of]
theorem pCross (p q : Rat) (hp : Fits p) (hq : Fits q) : ∃ x y d : Int, d ≠ 0 ∧ (mg x).size ≤ 4000000 ∧ (mg y).size ≤ 4000000 ∧ (mg d).size ≤ 4000000 ∧ p + q = Rat.divInt (x + y) d ∧ cmpI x y = cmpI (p.num * q.den) (q.num * p.den) ∧
    Sp Tryz.prog 132 [] [rV p, rV q] (.tuple #[iV x, iV y, iV d]) [] := by
 have a1 := hp.1
 have a2 := hp.2
 have b1 := hq.1
 have b2 := hq.2
 obtain ⟨c0, c1, _, c3⟩ := cross_frac p q _ _ _ rfl rfl rfl
 by_cases h : dn p = dn q
 ·simp only [if_pos h] at c0 c1 c3
  refine ⟨p.num, q.num, p.den, c0, by rw [mg_nd]; omega, by rw [mg_nd]; omega, by rw [mg_nd]; simp; omega, c1, c3, ?_⟩
  exact walk (code := Tryz.f132.body.getD .skip) [x2 (binI1 (dn p) (dn q) (b := true) (by rw [h]; simp)), c (pDen p)] fol Tryz.func132 (by kernel_rfl) (fun xs w => Tryz.call132 xs w) (by kernel_rfl)
 ·simp only [if_neg h] at c0 c1 c3
  have m1 := nd_mul p.num.natAbs q.den
  have m2 := nd_mul q.num.natAbs p.den
  have m3 := nd_mul p.den q.den
  refine ⟨p.num * q.den, q.num * p.den, p.den * q.den, c0, by rw [mg_nd, Int.natAbs_mul, Int.natAbs_natCast]; omega, by rw [mg_nd, Int.natAbs_mul, Int.natAbs_natCast]; omega, by rw [mg_nd, Int.natAbs_mul, Int.natAbs_natCast, Int.natAbs_natCast]; omega, c1, rfl, ?_⟩
  have z1 : (mg p.num).size ≤ 131000 := by rw [mg_nd]; omega
  have z2 : (mg q.num).size ≤ 131000 := by rw [mg_nd]; omega
  have z3 : (mg (p.den : Int)).size ≤ 131000 := by rw [mg_nd]; simpa using a2
  have z4 : (mg (q.den : Int)).size ≤ 131000 := by rw [mg_nd]; simpa using b2
  exact walk (code := Tryz.f132.body.getD .skip) [x2 (binI1 (dn p) (dn q) (b := false) (by simpa using h)), c (pDen q), c (iMul p.num q.den (by omega) (by omega)), c (pDen p), c (iMul q.num p.den (by omega) (by omega)), c (pDen p), c (pDen q), c (iMul p.den q.den (by omega) (by omega))] fol Tryz.func132 (by kernel_rfl) (fun xs w => Tryz.call132 xs w) (by kernel_rfl)
theorem sum_sz (x y : Int) (hx : (mg x).size ≤ 4000000) (hy : (mg y).size ≤ 4000000) : (mg (x + y)).size ≤ 8000001 := by
 rw [mg_nd] at *
 have := nd_add x.natAbs y.natAbs
 have h := nd_mono 256 (by omega) (x + y).natAbs (x.natAbs + y.natAbs) (by omega)
 omega
theorem pAdd (p q : Rat) (hp : Fits p) (hq : Fits q) : Sp Tryz.prog 101 [] [rV p, rV q] (rV (p + q)) [] := by
 obtain ⟨x, y, d, h0, sx, sy, sd, e, _, hC⟩ := pCross p q hp hq
 have := sum_sz x y sx sy
 rw [e]
 exact walk (code := Tryz.f101.body.getD .skip) [c hC, c (iAdd x y (by omega) (by omega)), c (pCan (x + y) d h0 (by omega) (by omega))] fol Tryz.func101 (by kernel_rfl) (fun xs w => Tryz.call101 xs w) (by kernel_rfl)
theorem Fits.neg {q : Rat} (h : Fits q) : Fits (-q) := ⟨by rw [Rat.neg_num, Int.natAbs_neg]; exact h.1, by rw [Rat.neg_den]; exact h.2⟩
theorem pSub (p q : Rat) (hp : Fits p) (hq : Fits q) : Sp Tryz.prog 107 [] [rV p, rV q] (rV (p - q)) [] := by
 rw [Rat.sub_eq_add_neg]
 exact walk (code := Tryz.f107.body.getD .skip) [c (pNeg q), c (pAdd p (-q) hp hq.neg)] fol Tryz.func107 (by kernel_rfl) (fun xs w => Tryz.call107 xs w) (by kernel_rfl)
theorem pMul (p q : Rat) (hp : Fits p) (hq : Fits q) : Sp Tryz.prog 36 [] [rV p, rV q] (rV (p * q)) [] := by
 have a1 := hp.1
 have a2 := hp.2
 have b1 := hq.1
 have b2 := hq.2
 have m1 := nd_mul p.num.natAbs q.num.natAbs
 have m3 := nd_mul p.den q.den
 have z1 : (mg p.num).size ≤ 131000 := by rw [mg_nd]; omega
 have z2 : (mg q.num).size ≤ 131000 := by rw [mg_nd]; omega
 have z3 : (mg (p.den : Int)).size ≤ 131000 := by rw [mg_nd]; simpa using a2
 have z4 : (mg (q.den : Int)).size ≤ 131000 := by rw [mg_nd]; simpa using b2
 rw [mul_of]
 exact walk (code := Tryz.f36.body.getD .skip) [c (iMul p.num q.num (by omega) (by omega)), c (pDen p), c (pDen q), c (iMul p.den q.den (by omega) (by omega)), c (pCan (p.num * q.num) (p.den * q.den) (by have := den_pos p; have := den_pos q; exact Int.mul_ne_zero (by omega) (by omega)) (by rw [mg_nd, Int.natAbs_mul]; omega) (by rw [mg_nd, Int.natAbs_mul, Int.natAbs_natCast, Int.natAbs_natCast]; omega))] fol Tryz.func36 (by kernel_rfl) (fun xs w => Tryz.call36 xs w) (by kernel_rfl)
theorem pDiv (p q : Rat) (h0 : q ≠ 0) (hp : Fits p) (hq : Fits q) : Sp Tryz.prog 113 [] [rV p, rV q] (.tuple #[rV (p / q), nV 0]) [] := by
 have a1 := hp.1
 have a2 := hp.2
 have b1 := hq.1
 have b2 := hq.2
 have m1 := nd_mul p.num.natAbs q.den
 have m3 := nd_mul p.den q.num.natAbs
 have z1 : (mg p.num).size ≤ 131000 := by rw [mg_nd]; omega
 have z2 : (mg q.num).size ≤ 131000 := by rw [mg_nd]; omega
 have z3 : (mg (p.den : Int)).size ≤ 131000 := by rw [mg_nd]; simpa using a2
 have z4 : (mg (q.den : Int)).size ≤ 131000 := by rw [mg_nd]; simpa using b2
 have hqn : q.num ≠ 0 := fun h => h0 (Rat.num_eq_zero.1 h)
 rw [div_of]
 exact walk (code := Tryz.f113.body.getD .skip) [c (pDen q), c (iMul p.num q.den (by omega) (by omega)), c (pDen p), c (iMul p.den q.num (by omega) (by omega)), c (pMake (p.num * q.den) (p.den * q.num) (by have := den_pos p; exact Int.mul_ne_zero (by omega) hqn) (by rw [mg_nd, Int.natAbs_mul, Int.natAbs_natCast]; omega) (by rw [mg_nd, Int.natAbs_mul, Int.natAbs_natCast]; omega))] fol Tryz.func113 (by kernel_rfl) (fun xs w => Tryz.call113 xs w) (by kernel_rfl)
theorem pDiv0 (p : Rat) (hp : Fits p) : Sp Tryz.prog 113 [] [rV p, rV 0] (.tuple #[rZ, nV 6]) [] := by
 have a1 := hp.1
 have a2 := hp.2
 have z1 : (mg p.num).size ≤ 131000 := by rw [mg_nd]; omega
 have z3 : (mg (p.den : Int)).size ≤ 131000 := by rw [mg_nd]; simpa using a2
 have h1 := iMul p.num (0 : Rat).den (by omega) (by show (mg 1).size ≤ _; rw [show (mg 1).size = 1 by decide]; omega)
 have h2 := iMul p.den (0 : Rat).num (by omega) (by show (mg 0).size ≤ _; rw [mg0]; show (0 : Nat) ≤ _; omega)
 rw [show (p.den : Int) * (0 : Rat).num = 0 from Int.mul_zero _] at h2
 exact walk (code := Tryz.f113.body.getD .skip) [c (pDen 0), c h1, c (pDen p), c h2, c (pMake0 (p.num * (0 : Rat).den))] fol Tryz.func113 (by kernel_rfl) (fun xs w => Tryz.call113 xs w) (by kernel_rfl)
theorem pCompare (p q : Rat) (hp : Fits p) (hq : Fits q) : Sp Tryz.prog 79 [] [rV p, rV q] (nV (cmpQ p q)) [] := by
 by_cases h : p = q
 ·subst h
  rw [show cmpQ p p = 0 by unfold cmpQ; rw [if_neg (Rat.lt_irrefl), if_pos rfl]]
  exact walk (code := Tryz.f79.body.getD .skip) [x2 (binR1 p p (b := true) (by simp))] fol Tryz.func79 (by kernel_rfl) (fun xs w => Tryz.call79 xs w) (by kernel_rfl)
 ·obtain ⟨x, y, d, h0, sx, sy, sd, _, e, hC⟩ := pCross p q hp hq
  rw [cmpQ_int, ← e]
  exact walk (code := Tryz.f79.body.getD .skip) [x2 (binR1 p q (b := false) (by simpa using h)), c hC, c (iCompare x y (by omega) (by omega))] fol Tryz.func79 (by kernel_rfl) (fun xs w => Tryz.call79 xs w) (by kernel_rfl)
theorem pFloor (p : Rat) (hp : Fits p) : Sp Tryz.prog 136 [] [rV p] (iV p.floor) [] := by
 have a1 := hp.1
 have a2 := hp.2
 have z1 : (mg p.num).size ≤ 131000 := by rw [mg_nd]; omega
 have z3 : (mg (p.den : Int)).size ≤ 131000 := by rw [mg_nd]; simpa using a2
 rw [show p.floor = p.num / p.den from Rat.floor_def p]
 exact walk (code := Tryz.f136.body.getD .skip) [c (pDen p), c (pQuot p.num p.den (by have := den_pos p; omega) (by omega) (by omega))] fol Tryz.func136 (by kernel_rfl) (fun xs w => Tryz.call136 xs w) (by kernel_rfl)
end Go.Proofs.YtcbbcmiennjfhaaGreatDoor
set_option linter.unusedSimpArgs false
set_option linter.unusedVariables false
namespace Go.Proofs.YtcbbcmiennjfhaaGreatDoor
open Go Go.RowKit Go.Sy
open Vi
theorem sgd_if (b : Bool) (x : Nat) : (if b then -(x : Int) else x) = sgd b x := rfl
theorem floor_of (p : Rat) : p.floor = p.num / p.den := Rat.floor_def p
theorem one_of : Rat.divInt 1 1 = 1 := by decide +kernel
theorem Fits.int {z : Int} (h : nd 256 z.natAbs ≤ 131000) : Fits (z : Rat) := ⟨by rw [Rat.num_intCast]; exact h, by rw [Rat.den_intCast, nd_small 1 (by omega) (by omega)]; omega⟩
theorem Fits.one : Fits 1 := Fits.int (z := 1) (by rw [show (1 : Int).natAbs = 1 from rfl, nd_small 1 (by omega) (by omega)]; omega)
theorem rOne : Sp Tryz.prog 16 [] [nV 1, nV 1] (rV 1) [] := by
 have := rOf 1 1 (by omega) (by omega) (by omega) (by omega) (by omega)
 rw [one_of] at this
 exact this
theorem rFloor (p : Rat) (hp : Fits p) : Sp Tryz.prog 85 [] [rV p] (rV ((p.floor : Int) : Rat)) [] := by
 have p1 := hp.1
 have p2 := hp.2
 have hd : 0 < p.den := by have := p.den_nz; omega
 have hOf := fOf p hp
 have hDv := dDivide p.num.natAbs p.den hd (by omega) (by omega)
 have hq := nd_mono 256 (by omega) (p.num.natAbs / p.den) p.num.natAbs (Nat.div_le_self _ _)
 rw [floor_of]
 cases hs : sg p.num
 ·have hn : (p.num.natAbs : Int) = p.num := by unfold sg at hs; have : ¬ p.num < 0 := by simpa using hs
                                               omega
  have e : p.num / p.den = ((p.num.natAbs / p.den : Nat) : Int) := by
   rw [← floor_pos, hn]
  have hW := dWhole false (p.num.natAbs / p.den) (by omega)
  rw [e, rV_int]
  rw [hs] at hOf
  exact walk (code := Tryz.f85.body.getD .skip) [cr hOf, cr hDv, cr hW] fol Tryz.func85 (by kernel_rfl) (fun xs w => Tryz.call85 xs w) (by kernel_rfl)
 ·have hn : p.num = -(p.num.natAbs : Int) := by unfold sg at hs; have : p.num < 0 := by simpa using hs
                                                omega
  have e : p.num / p.den = -((p.num.natAbs / p.den : Nat) : Int) - (if p.num.natAbs % p.den = 0 then 0 else 1) := by
   rw [← floor_neg _ _ hd]
   congr 1
  have hW := dWhole true (p.num.natAbs / p.den) (by omega)
  rw [hs] at hOf
  rw [if_pos rfl] at hW
  by_cases h0 : p.num.natAbs % p.den = 0
  ·rw [e, if_pos h0, Int.sub_zero, rV_int]
   have eb0 : decide ((nd 256 (p.num.natAbs % p.den) : Int) > 0) = false := by rw [h0, nd_zero]; rfl
   exact walk (code := Tryz.f85.body.getD .skip) [cr hOf, cr hDv, cr hW, eb eb0] fol Tryz.func85 (by kernel_rfl) (fun xs w => Tryz.call85 xs w) (by kernel_rfl)
  ·have eb1 : decide ((nd 256 (p.num.natAbs % p.den) : Int) > 0) = true := by
     have := nd_pos 256 (by omega) (p.num.natAbs % p.den) (by omega)
     simpa using this
   have hS := rSub ((-((p.num.natAbs / p.den : Nat) : Int) : Int) : Rat) 1 (Fits.int (by rw [Int.natAbs_neg, Int.natAbs_natCast]; omega)) Fits.one
   rw [rV_int, show (((-((p.num.natAbs / p.den : Nat) : Int) : Int) : Rat) - 1) = ((-((p.num.natAbs / p.den : Nat) : Int) - 1 : Int) : Rat) by rw [Rat.intCast_sub]; rfl] at hS
   rw [e, if_neg h0]
   exact walk (code := Tryz.f85.body.getD .skip) [cr hOf, cr hDv, cr hW, eb eb1, c rOne, c hS] fol Tryz.func85 (by kernel_rfl) (fun xs w => Tryz.call85 xs w) (by kernel_rfl)
theorem mg1 : mg 1 = ⟨#[1]⟩ := by decide
theorem isOne {s : ByteArray} (h : okInt false s = true) : (s.toList == (⟨#[1]⟩ : ByteArray).toList) = (num s == 1) := by
 obtain ⟨z, h1, rfl⟩ := okInt_num false s h
 rw [num_mg, ← mg1]
 have := int_beq z 1
 rw [← h1, show sg 1 = false by decide] at this
 simp only [BEq.rfl, Bool.true_and] at this
 rw [this]
 have : 0 ≤ z := by
  have h1 := h1.symm
  unfold sg at h1
  have : ¬ z < 0 := by simpa using h1
  omega
 rw [Bool.eq_iff_iff]
 simp
 omega
theorem rCheck (b1 : Bool) (s1 : ByteArray) (b2 : Bool) (s2 : ByteArray) (h1 : s1.size ≤ 131000) (h2 : s2.size ≤ 131000) : Sp Tryz.prog 64 [] [.agg #[.bool b1, .string s1, .bool b2, .string s2]] (.bool (okRat b1 s1 b2 s2)) [] := by
 have c1 := rIsInt b1 s1 (by omega)
 have c2 := rIsInt b2 s2 (by omega)
 unfold okRat
 cases k1 : okInt b1 s1 <;> rw [k1] at c1
 ·exact walk (code := Tryz.f64.body.getD .skip) [c c1] fol Tryz.func64 (by kernel_rfl) (fun xs w => Tryz.call64 xs w) (by kernel_rfl)
 cases k2 : okInt b2 s2 <;> rw [k2] at c2
 ·exact walk (code := Tryz.f64.body.getD .skip) [c c1, c c2] fol Tryz.func64 (by kernel_rfl) (fun xs w => Tryz.call64 xs w) (by kernel_rfl)
 cases b2
 case true => exact walk (code := Tryz.f64.body.getD .skip) [c c1, c c2] fol Tryz.func64 (by kernel_rfl) (fun xs w => Tryz.call64 xs w) (by kernel_rfl)
 cases k3 : (s2.toList == [])
 ·have n1 : nd 256 (num s1) ≤ 131000 := Nat.le_trans (nd_le 256 (by omega) _ s1.size (num_lt s1)) h1
  have n2 : nd 256 (num s2) ≤ 131000 := Nat.le_trans (nd_le 256 (by omega) _ s2.size (num_lt s2)) h2
  have k4 : s2.toList.isEmpty = false := by rw [← k3]; cases s2.toList <;> rfl
  have hi := isOne k2
  have hC := dCommon (num s1) (num s2) (by omega) (by omega)
  rw [k4, Nat.gcd_comm (num s1) (num s2)]
  obtain ⟨G, hG⟩ : ∃ G, G = Nat.gcd (num s2) (num s1) := ⟨_, rfl⟩
  rw [← hG] at hC ⊢
  have hd1 := dDigits b1 s1 (by omega)
  have hd2 := dDigits false s2 (by omega)
  cases k5 : (num s2 == 1)
  ·rw [show (num s2 != 1) = true by show (!(num s2 == 1)) = true; rw [k5]; rfl]
   have e5 : (!(s2.toList == (⟨#[1]⟩ : ByteArray).toList)) = true := by rw [hi, k5]; rfl
   by_cases k6 : nd 256 G = 1
   ·have g0 : 0 < G := by
      rcases Nat.eq_zero_or_pos G with h | h
      ·rw [h, nd_zero] at k6; omega
      ·exact h
    have g1 : G < 256 := by have := lt_pow_nd 256 (by omega) G; rw [k6] at this; simpa using this
    rw [k6, rD_small G g0 g1] at hC
    have e7 : ((true && true && !false && (false || true && G == 1)) : Bool) = decide ((G : Int) = 1) := by
     rw [Bool.eq_iff_iff]; simp; omega
    show Sp _ _ _ _ (.bool (true && true && !false && (false || true && G == 1))) _
    rw [e7]
    exact walk (code := Tryz.f64.body.getD .skip) [c c1, c c2, L, eb k3, cr hd1, cr hd2, cr hC, eb e5] fol Tryz.func64 (by kernel_rfl) (fun xs w => Tryz.call64 xs w) (by kernel_rfl)
   ·have e6 : decide ((nd 256 G : Int) = 1) = false := decide_eq_false (by omega)
    have e7 : (G == 1) = false := by
     have : G ≠ 1 := fun h => k6 (by rw [h]; exact nd_small 1 (by omega) (by omega))
     simpa using this
    rw [e7]
    exact walk (code := Tryz.f64.body.getD .skip) [c c1, c c2, L, eb k3, cr hd1, cr hd2, cr hC, eb e5, eb e6] fol Tryz.func64 (by kernel_rfl) (fun xs w => Tryz.call64 xs w) (by kernel_rfl)
  ·rw [show (num s2 != 1) = false by show (!(num s2 == 1)) = false; rw [k5]; rfl]
   have e5 : (!(s2.toList == (⟨#[1]⟩ : ByteArray).toList)) = false := by rw [hi, k5]; rfl
   exact walk (code := Tryz.f64.body.getD .skip) [c c1, c c2, L, eb k3, cr hd1, cr hd2, cr hC, eb e5] fol Tryz.func64 (by kernel_rfl) (fun xs w => Tryz.call64 xs w) (by kernel_rfl)
 ·have k4 : s2.toList.isEmpty = true := by rw [← k3]; cases s2.toList <;> rfl
  rw [k4]
  exact walk (code := Tryz.f64.body.getD .skip) [c c1, c c2, L, eb k3] fol Tryz.func64 (by kernel_rfl) (fun xs w => Tryz.call64 xs w) (by kernel_rfl)
theorem rCheckQ (q : Rat) (hq : Fits q) : Sp Tryz.prog 64 [] [rV q] (.bool true) [] := by
 have := rCheck (sg q.num) (mg q.num) (sg (dn q)) (mg (dn q)) hq.mn hq.md
 rw [okRat_of] at this
 exact this
theorem pCeil (p : Rat) (hp : Fits p) : Sp Tryz.prog 137 [] [rV p] (iV p.ceil) [] := by
 rw [Rat.ceil_eq_neg_floor_neg]
 exact walk (code := Tryz.f137.body.getD .skip) [c (pNeg p), c (pFloor (-p) hp.neg), c (iNegate (-p).floor)] fol Tryz.func137 (by kernel_rfl) (fun xs w => Tryz.call137 xs w) (by kernel_rfl)
theorem pMin (p q : Rat) (hp : Fits p) (hq : Fits q) : Sp Tryz.prog 118 [] [rV p, rV q] (rV (if p ≤ q then p else q)) [] := by
 have h := pCompare p q hp hq
 by_cases hle : p ≤ q
 ·rw [if_pos hle]
  exact walk (code := Tryz.f118.body.getD .skip) [c h, eb (show decide (cmpQ p q ≤ 0) = true by rw [decide_eq_true_iff]; unfold cmpQ; by_cases a : p < q; rw [if_pos a]; omega; rw [if_neg a, if_pos (Rat.le_antisymm hle (Rat.not_lt.1 a))]; omega)] fol Tryz.func118 (by kernel_rfl) (fun xs w => Tryz.call118 xs w) (by kernel_rfl)
 ·rw [if_neg hle]
  have hlt := Rat.not_le.1 hle
  exact walk (code := Tryz.f118.body.getD .skip) [c h, eb (show decide (cmpQ p q ≤ 0) = false by rw [decide_eq_false_iff_not]; unfold cmpQ; rw [if_neg (fun a => hle (Rat.le_of_lt a)), if_neg (fun a : p = q => hle (by rw [a]; exact Rat.le_refl))]; omega)] fol Tryz.func118 (by kernel_rfl) (fun xs w => Tryz.call118 xs w) (by kernel_rfl)
theorem pMax (p q : Rat) (hp : Fits p) (hq : Fits q) : Sp Tryz.prog 117 [] [rV p, rV q] (rV (if q ≤ p then p else q)) [] := by
 have h := pCompare p q hp hq
 by_cases hle : q ≤ p
 ·rw [if_pos hle]
  exact walk (code := Tryz.f117.body.getD .skip) [c h, eb (show decide (cmpQ p q ≥ 0) = true by rw [decide_eq_true_iff]; unfold cmpQ; rw [if_neg (Rat.not_lt.2 hle)]; split <;> omega)] fol Tryz.func117 (by kernel_rfl) (fun xs w => Tryz.call117 xs w) (by kernel_rfl)
 ·rw [if_neg hle]
  have hlt := Rat.not_le.1 hle
  exact walk (code := Tryz.f117.body.getD .skip) [c h, eb (show decide (cmpQ p q ≥ 0) = false by rw [decide_eq_false_iff_not]; unfold cmpQ; rw [if_pos hlt]; omega)] fol Tryz.func117 (by kernel_rfl) (fun xs w => Tryz.call117 xs w) (by kernel_rfl)
end Go.Proofs.YtcbbcmiennjfhaaGreatDoor
set_option linter.unusedSimpArgs false
set_option linter.unusedVariables false
namespace Go.Proofs.YtcbbcmiennjfhaaGreatDoor
open Go Go.RowKit Go.Sy
open Vi
def bV (n : Nat) : Value := .int .u8 n
theorem bin_rem8 (x y : Nat) (hx : x < 256) (hy : 0 < y) : Bin .rem 5 (bV x) (bV y) (bV (x % y)) := by
 intro ox oy w
 have e : (y : Int) ≠ 0 := by omega
 show (Op.intDiv .rem .u8 (x : Int) (y : Int)).run Tryz.prog w = _
 unfold Op.intDiv
 rw [if_neg e]
 show Result.ok (Value.int .u8 ((x : Int).tmod (y : Int))) w = _
 rw [Int.tmod_eq_emod_of_nonneg (by omega), ← Int.natCast_emod]
 rfl
theorem bin_cat (s t : ByteArray) (h : s.size + t.size ≤ 9223372036854775807) : Bin .add 9 (.string s) (.string t) (.string (s ++ t)) := by
 intro ox oy w
 simp [go_sem]
 omega
theorem mag_shift (n : Nat) (h : 0 < n) : mag n ++ ⟨#[0]⟩ = mag (n * 256) := by
 have e : dig 256 (n * 256) = 0 :: dig 256 n := by
  rw [dig_pos 256 (n * 256) (by omega) (by omega), Nat.mul_mod_left, Nat.mul_div_cancel _ (by decide)]
 unfold mag
 rw [e]
 apply ByteArray.ext
 simp
theorem mg_shift (z : Int) (h : z ≠ 0) : mg z ++ ⟨#[0]⟩ = mg (z * 256) := by
 unfold mg
 rw [mag_shift _ (Int.natAbs_pos.2 h), Int.natAbs_mul]
 rfl
theorem sg_shift (z : Int) : sg (z * 256) = sg z := by
 unfold sg
 by_cases h : z < 0
 ·simp [h]; omega
 ·simp [h]; omega
theorem bin_shift (z : Int) (h : z ≠ 0) (hs : (mg z).size ≤ 4294967296) : Bin .add 9 (.string (mg z)) (.string ⟨#[0]⟩) (.string (mg (z * 256))) := by
 rw [← mg_shift z h]
 exact bin_cat _ _ (by show (mg z).size + 1 ≤ _; omega)
theorem w8 {z : Nat} (h : z < 256) : IntKind.u8.wrap z = z := by
 show ((z : Int) % 256) = z
 omega
def stF (fr : List (Nat × Value)) (F : List Value) (b : Bool) (n : Int) (b' : Bool) (d : Int) : St :=
 ⟨47, 0, [(1, ptr 0 0), (2, ptr 1 0), (4, ptr 2 0), (5, ptr 3 0)] ++ fr, junk, [(0, blk 41 F), (1, blk 28 [.bool false, .string ⟨#[]⟩, .bool false, .string ⟨#[]⟩]), (2, blk 26 [.bool b, .string (mg n)]), (3, blk 26 [.bool b', .string (mg d)])], 4⟩
theorem z256 (n : Int) (h : n ≠ 0) (i : Nat) : n * 256 ^ i ≠ 0 := Int.mul_ne_zero h (Int.pow_ne_zero (by omega))
theorem sz256 (n : Int) (i : Nat) (h : (mg n).size ≤ 8) (hi : i ≤ 8) : (mg (n * 256 ^ i)).size ≤ 16 := by
 rw [mg_nd] at *
 refine nd_le 256 (by omega) _ 16 ?_
 have h1 := lt_pow_nd 256 (by omega) n.natAbs
 have h2 := Nat.pow_le_pow_right (show 0 < 256 by omega) h
 rw [Int.natAbs_mul, Int.natAbs_pow]
 have h3 := Nat.pow_le_pow_right (show 0 < 256 by omega) hi
 have h4 : n.natAbs < 256 ^ 8 := by omega
 have h5 : n.natAbs * 256 ^ i < 256 ^ 8 * 256 ^ 8 := Nat.mul_lt_mul_of_lt_of_le h4 h3 (Nat.pow_pos (by omega))
 rw [← Nat.pow_add] at h5
 exact h5
theorem lss8 (i u : Nat) {b : Bool} (h : decide (i < u) = b) : decide ((i : Int) < (u : Int)) = b := by rw [← h]; simp
theorem up_loop (n0 d0 : Int) (up dw : Nat) (hu : up < 256) (b b' : Bool) (n d : Int) (h0 : n ≠ 0) (hn : (mg n).size ≤ 8) : ∀ m i, i + m = up % 9 →
    RoundsOk Tryz.prog (nthLoop 0 (Tryz.f21.body.getD .skip)) (stF [(6, bV i)] [nV n0, nV d0, bV up, bV dw] b (n * 256 ^ i) b' d) (.exit 0) (stF [] [nV n0, nV d0, bV up, bV dw] b (n * 256 ^ (up % 9)) b' d)
 | 0, i, hi => by
  have e1 : decide ((i : Int) < ((up % 9 : Nat) : Int)) = false := lss8 _ _ (by simp; omega)
  have e2 : i = up % 9 := by omega
  have hr := bin_rem8 up 9 hu (by omega)
  rw [← e2] at hr e1 ⊢
  obtain ⟨z, hzz⟩ : ∃ z, z = n * 256 ^ i := ⟨_, rfl⟩
  rw [← hzz]
  exact .out (by simp) (piece [(0, 0), (1, 1), (2, 2), (3, 3)] [x2 hr, eb e1] fol (by kernel_rfl))
 | m + 1, i, hi => by
  have e1 : decide ((i : Int) < ((up % 9 : Nat) : Int)) = true := lss8 _ _ (by simp; omega)
  have hr := bin_rem8 up 9 hu (by omega)
  have hz := z256 n h0 i
  have hs := sz256 n i hn (by omega)
  have ih := up_loop n0 d0 up dw hu b b' n d h0 hn m (i + 1) (by omega)
  rw [show n * 256 ^ (i + 1) = n * 256 ^ i * 256 by rw [Int.pow_succ, Int.mul_assoc]] at ih
  have e3 : (!((mg (n * 256 ^ i)).toList == [])) = true := by rw [mg_eq0]; simpa using hz
  have e4 : IntKind.u8.wrap ((i : Int) + 1) = ((i + 1 : Nat) : Int) := by
   rw [← w8 (show i + 1 < 256 by omega)]; rfl
  obtain ⟨u9, hu9⟩ : ∃ z, z = up % 9 := ⟨_, rfl⟩
  obtain ⟨z, hzz⟩ : ∃ z, z = n * 256 ^ i := ⟨_, rfl⟩
  obtain ⟨i1, hi1⟩ : ∃ z, z = i + 1 := ⟨_, rfl⟩
  rw [← hu9] at hr e1 ih ⊢
  rw [← hzz] at hz hs ih e3 ⊢
  rw [← hi1] at e4 ih
  exact .more (piece [(0, 0), (1, 1), (2, 2), (3, 3)] [x2 hr, eb e1, eb e3, x2 (bin_shift z hz (by omega)), e (congrArg (Value.int .u8) e4)] fol (by kernel_rfl)) ih
theorem up_zero (n0 d0 : Int) (up dw : Nat) (hu : up < 256) (b b' : Bool) (d : Int) :
    RoundsOk Tryz.prog (nthLoop 0 (Tryz.f21.body.getD .skip)) (stF [(6, bV 0)] [nV n0, nV d0, bV up, bV dw] b 0 b' d) (.exit 0) (stF [] [nV n0, nV d0, bV up, bV dw] b 0 b' d) := by
 have hr := bin_rem8 up 9 hu (by omega)
 have e3 : (!((mg 0).toList == [])) = false := by rw [mg_eq0]; rfl
 obtain ⟨u, hu⟩ : ∃ u, u = up % 9 := ⟨_, rfl⟩
 rw [← hu] at hr
 cases e1 : decide (((0 : Nat) : Int) < (u : Int))
 ·exact .out (by simp) (piece [(0, 0), (1, 1), (2, 2), (3, 3)] [x2 hr, eb e1] fol (by kernel_rfl))
 ·exact .out (by simp) (piece [(0, 0), (1, 1), (2, 2), (3, 3)] [x2 hr, eb e1, eb e3] fol (by kernel_rfl))
theorem dw_loop (n0 d0 : Int) (up dw : Nat) (hu : dw < 256) (b b' : Bool) (n d : Int) (h0 : d ≠ 0) (hn : (mg d).size ≤ 8) : ∀ m i, i + m = dw % 9 →
    RoundsOk Tryz.prog (nthLoop 1 (Tryz.f21.body.getD .skip)) (stF [(7, bV i)] [nV n0, nV d0, bV up, bV dw] b n b' (d * 256 ^ i)) (.exit 2) (stF [] [nV n0, nV d0, bV up, bV dw] b n b' (d * 256 ^ (dw % 9)))
 | 0, i, hi => by
  have e1 : decide ((i : Int) < ((dw % 9 : Nat) : Int)) = false := lss8 _ _ (by simp; omega)
  have e2 : i = dw % 9 := by omega
  have hr := bin_rem8 dw 9 hu (by omega)
  rw [← e2] at hr e1 ⊢
  obtain ⟨z, hzz⟩ : ∃ z, z = d * 256 ^ i := ⟨_, rfl⟩
  rw [← hzz]
  exact .out (by simp) (piece [(0, 0), (1, 1), (2, 2), (3, 3)] [x2 hr, eb e1] fol (by kernel_rfl))
 | m + 1, i, hi => by
  have e1 : decide ((i : Int) < ((dw % 9 : Nat) : Int)) = true := lss8 _ _ (by simp; omega)
  have hr := bin_rem8 dw 9 hu (by omega)
  have hz := z256 d h0 i
  have hs := sz256 d i hn (by omega)
  have ih := dw_loop n0 d0 up dw hu b b' n d h0 hn m (i + 1) (by omega)
  rw [show d * 256 ^ (i + 1) = d * 256 ^ i * 256 by rw [Int.pow_succ, Int.mul_assoc]] at ih
  have e4 : IntKind.u8.wrap ((i : Int) + 1) = ((i + 1 : Nat) : Int) := by
   rw [← w8 (show i + 1 < 256 by omega)]; rfl
  obtain ⟨u9, hu9⟩ : ∃ z, z = dw % 9 := ⟨_, rfl⟩
  obtain ⟨z, hzz⟩ : ∃ z, z = d * 256 ^ i := ⟨_, rfl⟩
  obtain ⟨i1, hi1⟩ : ∃ z, z = i + 1 := ⟨_, rfl⟩
  rw [← hu9] at hr e1 ih ⊢
  rw [← hzz] at hz hs ih ⊢
  rw [← hi1] at e4 ih
  exact .more (piece [(0, 0), (1, 1), (2, 2), (3, 3)] [x2 hr, eb e1, x2 (bin_shift z hz (by omega)), e (congrArg (Value.int .u8) e4)] fol (by kernel_rfl)) ih
def fracQ (n d : Int) (up dw : Nat) : Rat := Rat.divInt (n * 256 ^ (up % 9)) ((if d = 0 then 1 else d) * 256 ^ (dw % 9))
theorem sg256 (n : Int) : ∀ i, sg (n * 256 ^ i) = sg n
 | 0 => by rw [Int.pow_zero, Int.mul_one]
 | i + 1 => by rw [Int.pow_succ, ← Int.mul_assoc, sg_shift, sg256 n i]
theorem vRat (n d : Int) (up dw : Nat) (n1 : -9223372036854775808 ≤ n) (n2 : n ≤ 9223372036854775807) (d1 : -9223372036854775808 ≤ d) (d2 : d ≤ 9223372036854775807) (hu : up < 256) (hw : dw < 256) :
    Sp Tryz.prog 21 [] [.agg #[nV n, nV d, bV up, bV dw]] (rV (fracQ n d up dw)) [] := by
 unfold fracQ
 obtain ⟨e, he⟩ : ∃ e, e = if d = 0 then 1 else d := ⟨_, rfl⟩
 have e0 : e ≠ 0 := by rw [he]; split <;> omega
 have e1 : -9223372036854775808 ≤ e := by rw [he]; split <;> omega
 have e2 : e ≤ 9223372036854775807 := by rw [he]; split <;> omega
 have sn := s64 n n1 n2
 have se := s64 e e1 e2
 have hI := rInt n n1 n2
 have hJ := rInt e e1 e2
 have z1 := sz256 n (up % 9) sn (by omega)
 have z2 := sz256 e (dw % 9) se (by omega)
 have hM := rMake (n * 256 ^ (up % 9)) (e * 256 ^ (dw % 9)) (z256 e e0 _) (by rw [mg_nd] at z1; omega) (by rw [mg_nd] at z2; omega)
 have hl2 := (dw_loop n d up dw hw (sg n) (sg e) (n * 256 ^ (up % 9)) e e0 se (dw % 9) 0 (by omega)).loop
 have hl1 : CodeOk Tryz.prog (.loop (nthLoop 0 (Tryz.f21.body.getD .skip))) (stF [(6, bV 0)] [nV n, nV d, bV up, bV dw] (sg n) n (sg e) e) (.exit 0) (stF [] [nV n, nV d, bV up, bV dw] (sg n) (n * 256 ^ (up % 9)) (sg e) e) := by
  by_cases h0 : n = 0
  ·subst h0
   have := (up_zero 0 d up dw hu (sg 0) (sg e) e).loop
   rw [Int.zero_mul]
   exact this
  ·have := (up_loop n d up dw hu (sg n) (sg e) n e h0 sn (up % 9) 0 (by omega)).loop
   rw [Int.pow_zero, Int.mul_one] at this
   exact this
 rw [Int.pow_zero, Int.mul_one] at hl2
 rw [← he]
 have g1 := sg256 n (up % 9)
 have g2 := sg256 e (dw % 9)
 obtain ⟨N, hN⟩ : ∃ N, N = n * 256 ^ (up % 9) := ⟨_, rfl⟩
 obtain ⟨D, hD⟩ : ∃ D, D = e * 256 ^ (dw % 9) := ⟨_, rfl⟩
 rw [← hN] at g1 hl1 hl2 hM ⊢
 rw [← hD] at g2 hl2 hM ⊢
 unfold iV at hM
 rw [g1, g2] at hM
 by_cases h0 : d = 0
 ·rw [if_pos h0] at he
  subst h0 he
  exact walk (code := Tryz.f21.body.getD .skip) [c hI, c hJ, lp [(0, 0), (1, 1), (2, 2), (3, 3)] hl1, lp [(0, 0), (1, 1), (2, 2), (3, 3)] hl2, c hM] fol Tryz.func21 (by kernel_rfl) (fun xs w => Tryz.call21 xs w) (by kernel_rfl)
 ·rw [if_neg h0] at he
  subst he
  have h3 : decide (e = 0) = false := decide_eq_false e0
  exact walk (code := Tryz.f21.body.getD .skip) [eb h3, c hI, c hJ, lp [(0, 0), (1, 1), (2, 2), (3, 3)] hl1, lp [(0, 0), (1, 1), (2, 2), (3, 3)] hl2, c hM] fol Tryz.func21 (by kernel_rfl) (fun xs w => Tryz.call21 xs w) (by kernel_rfl)
end Go.Proofs.YtcbbcmiennjfhaaGreatDoor
set_option linter.unusedSimpArgs false
set_option linter.unusedVariables false
namespace Go.Proofs.YtcbbcmiennjfhaaGreatDoor
open Go Go.RowKit Go.Sy
open Vi
theorem sz_one (k : Nat) : Sz (k + 1) (1 : Rat) := by
 have h : 1 < 256 ^ (k + 1) := by rw [Nat.pow_succ]; have := Nat.pow_pos (n := k) (show 0 < 256 by decide); omega
 exact ⟨h, h⟩
theorem one_div_inv (x : Rat) : (1 : Rat) / x = x⁻¹ := by rw [Rat.div_def, Rat.one_mul]
theorem inv_sz {x : Rat} {k : Nat} (h : 0 < x) (hx : Sz k x) : Sz k x⁻¹ := by
 obtain ⟨i1, i2⟩ := inv_pos_parts x h
 exact ⟨by rw [i1, Int.natAbs_natCast]; exact hx.2, by rw [i2]; exact hx.1⟩
theorem sub_sz {x : Rat} {n : Int} {k : Nat} (h0 : 0 ≤ n) (h : (n : Rat) ≤ x) (hx : Sz k x) : Sz k (x - (n : Rat)) := by
 obtain ⟨i1, i2⟩ := sub_int n x
 refine ⟨?_, by rw [i2]; exact hx.2⟩
 rw [i1]
 have h1 := (Rat.le_iff _ _).1 h
 simp at h1
 have h2 : 0 ≤ n * (x.den : Int) := Int.mul_nonneg h0 (by omega)
 have := hx.1
 omega
theorem int_sz {n : Int} {k : Nat} (h : n.natAbs < 256 ^ (k + 1)) : Sz (k + 1) (n : Rat) := ⟨h, (sz_one k).2⟩
theorem pow_up (k : Nat) : 256 ^ (k + 1) = 256 ^ k * 256 := Nat.pow_succ ..
theorem cmpQ_cases (p q : Rat) : (cmpQ p q = -1 ∧ p < q) ∨ (cmpQ p q = 0 ∧ p = q) ∨ (cmpQ p q = 1 ∧ q < p) := by
 unfold cmpQ
 by_cases h : p < q
 ·exact .inl ⟨by rw [if_pos h], h⟩
 ·by_cases h2 : p = q
  ·exact .inr (.inl ⟨by rw [if_neg h, if_pos h2], h2⟩)
  ·exact .inr (.inr ⟨by rw [if_neg h, if_neg h2], Rat.lt_of_le_of_ne (Rat.not_lt.1 h) (fun e => h2 e.symm)⟩)
theorem sgn_cases (p : Rat) : (cmpI p.num 0 = -1 ∧ p < 0) ∨ (cmpI p.num 0 = 0 ∧ p = 0) ∨ (cmpI p.num 0 = 1 ∧ 0 < p) := by
 have h1 : p.num < 0 ↔ p < 0 := by
  rw [← Int.not_le, Rat.num_nonneg, Rat.not_le]
 unfold cmpI
 by_cases h : p.num < 0
 ·exact .inl ⟨by rw [if_pos h], h1.1 h⟩
 ·by_cases h2 : p.num = 0
  ·exact .inr (.inl ⟨by rw [if_neg h, if_pos h2], Rat.num_eq_zero.1 h2⟩)
  ·refine .inr (.inr ⟨by rw [if_neg h, if_neg h2], Rat.lt_of_le_of_ne (Rat.not_lt.1 (fun h3 => h (h1.2 h3))) (fun e => h2 (by rw [← e]; rfl))⟩)
theorem pI (n : Int) (h1 : -9223372036854775808 ≤ n) (h2 : n ≤ 9223372036854775807) : Sp Tryz.prog 112 [] [nV n] (rV (n : Rat)) [] := pFromInt n h1 h2
theorem pAddI (n m : Int) (hn : Fits (n : Rat)) (hm : Fits (m : Rat)) : Sp Tryz.prog 101 [] [rV (n : Rat), rV (m : Rat)] (rV ((n + m : Int) : Rat)) [] := by
 have := pAdd (n : Rat) (m : Rat) hn hm
 rw [← Rat.intCast_add] at this
 exact this
theorem pInv (x : Rat) (h0 : x ≠ 0) (hx : Fits x) : Sp Tryz.prog 113 [] [rV ((1 : Int) : Rat), rV x] (.tuple #[rV x⁻¹, nV 0]) [] := by
 have := pDiv ((1 : Int) : Rat) x h0 Fits.one hx
 rw [show (((1 : Int) : Rat) / x) = x⁻¹ from one_div_inv x] at this
 exact this
theorem pSimp (k : Nat) (hk : k ≤ 130000) : ∀ (N : Nat) (a b : Rat) (oa ob : Bool), a.den + b.den ≤ N → Sz k a → Sz k b → 0 ≤ a → (a < b ∨ (a = b ∧ oa = false ∧ ob = false)) →
    ∃ q, Best a b oa ob q ∧ Sp Tryz.prog 84 [] [rV a, rV b, .bool oa, .bool ob] (rV q) []
 | 0, a, b, oa, ob, hN, _, _, _, _ => by have := a.den_nz; omega
 | N + 1, a, b, oa, ob, hN, ha, hb, ha0, hab => by
  obtain ⟨n, hn⟩ : ∃ n : Int, n = a.floor := ⟨_, rfl⟩
  have hna : (n : Rat) ≤ a := by rw [hn]; exact Rat.floor_le a
  have hn0 : 0 ≤ n := by rw [hn]; exact Rat.le_floor_iff.2 ha0
  have hnx : a < ((n + 1 : Int) : Rat) := by rw [hn]; exact Rat.lt_floor_add_one a
  have hle : a ≤ b := by
   rcases hab with h | ⟨h, _⟩
   ·exact Rat.le_of_lt h
   ·rw [h]; exact Rat.le_refl
  have hns : n.natAbs < 256 ^ k := by
   have h1 := (Rat.le_iff _ _).1 hna
   simp at h1
   have h2 : n * 1 ≤ n * (a.den : Int) := Int.mul_le_mul_of_nonneg_left (by have := a.den_nz; omega) hn0
   have := ha.1
   omega
  have szn : Sz (k + 1) (n : Rat) := int_sz (by rw [pow_up]; omega)
  have szx : Sz (k + 1) ((n + 1 : Int) : Rat) := int_sz (by rw [pow_up]; have := Nat.pow_pos (n := k) (show 0 < 256 by decide); omega)
  have F1 : Fits ((1 : Int) : Rat) := Fits.one
  have H1 : Sp Tryz.prog 136 [] [rV a] (iV n) [] := hn ▸ pFloor a (ha.fits (by omega))
  have H2 := pI 1 (by omega) (by omega)
  have H3 := pAddI n 1 (szn.fits (by omega)) F1
  have H4 := pCompare ((n + 1 : Int) : Rat) b (szx.fits (by omega)) (hb.fits (by omega))
  by_cases c1 : (n : Rat) = a ∧ oa = false
  ·obtain ⟨e1, e2⟩ := c1
   refine ⟨a, ?_, ?_⟩
   ·subst e2
    refine best_left a b ob ha0 (by rw [← e1]; rfl) ⟨.inr ⟨rfl, rfl⟩, ?_⟩
    rcases hab with h | ⟨h1, _, h3⟩
    ·exact .inl h
    ·exact .inr ⟨h3, h1⟩
   ·subst e2
    exact walk (code := Tryz.f84.body.getD .skip) [c H1, x2 (binR1 (n : Rat) a (b := true) (by rw [decide_eq_true e1]))] fol Tryz.func84 (by kernel_rfl) (fun xs w => Tryz.call84 xs w) (by kernel_rfl)
  have hoa : (n : Rat) = a → oa = true := fun e => by
   cases oa
   ·exact absurd ⟨e, rfl⟩ c1
   ·rfl
  by_cases c2 : ((n + 1 : Int) : Rat) < b ∨ (ob = false ∧ ((n + 1 : Int) : Rat) = b)
  ·refine ⟨((n + 1 : Int) : Rat), best_next a b oa ob n hn0 hna c1 ⟨.inl hnx, c2⟩, ?_⟩
   have hcm : cmpQ ((n + 1 : Int) : Rat) b = -1 ∨ (cmpQ ((n + 1 : Int) : Rat) b = 0 ∧ ob = false) := by
    rcases cmpQ_cases ((n + 1 : Int) : Rat) b with ⟨h1, h2⟩ | ⟨h1, h2⟩ | ⟨h1, h2⟩
    ·exact .inl h1
    ·refine .inr ⟨h1, ?_⟩
     rcases c2 with h | h
     ·rw [h2] at h; exact absurd h Rat.lt_irrefl
     ·exact h.1
    ·exfalso
     rcases c2 with h | h
     ·exact Rat.lt_irrefl (lt_of_lt_of_le' h (Rat.le_of_lt h2))
     ·rw [h.2] at h2; exact Rat.lt_irrefl h2
   by_cases e : (n : Rat) = a
   ·have hx := binR1 (n : Rat) a (b := true) (by rw [decide_eq_true e])
    rw [hoa e]
    rcases hcm with h1 | ⟨h1, rfl⟩ <;> rw [h1] at H4
    ·exact walk (code := Tryz.f84.body.getD .skip) [c H1, x2 hx, c H2, c H3, c H4] fol Tryz.func84 (by kernel_rfl) (fun xs w => Tryz.call84 xs w) (by kernel_rfl)
    ·exact walk (code := Tryz.f84.body.getD .skip) [c H1, x2 hx, c H2, c H3, c H4] fol Tryz.func84 (by kernel_rfl) (fun xs w => Tryz.call84 xs w) (by kernel_rfl)
   ·have hx := binR1 (n : Rat) a (b := false) (by rw [decide_eq_false e])
    rcases hcm with h1 | ⟨h1, rfl⟩ <;> rw [h1] at H4
    ·exact walk (code := Tryz.f84.body.getD .skip) [c H1, x2 hx, c H2, c H3, c H4] fol Tryz.func84 (by kernel_rfl) (fun xs w => Tryz.call84 xs w) (by kernel_rfl)
    ·exact walk (code := Tryz.f84.body.getD .skip) [c H1, x2 hx, c H2, c H3, c H4] fol Tryz.func84 (by kernel_rfl) (fun xs w => Tryz.call84 xs w) (by kernel_rfl)
  have hbx : b ≤ ((n + 1 : Int) : Rat) := by
   rw [← Rat.not_lt]; exact fun h => c2 (.inl h)
  have hnb : (n : Rat) < b := by
   refine Rat.lt_of_le_of_ne (Rat.le_trans hna hle) fun e => ?_
   have e2 : a = b := Rat.le_antisymm hle (by rw [← e]; exact hna)
   rcases hab with h | ⟨h1, h2, _⟩
   ·rw [e2] at h; exact Rat.lt_irrefl h
   ·exact c1 ⟨by rw [e, h1], h2⟩
  have pd : 0 < b - (n : Rat) := (Rat.lt_iff_sub_pos _ _).1 hnb
  have szd : Sz k (b - (n : Rat)) := sub_sz hn0 (Rat.le_of_lt hnb) hb
  have pl : 0 < (b - (n : Rat))⁻¹ := inv_pos_of pd
  have szl : Sz k ((b - (n : Rat))⁻¹) := inv_sz pd szd
  obtain ⟨d, hd⟩ : ∃ d, d = b - (n : Rat) := ⟨_, rfl⟩
  obtain ⟨l, hl⟩ : ∃ l, l = (b - (n : Rat))⁻¹ := ⟨_, rfl⟩
  have H5 := pSub b (n : Rat) (hb.fits (by omega)) (szn.fits (by omega))
  rw [← hd] at pd szd H5
  have H6 := pInv d (Rat.ne_of_gt pd) (szd.fits (by omega))
  rw [hd, ← hl] at H6
  rw [← hl] at pl szl
  rw [← hd] at H6
  have hcmp : cmpQ ((n + 1 : Int) : Rat) b = 1 ∨ (cmpQ ((n + 1 : Int) : Rat) b = 0 ∧ ob = true) := by
   rcases cmpQ_cases ((n + 1 : Int) : Rat) b with ⟨h1, h2⟩ | ⟨h1, h2⟩ | ⟨h1, h2⟩
   ·exact absurd (.inl h2) c2
   ·refine .inr ⟨h1, ?_⟩
    cases ob
    ·exact absurd (.inr ⟨rfl, h2⟩) c2
    ·rfl
   ·exact .inl h1
  by_cases e : (n : Rat) = a
  ·have ho := hoa e
   subst ho
   have hx := binR1 (n : Rat) a (b := true) (by rw [decide_eq_true e])
   have hbest := best_edge a b ob n hn0 e hnb
   rw [← hl] at hbest
   obtain ⟨M, hM⟩ : ∃ M : Int, M = leastU l ob := ⟨_, rfl⟩
   rw [← hM] at hbest
   have hMU := leastU_in l ob
   rw [← hM] at hMU
   have pM : 0 < (M : Rat) := by
    rcases hMU with h | ⟨_, h⟩
    ·exact lt_of_le_of_lt' (Rat.le_of_lt pl) h
    ·rw [← h]; exact pl
   have pM' : 0 < M := Rat.intCast_pos.1 pM
   have hceil : l.ceil ≤ l.num := Rat.ceil_le_iff.2 (by
    rw [Rat.le_iff]; simp
    have h1 := num_pos_of l pl
    have h3 : l.num * 1 ≤ l.num * l.den := Int.mul_le_mul_of_nonneg_left (by have := l.den_nz; omega) (by omega)
    omega)
   have hMle : M ≤ l.num + 1 := by
    rw [hM]; unfold leastU
    split <;> omega
   have szM : Sz (k + 1) (M : Rat) := int_sz (by rw [pow_up]; have := szl.1; omega)
   have hc0 : 0 ≤ l.ceil := by
    have h1 := Rat.le_trans (Rat.le_of_lt pl) (@Rat.le_ceil l)
    exact Rat.intCast_nonneg.1 h1
   have szc : Sz (k + 1) (l.ceil : Rat) := int_sz (by rw [pow_up]; have := szl.1; omega)
   obtain ⟨r, hr2⟩ : ∃ r, r = (M : Rat)⁻¹ := ⟨_, rfl⟩
   have szr : Sz (k + 1) r := by rw [hr2]; exact inv_sz pM szM
   rw [← hr2] at hbest
   refine ⟨_, hbest, ?_⟩
   have H7 := pCeil l (szl.fits (by omega))
   have HD := pInv (M : Rat) (Rat.ne_of_gt pM) (szM.fits (by omega))
   rw [← hr2] at HD
   have HA := pAdd (n : Rat) r (szn.fits (by omega)) (szr.fits (by omega))
   have hcm : cmpQ ((n + 1 : Int) : Rat) b = 1 ∨ cmpQ ((n + 1 : Int) : Rat) b = 0 := hcmp.imp id (·.1)
   by_cases el : (l.ceil : Rat) = l
   ·have hy := binR1 (l.ceil : Rat) l (b := true) (by rw [decide_eq_true el])
    cases hob : ob
    ·have hMc : M = l.ceil := by rw [hM]; unfold leastU; rw [hob]; simp
     rw [hMc] at HD
     rcases hcmp with h1 | ⟨_, h2⟩
     ·rw [h1] at H4
      exact walk (code := Tryz.f84.body.getD .skip) [c H1, x2 hx, c H2, c H3, c H4, c H2, c H5, c H6, x2 hx, c H7, x2 hy, c H2, c HD, c HA] fol Tryz.func84 (by kernel_rfl) (fun xs w => Tryz.call84 xs w) (by kernel_rfl)
     ·rw [hob] at h2; cases h2
    ·have hMc : M = l.ceil + 1 := by rw [hM]; unfold leastU; rw [if_pos ⟨el, hob⟩]
     have H8 := pAddI l.ceil 1 (szc.fits (by omega)) F1
     rw [← hMc] at H8
     rcases hcm with h1 | h1 <;> rw [h1] at H4
     ·exact walk (code := Tryz.f84.body.getD .skip) [c H1, x2 hx, c H2, c H3, c H4, c H2, c H5, c H6, x2 hx, c H7, x2 hy, c H2, c H8, c H2, c HD, c HA] fol Tryz.func84 (by kernel_rfl) (fun xs w => Tryz.call84 xs w) (by kernel_rfl)
     ·exact walk (code := Tryz.f84.body.getD .skip) [c H1, x2 hx, c H2, c H3, c H4, c H2, c H5, c H6, x2 hx, c H7, x2 hy, c H2, c H8, c H2, c HD, c HA] fol Tryz.func84 (by kernel_rfl) (fun xs w => Tryz.call84 xs w) (by kernel_rfl)
   ·have hy := binR1 (l.ceil : Rat) l (b := false) (by rw [decide_eq_false el])
    have hMc : M = l.ceil := by rw [hM]; unfold leastU; rw [if_neg (fun h => el h.1)]
    rw [hMc] at HD
    rcases hcmp with h1 | ⟨h1, rfl⟩ <;> rw [h1] at H4
    ·exact walk (code := Tryz.f84.body.getD .skip) [c H1, x2 hx, c H2, c H3, c H4, c H2, c H5, c H6, x2 hx, c H7, x2 hy, c H2, c HD, c HA] fol Tryz.func84 (by kernel_rfl) (fun xs w => Tryz.call84 xs w) (by kernel_rfl)
    ·exact walk (code := Tryz.f84.body.getD .skip) [c H1, x2 hx, c H2, c H3, c H4, c H2, c H5, c H6, x2 hx, c H7, x2 hy, c H2, c HD, c HA] fol Tryz.func84 (by kernel_rfl) (fun xs w => Tryz.call84 xs w) (by kernel_rfl)
  ·
   have hx := binR1 (n : Rat) a (b := false) (by rw [decide_eq_false e])
   have hna2 : (n : Rat) < a := Rat.lt_of_le_of_ne hna e
   have pf : 0 < a - (n : Rat) := (Rat.lt_iff_sub_pos _ _).1 hna2
   have szf : Sz k (a - (n : Rat)) := sub_sz hn0 hna ha
   have szg : Sz k ((a - (n : Rat))⁻¹) := inv_sz pf szf
   have pg : 0 < (a - (n : Rat))⁻¹ := inv_pos_of pf
   have hsub : a < b → a - (n : Rat) < b - (n : Rat) := fun h => by
    rw [Rat.sub_eq_add_neg, Rat.sub_eq_add_neg]; exact Rat.add_lt_add_right.2 h
   have hden : l.den + ((a - (n : Rat))⁻¹).den ≤ N := by
    obtain ⟨_, j2⟩ := inv_pos_parts _ (hd ▸ pd)
    obtain ⟨_, i2⟩ := inv_pos_parts _ pf
    obtain ⟨m1, m2⟩ := sub_int n b
    obtain ⟨o1, o2⟩ := sub_int n a
    rw [hl, j2, i2, m1, o1]
    have t1 := (Rat.le_iff _ _).1 hbx
    have t2 := (Rat.lt_iff _ _).1 hnx
    have t3 := (Rat.lt_iff _ _).1 hnb
    have t4 := (Rat.lt_iff _ _).1 hna2
    simp only [Rat.num_intCast, Rat.den_intCast, Int.add_mul, Int.one_mul] at t1 t2 t3 t4
    omega
   have hlg : l < (a - (n : Rat))⁻¹ ∨ (l = (a - (n : Rat))⁻¹ ∧ ob = false ∧ oa = false) := by
    rcases hab with h | ⟨h1, h2, h3⟩
    ·left; rw [hl]; exact inv_lt pf (hsub h)
    ·right; exact ⟨by rw [hl, h1], h3, h2⟩
   obtain ⟨f, hf⟩ : ∃ f, f = a - (n : Rat) := ⟨_, rfl⟩
   obtain ⟨g, hg⟩ : ∃ g, g = (a - (n : Rat))⁻¹ := ⟨_, rfl⟩
   have H7 := pSub a (n : Rat) (ha.fits (by omega)) (szn.fits (by omega))
   rw [← hf] at H7
   have H8 := pInv f (by rw [hf]; exact Rat.ne_of_gt pf) (by rw [hf]; exact szf.fits (by omega))
   rw [hf, ← hg, ← hf] at H8
   rw [← hg] at szg pg hden hlg
   obtain ⟨s, hs, H9⟩ := pSimp k hk N l g ob oa hden szl szg (Rat.le_of_lt pl) hlg
   have ps : 0 < s := lt_of_lt_of_le' pl hs.1.ge.1
   have szs := best_sz _ _ _ _ s hs k szl szg
   have H10 := pInv s (Rat.ne_of_gt ps) (szs.fits (by omega))
   obtain ⟨r, hr2⟩ : ∃ r, r = s⁻¹ := ⟨_, rfl⟩
   have szr : Sz (k + 1) r := by rw [hr2]; exact (inv_sz ps szs).mono (by omega)
   rw [← hr2] at H10
   have H11 := pAdd (n : Rat) r (szn.fits (by omega)) (szr.fits (by omega))
   have hbest := best_inner a b oa ob n hn0 hna2 hnb s (by rw [← hl, ← hg]; exact hs)
   rw [← hr2] at hbest
   refine ⟨_, hbest, ?_⟩
   rcases hcmp with h1 | ⟨h1, rfl⟩ <;> rw [h1] at H4
   ·exact walk (code := Tryz.f84.body.getD .skip) [c H1, x2 hx, c H2, c H3, c H4, c H2, c H5, c H6, x2 hx, c H2, c H7, c H8, c H2, c H9, c H10, c H11] fol Tryz.func84 (by kernel_rfl) (fun xs w => Tryz.call84 xs w) (by kernel_rfl)
   ·exact walk (code := Tryz.f84.body.getD .skip) [c H1, x2 hx, c H2, c H3, c H4, c H2, c H5, c H6, x2 hx, c H2, c H7, c H8, c H2, c H9, c H10, c H11] fol Tryz.func84 (by kernel_rfl) (fun xs w => Tryz.call84 xs w) (by kernel_rfl)
end Go.Proofs.YtcbbcmiennjfhaaGreatDoor
