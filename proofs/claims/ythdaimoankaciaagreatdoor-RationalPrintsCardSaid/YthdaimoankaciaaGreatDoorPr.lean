import Derived.Test.YthdaimoankaciaaGreatDoorQp
/- The reference's Print and Parse; chapter 2's law about them. -/
set_option linter.unusedSimpArgs false
set_option linter.unusedVariables false
namespace Go.Proofs.YthdaimoankaciaaGreatDoor
open Go Go.RowKit Go.Sy
open Vi
theorem conv_byte (b : Nat) (hb : b < 256) (x : Value) (w : World) (h : RowW w x 1 [bV b]) : (convert 157 9 x).run Tryz.prog w = .ok (.string ⟨#[UInt8.ofNat b]⟩) w := by
 obtain ⟨_, h⟩ := h
 rcases h with ⟨_, h, _⟩ | ⟨g, c, rfl, hc, hm, hg, h⟩
 ·cases h
 ·rcases h with h | ⟨cs, ty, fz, h1, h2⟩
  ·cases h
  ·have h0 := convG w g 1 c (fun _ => b) (fun i hi => by
     obtain rfl : i = 0 := by omega
     have h3 : cs.toList[0]? = some (bV b) := by
      rw [show cs.toList[0]? = (cs.toList.take 1)[0]? by rw [List.getElem?_take]; simp]
      rw [show (cs.toList.take 1) = [bV b] from h2]; rfl
     simp only [World.cell?, h1]
     simpa [bV] using h3)
   exact h0
def stD (X : Nat) (s : ByteArray) : St := ⟨34, 1, [(0, row 1 (nd 256 X)), (3, .string s)], junk, [(1, rws (rD X).1 (rD X).2)], 2⟩
def stD1 (s : ByteArray) : St := ⟨34, 1, [(3, .string s)], junk, [], 1⟩
theorem dTen (x : Nat) (hx : nd 256 x ≤ 1048576) : Sp Tryz.prog 143 [rD x, (1, [nV 10])] [row 0 (nd 256 x), row 1 1] (.tuple #[row 2 (nd 256 (x / 10)), row 3 (nd 256 (x % 10))]) [rD (x / 10), rD (x % 10)] := by
 have := dDivide x 10 (by omega) hx (by rw [nd_small 10 (by omega) (by omega)]; omega)
 rw [nd_small 10 (by omega) (by omega), rD_small 10 (by omega) (by omega)] at this
 exact this
theorem dec_loop : ∀ (m X : Nat) (l : List UInt8), X ≤ m → nd 256 X ≤ 131000 → l.length + (decS X).length ≤ 4294967296 →
    RoundsOk Tryz.prog (nthLoop 0 (Tryz.f132.body.getD .skip)) (stD X ⟨l.toArray⟩) (.exit 0) (stD1 ⟨(decS X ++ l).toArray⟩)
 | m, X, l, hm, hX, hl => by
  by_cases h0 : X = 0
  ·subst h0
   have e : decide ((nd 256 0 : Int) > 0) = false := by rw [nd_zero]; rfl
   rw [decS_zero, List.nil_append]
   refine .out (by simp) ?_
   unfold stD stD1
   exact piece [] [] fol (by kernel_rfl)
  ·have e : decide ((nd 256 X : Int) > 0) = true := by
     have := nd_pos 256 (by omega) X (by omega)
     simpa using this
   have D := dTen X (by omega)
   have hr : X % 10 < 10 := Nat.mod_lt _ (by omega)
   have hS := dSmall (X % 10) (nd_le 256 (by omega) _ 7 (by have : (256 : Nat) ^ 7 = 72057594037927936 := by decide
                                                            omega))
   have hq : nd 256 (X / 10) ≤ 131000 := Nat.le_trans (nd_mono 256 (by omega) _ X (by omega)) hX
   match m, hm with
   | 0, hm => omega
   | m + 1, hm =>
    have ih := dec_loop m (X / 10) (UInt8.ofNat (48 + X % 10) :: l) (by omega) hq (by
     rw [decS_pos X (by omega), List.length_append, List.length_singleton] at hl
     rw [List.length_cons]; omega)
    have e2 : decS (X / 10) ++ (UInt8.ofNat (48 + X % 10) :: l) = decS X ++ l := by
     rw [decS_pos X (by omega), List.append_assoc]; rfl
    rw [e2] at ih
    have hw : IntKind.i64.wrap ((48 : Int) + (X % 10 : Nat)) = ((48 + X % 10 : Nat) : Int) := by
     rw [w64 (by omega) (by omega)]; omega
    have hw8 : IntKind.u8.wrap ((48 + X % 10 : Nat) : Int) = ((48 + X % 10 : Nat) : Int) := w8 (by omega)
    have hcat := bin_cat ⟨#[UInt8.ofNat (48 + X % 10)]⟩ ⟨l.toArray⟩ (by show 1 + l.length ≤ _; omega)
    rw [catB] at hcat
    have hcv : ∀ (x : Value) (w : World), RowW w x ((1, [bV (48 + X % 10)]) : Nat × List Value).1 ((1, [bV (48 + X % 10)]) : Nat × List Value).2 → (convert 157 9 x).run Tryz.prog w = .ok (.string ⟨#[UInt8.ofNat (48 + X % 10)]⟩) w := fun x w h => conv_byte (48 + X % 10) (by omega) x w h
    generalize UInt8.ofNat (48 + X % 10) = B at *
    generalize 48 + X % 10 = b at *
    generalize X / 10 = q at *
    generalize X % 10 = r at *
    refine .more ?_ ih
    unfold stD
    exact piece [(1, 3)] [eb e, cr D, cr hS, Go.Sy.e (congrArg (Value.int IntKind.i64) hw), Go.Sy.e (congrArg (Value.int IntKind.u8) hw8), cvr hcv, x2 hcat] fol (by kernel_rfl)
def decQ (X : Nat) : ByteArray := if X = 0 then ⟨#[48]⟩ else ⟨(decS X).toArray⟩
theorem dDecimal (X : Nat) (hX : nd 256 X ≤ 131000) : Sp Tryz.prog 132 [rD X] [row 0 (nd 256 X)] (.string (decQ X)) [] := by
 unfold decQ
 by_cases h0 : X = 0
 ·subst h0
  have e : decide ((nd 256 0 : Int) = 0) = true := by rw [nd_zero]; rfl
  rw [if_pos rfl]
  exact walk (code := Tryz.f132.body.getD .skip) [] fol Tryz.func132 (by kernel_rfl) (fun xs w => Tryz.call132 xs w) (by kernel_rfl)
 ·have e : decide ((nd 256 X : Int) = 0) = false := by
    have := nd_pos 256 (by omega) X (by omega)
    simp; omega
  rw [if_neg h0]
  have hlen := decS_len X 131000 (by rw [size_mag]; exact hX)
  have hl := (dec_loop X X [] (Nat.le_refl _) hX (by simp; omega)).loop
  rw [List.append_nil] at hl
  exact walk (code := Tryz.f132.body.getD .skip) [eb e, lp [(1, 0)] hl] fol Tryz.func132 (by kernel_rfl) (fun xs w => Tryz.call132 xs w) (by kernel_rfl)
theorem rPrint (p : Rat) (hp : Fits p) : Sp Tryz.prog 78 [] [rV p] (.string (printQ p)) [] := by
 have p1 := hp.1
 have hd1 := dDig p.num (by have := hp.mn; omega)
 have hd2 := dDig (dn p) (by have := hp.md; omega)
 have D1 := dDecimal p.num.natAbs p1
 have n2 : nd 256 (dn p).natAbs ≤ 131000 := by rw [← mg_nd]; exact hp.md
 have D2 := dDecimal (dn p).natAbs n2
 have z1 := decS_len p.num.natAbs 131000 (by rw [size_mag]; exact p1)
 have z2 := decS_len (dn p).natAbs 131000 (by rw [size_mag]; exact n2)
 have q1 : (decQ p.num.natAbs).size ≤ 400000 := by
  unfold decQ; split
  ·decide
  ·show (decS p.num.natAbs).length ≤ _; omega
 have q2 : (decQ (dn p).natAbs).size ≤ 400000 := by
  unfold decQ; split
  ·decide
  ·show (decS (dn p).natAbs).length ≤ _; omega
 have e1 : printS p.num = if sg p.num = true then (⟨#[45]⟩ : ByteArray) ++ decQ p.num.natAbs else decQ p.num.natAbs := by
  unfold printS decQ sg
  by_cases h0 : p.num = 0
  ·rw [if_pos h0, h0]; rfl
  ·have ha : ¬ p.num.natAbs = 0 := by omega
   rw [if_neg h0, if_neg ha]
   by_cases hn : p.num < 0
   ·rw [if_pos hn, if_pos (by simpa using hn), catB]
   ·rw [if_neg hn, if_neg (by simpa using hn)]
 have e2 : dn p ≠ 0 → printS (dn p) = decQ (dn p).natAbs := fun h => by
  unfold printS decQ
  have := dn_nonneg p
  rw [if_neg h, if_neg (by omega), if_neg (by omega)]
 have em := mg_eq0 (dn p)
 unfold printQ
 rw [e1]
 clear e1
 have s0 : ∀ q : Rat, rV q = .agg #[.bool (sg q.num), .string (mg q.num), .bool (sg (dn q)), .string (mg (dn q))] := fun q => rfl
 have i0 : ∀ z : Int, iV z = .agg #[.bool (sg z), .string (mg z)] := fun z => rfl
 cases hs : sg p.num
 ·by_cases h : dn p = 0
  ·rw [if_pos h, if_neg (by simp)]
   have e3 : (!((mg (dn p)).toList == (⟨#[]⟩ : ByteArray).toList)) = false := by rw [show (⟨#[]⟩ : ByteArray).toList = [] from by kernel_rfl, em, h]; rfl
   rw [i0, hs] at hd1
   rw [s0, hs]
   generalize decQ p.num.natAbs = t1 at *
   clear hs em e2 z1 z2
   rw [i0] at hd2
   clear i0 s0
   exact walk (code := Tryz.f78.body.getD .skip) [cr hd1, cr D1, eb e3] fol Tryz.func78 (by kernel_rfl) (fun xs w => Tryz.call78 xs w) (by kernel_rfl)
  ·rw [if_neg h, e2 h, if_neg (by simp)]
   have e3 : (!((mg (dn p)).toList == (⟨#[]⟩ : ByteArray).toList)) = true := by rw [show (⟨#[]⟩ : ByteArray).toList = [] from by kernel_rfl, em]; simp [h]
   rw [i0, hs] at hd1
   rw [s0, hs]
   have c1 := bin_cat (decQ p.num.natAbs) ⟨#[47]⟩ (by show (decQ p.num.natAbs).size + 1 ≤ _; omega)
   have c2 := bin_cat (decQ p.num.natAbs ++ ⟨#[47]⟩) (decQ (dn p).natAbs) (by rw [ByteArray.size_append]; show (decQ p.num.natAbs).size + 1 + (decQ (dn p).natAbs).size ≤ _; omega)
   generalize decQ p.num.natAbs = t1 at *
   generalize decQ (dn p).natAbs = t2 at *
   clear hs em e2 z1 z2
   rw [i0] at hd2
   clear i0 s0
   exact walk (code := Tryz.f78.body.getD .skip) [cr hd1, cr D1, eb e3, x2 c1, cr hd2, cr D2, x2 c2] fol Tryz.func78 (by kernel_rfl) (fun xs w => Tryz.call78 xs w) (by kernel_rfl)
 ·have c0 := bin_cat ⟨#[45]⟩ (decQ p.num.natAbs) (by show 1 + (decQ p.num.natAbs).size ≤ _; omega)
  by_cases h : dn p = 0
  ·rw [if_pos h, if_pos rfl]
   have e3 : (!((mg (dn p)).toList == (⟨#[]⟩ : ByteArray).toList)) = false := by rw [show (⟨#[]⟩ : ByteArray).toList = [] from by kernel_rfl, em, h]; rfl
   rw [i0, hs] at hd1
   rw [s0, hs]
   generalize decQ p.num.natAbs = t1 at *
   clear hs em e2 z1 z2
   rw [i0] at hd2
   clear i0 s0
   exact walk (code := Tryz.f78.body.getD .skip) [cr hd1, cr D1, x2 c0, eb e3] fol Tryz.func78 (by kernel_rfl) (fun xs w => Tryz.call78 xs w) (by kernel_rfl)
  ·rw [if_neg h, e2 h, if_pos rfl]
   have e3 : (!((mg (dn p)).toList == (⟨#[]⟩ : ByteArray).toList)) = true := by rw [show (⟨#[]⟩ : ByteArray).toList = [] from by kernel_rfl, em]; simp [h]
   rw [i0, hs] at hd1
   rw [s0, hs]
   have c1 := bin_cat (⟨#[45]⟩ ++ decQ p.num.natAbs) ⟨#[47]⟩ (by rw [ByteArray.size_append]; show 1 + (decQ p.num.natAbs).size + 1 ≤ _; omega)
   have c2 := bin_cat (⟨#[45]⟩ ++ decQ p.num.natAbs ++ ⟨#[47]⟩) (decQ (dn p).natAbs) (by rw [ByteArray.size_append, ByteArray.size_append]; show 1 + (decQ p.num.natAbs).size + 1 + (decQ (dn p).natAbs).size ≤ _; omega)
   generalize decQ p.num.natAbs = t1 at *
   generalize decQ (dn p).natAbs = t2 at *
   clear hs em e2 z1 z2
   rw [i0] at hd2
   clear i0 s0
   exact walk (code := Tryz.f78.body.getD .skip) [cr hd1, cr D1, x2 c0, eb e3, x2 c1, cr hd2, cr D2, x2 c2] fol Tryz.func78 (by kernel_rfl) (fun xs w => Tryz.call78 xs w) (by kernel_rfl)
end Go.Proofs.YthdaimoankaciaaGreatDoor
