/- Part 1 of the proof; what it holds is said text by text. -/
import Derived.Test.YtlblfgbpogljoaaGreatDoorQbL
set_option linter.unusedSimpArgs false
set_option linter.unusedVariables false
section
/- Contracts for the reckoner: integers; digits as rows. -/
namespace Go.Proofs.YtlblfgbpogljoaaGreatDoor
open Go Go.RowKit Go.Sy
open Vi
section
variable {f : FuncId}
end
end Go.Proofs.YtlblfgbpogljoaaGreatDoor
namespace Go.Proofs.YtlblfgbpogljoaaGreatDoor
open Go Go.RowKit Go.Sy
open Vi
end Go.Proofs.YtlblfgbpogljoaaGreatDoor
namespace Go.Proofs.YtlblfgbpogljoaaGreatDoor
open Go Go.RowKit Go.Sy
open Vi
end Go.Proofs.YtlblfgbpogljoaaGreatDoor
namespace Go.Proofs.YtlblfgbpogljoaaGreatDoor
open Go Go.RowKit
open Vi
end Go.Proofs.YtlblfgbpogljoaaGreatDoor
namespace Go.Proofs.YtlblfgbpogljoaaGreatDoor
open Go Go.RowKit Go.Sy
open Vi
theorem sgd_not (b : Bool) (x : Nat) : sgd (!(b == true)) x = -sgd b x := by
 unfold sgd
 cases b <;> simp
theorem rDiv (p q : Rat) (h0 : q ≠ 0) (hp : Fits p) (hq : Fits q) : Sp Tryz.prog 19 [] [rV p, rV q] (rV (p / q)) [] := by
 obtain ⟨p1, p2⟩ := hp
 obtain ⟨q1, q2⟩ := hq
 have h1 := nd_mul p.num.natAbs q.den
 have h2 := nd_mul p.den q.num.natAbs
 have hqn : q.num ≠ 0 := fun h => h0 (Rat.num_eq_zero.1 h)
 have hd : 0 < p.den * q.num.natAbs := Nat.mul_pos (by have := p.den_nz; omega) (by omega)
 have e : p / q = Rat.divInt (sgd (!(sg p.num == sg q.num)) (p.num.natAbs * q.den)) (p.den * q.num.natAbs : Nat) := by
  rw [div_of]
  rw [sgd_den p.num q.den]
  cases hs : sg q.num
  ·have h3 : ((p.den * q.num.natAbs : Nat) : Int) = (p.den : Int) * q.num := by
     have : 0 ≤ q.num := by unfold sg at hs; simpa using hs
     rw [Int.natCast_mul]; congr 1; omega
   rw [h3]
   congr 1
   cases sg p.num <;> rfl
  ·have h3 : ((p.den * q.num.natAbs : Nat) : Int) = -((p.den : Int) * q.num) := by
     have : q.num < 0 := by unfold sg at hs; simpa using hs
     rw [Int.natCast_mul, ← Int.mul_neg]; congr 1; omega
   rw [h3, sgd_not]
   exact (neg_of _ _).symm
 rw [e]
 exact walk (code := Tryz.f19.body.getD .skip) [cr (fOf p ⟨p1, p2⟩), cr (fOf q ⟨q1, q2⟩), cr (dTimes p.num.natAbs q.den (by omega) (by omega)), cr (dTimes p.den q.num.natAbs (by omega) (by omega)), cr (fCan (!(sg p.num == sg q.num)) (p.num.natAbs * q.den) (p.den * q.num.natAbs) hd (by omega) (by omega))] fol Tryz.func19 (by kernel_rfl) (fun xs w => Tryz.call19 xs w) (by kernel_rfl)
end Go.Proofs.YtlblfgbpogljoaaGreatDoor
namespace Go.Proofs.YtlblfgbpogljoaaGreatDoor
open Go Go.RowKit Go.Sy
open Vi
end Go.Proofs.YtlblfgbpogljoaaGreatDoor
namespace Go.Proofs.YtlblfgbpogljoaaGreatDoor
open Go Go.RowKit Go.Sy
open Vi
end Go.Proofs.YtlblfgbpogljoaaGreatDoor
namespace Go.Proofs.YtlblfgbpogljoaaGreatDoor
open Go Go.RowKit Go.Sy
open Vi
end Go.Proofs.YtlblfgbpogljoaaGreatDoor
namespace Go.Proofs.YtlblfgbpogljoaaGreatDoor
open Go Go.RowKit Go.Sy
open Vi
end Go.Proofs.YtlblfgbpogljoaaGreatDoor
namespace Go.Proofs.YtlblfgbpogljoaaGreatDoor
open Go Go.RowKit Go.Sy
open Vi
end Go.Proofs.YtlblfgbpogljoaaGreatDoor

end
section
/- No program in sight: the roots of a function with small coefficients have at most 8 bytes a fraction. -/
namespace Go.Proofs.YtlblfgbpogljoaaGreatDoor
open Go Go.RowKit Go.Sy
open Vi RR
abbrev Cof (a : Rat) : Prop := a.num.natAbs ≤ 32768 ∧ a.den ≤ 256
theorem small_any (n d : Int) (hd : d ≠ 0) : (Rat.divInt n d).num.natAbs ≤ n.natAbs ∧ (Rat.divInt n d).den ≤ d.natAbs := by
 rcases (by omega : 0 < d ∨ d < 0) with h | h
 ·have := divInt_small n d.toNat (by omega)
  rw [show ((d.toNat : Nat) : Int) = d by omega] at this
  omega
 ·have e : Rat.divInt n d = Rat.divInt (-n) (-d) := (Rat.divInt_eq_divInt_iff hd (by omega)).2 (by grind)
  have := divInt_small (-n) (-d).toNat (by omega)
  rw [show (((-d).toNat : Nat) : Int) = -d by omega] at this
  rw [e]
  omega
theorem as_divInt {x : Rat} {N D : Int} (hD : D ≠ 0) (h : x * (D : Rat) = (N : Rat)) : x = Rat.divInt N D := by
 rw [Rat.divInt_eq_div, ← h]
 have : (D : Rat) ≠ 0 := by exact_mod_cast hD
 exact (Rat.mul_div_cancel this).symm
theorem bnd {x : Rat} {N D : Int} {X Y : Nat} (hD : D ≠ 0) (h : x * (D : Rat) = (N : Rat)) (hN : N.natAbs ≤ X) (hY : D.natAbs ≤ Y) : x.num.natAbs ≤ X ∧ x.den ≤ Y := by
 have := small_any N D hD
 rw [← as_divInt hD h] at this
 omega
theorem ab {x y : Int} {X Y : Nat} (hx : x.natAbs ≤ X) (hy : y.natAbs ≤ Y) : (x * y).natAbs ≤ X * Y := by rw [Int.natAbs_mul]; exact Nat.mul_le_mul hx hy
theorem half_bnd {b c h : Rat} (hb : Cof b) (hc : Cof c) (h0 : c ≠ 0) (eh : h = b / (-2 * c)) : h.num.natAbs ≤ 8388608 ∧ h.den ≤ 16777216 := by
 have n1 := rat_mul_den b
 have n2 := rat_mul_den c
 have hcn : c.num ≠ 0 := fun e => h0 (Rat.num_eq_zero.1 e)
 have hbd := b.den_nz
 have e : h * (-2 * c) = b := by rw [eh]; exact Rat.div_mul_cancel (by intro e; rcases Rat.mul_eq_zero.1 e with h | h; exact absurd h (by decide +kernel); exact h0 h)
 refine bnd (N := b.num * (c.den : Int)) (D := -2 * ((b.den : Int) * c.num)) ?_ ?_ (ab hb.1 (by rw [Int.natAbs_natCast]; exact hc.2)) ?_
 ·have : (b.den : Int) * c.num ≠ 0 := Int.mul_ne_zero (by omega) hcn
  omega
 ·rw [Rat.intCast_mul, Rat.intCast_mul, Rat.intCast_mul, ← n1, ← n2]
  show h * ((-2 : Int) * ((b.den : Rat) * (c * (c.den : Rat)))) = b * (b.den : Rat) * (c.den : Rat)
  rw [show (((-2 : Int)) : Rat) = -2 from rfl]
  generalize (b.den : Rat) = x at *
  generalize (c.den : Rat) = y at *
  rw [← e]
  grind
 ·exact ab (X := 2) (by decide) (ab (X := 256) (Y := 32768) (by rw [Int.natAbs_natCast]; exact hb.2) hc.1)
theorem disc_bnd {a b c h d : Rat} (ha : Cof a) (hb : Cof b) (hc : Cof c) (h0 : c ≠ 0) (eh : h = b / (-2 * c)) (ed : d = h * h - a / c) : d.num.natAbs ≤ 144115188075855872 ∧ d.den ≤ 72057594037927936 := by
 have n1 := rat_mul_den b
 have n2 := rat_mul_den c
 have n3 := rat_mul_den a
 have hcn : c.num ≠ 0 := fun e => h0 (Rat.num_eq_zero.1 e)
 have hbd := b.den_nz
 have had := a.den_nz
 have e : h * (-2 * c) = b := by rw [eh]; exact Rat.div_mul_cancel (by intro e; rcases Rat.mul_eq_zero.1 e with h | h; exact absurd h (by decide +kernel); exact h0 h)
 obtain ⟨g, hg⟩ : ∃ g, g = a / c := ⟨_, rfl⟩
 have eg : g * c = a := by rw [hg]; exact Rat.div_mul_cancel h0
 rw [← hg] at ed
 have hbb : (b.num * (c.den : Int)).natAbs ≤ 8388608 := ab (X := 32768) (Y := 256) hb.1 (by rw [Int.natAbs_natCast]; exact hc.2)
 have hbc : ((b.den : Int) * c.num).natAbs ≤ 8388608 := ab (X := 256) (Y := 32768) (by rw [Int.natAbs_natCast]; exact hb.2) hc.1
 refine bnd (N := b.num * (c.den : Int) * (b.num * (c.den : Int)) * (a.den : Int) - 4 * (a.num * (c.den : Int) * ((b.den : Int) * ((b.den : Int) * c.num)))) (D := 4 * ((b.den : Int) * c.num * ((b.den : Int) * c.num) * (a.den : Int))) ?_ ?_ ?_ ?_
 ·have h1 : (b.den : Int) * c.num ≠ 0 := Int.mul_ne_zero (by omega) hcn
  have h2 := Int.mul_ne_zero (Int.mul_ne_zero h1 h1) (show (a.den : Int) ≠ 0 by omega)
  omega
 ·rw [Rat.intCast_sub]
  simp only [Rat.intCast_mul]
  rw [← n1, ← n2, ← n3]
  show d * (((4 : Int) : Rat) * ((b.den : Rat) * (c * (c.den : Rat)) * ((b.den : Rat) * (c * (c.den : Rat))) * (a.den : Rat))) = b * (b.den : Rat) * (c.den : Rat) * (b * (b.den : Rat) * (c.den : Rat)) * (a.den : Rat) - ((4 : Int) : Rat) * (a * (a.den : Rat) * (c.den : Rat) * ((b.den : Rat) * ((b.den : Rat) * (c * (c.den : Rat)))))
  rw [show (((4 : Int)) : Rat) = 4 from rfl]
  generalize (b.den : Rat) = x at *
  generalize (c.den : Rat) = y at *
  generalize (a.den : Rat) = z at *
  rw [ed, ← e, ← eg]
  grind
 ·have h1 := ab (ab hbb hbb) (show (a.den : Int).natAbs ≤ 256 by rw [Int.natAbs_natCast]; exact ha.2)
  have h2 := ab (ab (X := 32768) (Y := 256) ha.1 (show (c.den : Int).natAbs ≤ 256 by rw [Int.natAbs_natCast]; exact hc.2)) (ab (X := 256) (show (b.den : Int).natAbs ≤ 256 by rw [Int.natAbs_natCast]; exact hb.2) hbc)
  generalize b.num * (c.den : Int) * (b.num * (c.den : Int)) * (a.den : Int) = u at *
  generalize a.num * (c.den : Int) * ((b.den : Int) * ((b.den : Int) * c.num)) = v at *
  omega
 ·have h1 := ab (ab hbc hbc) (show (a.den : Int).natAbs ≤ 256 by rw [Int.natAbs_natCast]; exact ha.2)
  generalize (b.den : Int) * c.num * ((b.den : Int) * c.num) * (a.den : Int) = u at *
  omega
theorem sqr_parts (w : Rat) : (w * w).num.natAbs = w.num.natAbs * w.num.natAbs ∧ (w * w).den = w.den * w.den := by
 have hc : Nat.Coprime (w.num * w.num).natAbs (w.den * w.den) := by
  rw [Int.natAbs_mul]
  exact Nat.Coprime.mul_left (Nat.Coprime.mul_right w.reduced w.reduced) (Nat.Coprime.mul_right w.reduced w.reduced)
 have e : w * w = ⟨w.num * w.num, w.den * w.den, Nat.mul_ne_zero w.den_nz w.den_nz, hc⟩ := by
  rw [Rat.mul_def, ← Rat.mk_eq_normalize]
 rw [e]; exact ⟨Int.natAbs_mul .., rfl⟩
theorem lt_of_sq {x y : Nat} (h : x * x < y * y) : x < y := Nat.lt_of_not_le fun g => Nat.not_le.2 h (Nat.mul_le_mul g g)
theorem sz8 {x : Rat} {X Y : Nat} (h : x.num.natAbs ≤ X ∧ x.den ≤ Y) (hX : X < 18446744073709551616 := by decide) (hY : Y < 18446744073709551616 := by decide) : HasSz x 8 := by
 have e : (256 : Nat) ^ 8 = 18446744073709551616 := by decide
 exact ⟨by rw [e]; omega, by rw [e]; omega⟩
theorem add_bnd {h w : Rat} (h1 : h.num.natAbs ≤ 8388608 ∧ h.den ≤ 16777216) (w1 : w.num.natAbs < 536870912 ∧ w.den < 536870912) : HasSz (h + w) 8 := by
 have n1 := rat_mul_den h
 have n2 := rat_mul_den w
 have d1 := h.den_nz
 have d2 := w.den_nz
 refine sz8 (bnd (N := h.num * (w.den : Int) + w.num * (h.den : Int)) (D := (h.den : Int) * (w.den : Int)) (X := 8388608 * 536870912 + 536870912 * 16777216) (Y := 16777216 * 536870912) (Int.mul_ne_zero (by omega) (by omega)) ?_ ?_ ?_)
 ·rw [Rat.intCast_add, Rat.intCast_mul, Rat.intCast_mul, Rat.intCast_mul, ← n1, ← n2]
  show (h + w) * ((h.den : Rat) * (w.den : Rat)) = h * (h.den : Rat) * (w.den : Rat) + w * (w.den : Rat) * (h.den : Rat)
  grind
 ·have h2 := ab (x := h.num) (y := (w.den : Int)) (X := 8388608) (Y := 536870912) h1.1 (by rw [Int.natAbs_natCast]; omega)
  have h3 := ab (x := w.num) (y := (h.den : Int)) (X := 536870912) (Y := 16777216) (by omega) (by rw [Int.natAbs_natCast]; omega)
  generalize h.num * (w.den : Int) = u at *
  generalize w.num * (h.den : Int) = v at *
  omega
 ·exact ab (x := (h.den : Int)) (y := (w.den : Int)) (by rw [Int.natAbs_natCast]; omega) (by rw [Int.natAbs_natCast]; omega)
theorem mk_sizes {h d : Rat} (h1 : h.num.natAbs ≤ 8388608 ∧ h.den ≤ 16777216) (d1 : d.num.natAbs ≤ 144115188075855872 ∧ d.den ≤ 72057594037927936) (s : Rat) (hs : s = 1 ∨ s = -1) : HasSz (mkR h s d).p 8 ∧ HasSz (mkR h s d).r 8 := by
 by_cases hw : ∃ w : Rat, 0 ≤ w ∧ w * w = d
 ·obtain ⟨w, w0, rfl⟩ := hw
  rw [mkR_sq _ _ _ w w0 rfl]
  obtain ⟨p1, p2⟩ := sqr_parts w
  rw [p1, p2] at d1
  have w1 : w.num.natAbs < 536870912 := lt_of_sq (by omega)
  have w2 : w.den < 536870912 := lt_of_sq (by omega)
  refine ⟨?_, hs_mono hz0 (by omega)⟩
  rcases hs with rfl | rfl
  ·show HasSz (h + 1 * w) 8
   rw [Rat.one_mul]; exact add_bnd h1 ⟨w1, w2⟩
  ·show HasSz (h + -1 * w) 8
   rw [show -1 * w = -w by grind]
   exact add_bnd h1 ⟨by rw [Rat.neg_num, Int.natAbs_neg]; exact w1, by rw [Rat.neg_den]; exact w2⟩
 ·unfold mkR
  rw [dif_neg hw]
  refine ⟨sz8 h1, ?_⟩
  show HasSz (s * s * d) 8
  rw [show s * s * d = d by rcases hs with rfl | rfl <;> grind]
  exact sz8 d1
theorem IsRoots.sizes {a b c : Rat} {l : List Rl} (h : IsRoots a b c l) (ha : Cof a) (hb : Cof b) (hc : Cof c) : ∀ x ∈ l, HasSz x.p 8 ∧ HasSz x.r 8 := by
 cases h with
 | const h => intro x hx; cases hx
 | lin h =>
  intro x hx
  rw [List.mem_singleton.1 hx]
  refine ⟨?_, hs_mono hz0 (by omega)⟩
  show HasSz (-(a / b)) 8
  haveI : HasSz a 2 := ⟨by have := ha.1; have e : (256 : Nat) ^ 2 = 65536 := by decide
                           omega, by have := ha.2; have e : (256 : Nat) ^ 2 = 65536 := by decide
                                     omega⟩
  haveI : HasSz b 2 := ⟨by have := hb.1; have e : (256 : Nat) ^ 2 = 65536 := by decide
                           omega, by have := hb.2; have e : (256 : Nat) ^ 2 = 65536 := by decide
                                     omega⟩
  haveI := hs_div a b 2 2 h
  exact hs_mono (⟨this.sz.neg⟩ : HasSz (-(a / b)) 4) (by omega)
 | no hc0 eh ed hd => intro x hx; cases hx
 | one hc0 eh ed hd =>
  intro x hx
  rw [List.mem_singleton.1 hx]
  exact ⟨sz8 (half_bnd hb hc hc0 eh), hs_mono hz0 (by omega)⟩
 | two hc0 eh ed hd =>
  intro x hx
  have h1 := half_bnd hb hc hc0 eh
  have d1 := disc_bnd ha hb hc hc0 eh ed
  simp only [List.mem_cons, List.not_mem_nil, or_false] at hx
  rcases hx with rfl | rfl
  ·exact mk_sizes h1 d1 _ (.inr rfl)
  ·exact mk_sizes h1 d1 _ (.inl rfl)
end Go.Proofs.YtlblfgbpogljoaaGreatDoor

end
section
/- Equality of structs, field by field; of bounds. -/
namespace Go.Sy
open Go Go.RowKit
section
variable {P : Program}
end
end Go.Sy
namespace Go.Proofs.YtlblfgbpogljoaaGreatDoor
open Go Go.RowKit Go.Sy
open Vi
theorem binS' {T : TypeId} {xs ys : Array Value} {q : Bool} (h : ∀ w, (Op.equalIn 10000 T (.agg xs) (.agg ys)).run Tryz.prog w = .ok q w) (hg : Tryz.prog.eqGuardType Tryz.prog.depth T = false) : Bin .neq T (.agg xs) (.agg ys) (.bool (!q)) := fun ox oy w => by
 rw [Sem.run_bind, run_eqGuard_agg _ _ _ _ _ _ _ hg, Result.andThen_ok, run_neq_struct, h]
 rfl
end Go.Proofs.YtlblfgbpogljoaaGreatDoor
namespace Go.Proofs.YtlblfgbpogljoaaGreatDoor
open Go Go.RowKit Go.Sy
open Vi
end Go.Proofs.YtlblfgbpogljoaaGreatDoor
namespace Go.Proofs.YtlblfgbpogljoaaGreatDoor
open Go Go.RowKit Go.Sy
open Vi
end Go.Proofs.YtlblfgbpogljoaaGreatDoor
namespace Go.Proofs.YtlblfgbpogljoaaGreatDoor
open Go Go.RowKit Go.Sy
open Vi
end Go.Proofs.YtlblfgbpogljoaaGreatDoor
namespace Go.Proofs.YtlblfgbpogljoaaGreatDoor
open Go Go.RowKit Go.Sy
open Vi
end Go.Proofs.YtlblfgbpogljoaaGreatDoor
namespace Go.Proofs.YtlblfgbpogljoaaGreatDoor
open Go Go.RowKit Go.Sy
open Vi
end Go.Proofs.YtlblfgbpogljoaaGreatDoor
namespace Go.Proofs.YtlblfgbpogljoaaGreatDoor
open Go Go.RowKit Go.Sy
open Vi
end Go.Proofs.YtlblfgbpogljoaaGreatDoor
namespace Go.Proofs.YtlblfgbpogljoaaGreatDoor
open Go Go.RowKit Go.Sy
open Vi
end Go.Proofs.YtlblfgbpogljoaaGreatDoor
namespace Go.Proofs.YtlblfgbpogljoaaGreatDoor
open Go Go.RowKit Go.Sy
open Vi
end Go.Proofs.YtlblfgbpogljoaaGreatDoor

end
section
/- The program's Check of fractions. -/
namespace Go.Proofs.YtlblfgbpogljoaaGreatDoor
open Go Go.RowKit Go.Sy
open Vi
end Go.Proofs.YtlblfgbpogljoaaGreatDoor
namespace Go.Proofs.YtlblfgbpogljoaaGreatDoor
open Go Go.RowKit Go.Sy
open Vi
end Go.Proofs.YtlblfgbpogljoaaGreatDoor
namespace Go.Proofs.YtlblfgbpogljoaaGreatDoor
open Go Go.RowKit Go.Sy
open Vi
theorem binL' (x y : Rl) {q : Bool} (e : (!(open Classical in decide (x = y))) = q) : Bin .neq 30 (rlV x) (rlV y) (.bool q) := by
 have h := binS' (T := 30) (fun w => eqL_run 9996 x y w) (by kernel_rfl)
 rw [e] at h
 exact h
theorem sameL' (x : Rl) : Bin .neq 30 (rlV x) (rlV x) (.bool false) := binL' x x (by simp)
def qZ : Value := .agg #[.bool false, .string ⟨#[]⟩, .bool false, .string ⟨#[]⟩, .bool false, .string ⟨#[]⟩, .bool false, .string ⟨#[]⟩, .bool false, .string ⟨#[]⟩, .bool false, .string ⟨#[]⟩]
theorem qV0 : qV 0 0 0 = qZ := by
 unfold qV qZ
 rw [show (0 : Rat).num = 0 from rfl, show dn 0 = 0 from rfl, sg0, mg0]
end Go.Proofs.YtlblfgbpogljoaaGreatDoor
namespace Go.Proofs.YtlblfgbpogljoaaGreatDoor
open Go Go.RowKit Go.Sy
open Vi
theorem rlC_rat (q : Rat) : rlC (Rl.rat q) = [.bool (sg q.num), .string (mg q.num), .bool (sg (dn q)), .string (mg (dn q)), .bool false, .string ⟨#[]⟩, .bool false, .string ⟨#[]⟩, .bool false] := by
 unfold rlC Rl.rat
 rw [show (0 : Rat).num = 0 from rfl, show dn 0 = 0 from rfl, sg0, mg0]
theorem qRoots0 : Sp Tryz.prog 108 [] [qZ] (.tuple #[.slice none 0 0, nV 6]) [] := by
 have B := binR0 0 (b := true) (by simp)
 rw [rV0] at B
 exact walk (code := Tryz.f108.body.getD .skip) [x2 B, x2 B, x2 B] fol Tryz.func108 (by kernel_rfl) (fun xs w => Tryz.call108 xs w) (by kernel_rfl)
end Go.Proofs.YtlblfgbpogljoaaGreatDoor
namespace Go.Proofs.YtlblfgbpogljoaaGreatDoor
open Go Go.RowKit Go.Sy
open Vi
end Go.Proofs.YtlblfgbpogljoaaGreatDoor
namespace Go.Proofs.YtlblfgbpogljoaaGreatDoor
open Go Go.RowKit Go.Sy
open Vi
end Go.Proofs.YtlblfgbpogljoaaGreatDoor
namespace Go.Proofs.YtlblfgbpogljoaaGreatDoor
open Go Go.RowKit Go.Sy
open Vi
end Go.Proofs.YtlblfgbpogljoaaGreatDoor

end
section
/- Reference 04: numbers with a root, functions and their values. -/
namespace Go.Proofs.YtlblfgbpogljoaaGreatDoor
open Go Go.RowKit Go.Sy
open Vi
theorem vDegree (a b c : Rat) : Sp Tryz.prog 40 [] [qV a b c] (nV (dgQ a b c)) [] := by
 unfold dgQ
 have S1 := rSgn c
 have S2 := rSgn b
 have S3 := rSgn a
 have e1 := sgQ_ne0 c
 have e2 := sgQ_ne0 b
 have e3 := sgQ_ne0 a
 generalize sgQ c = z1 at *
 generalize sgQ b = z2 at *
 generalize sgQ a = z3 at *
 by_cases h1 : c = 0
 ·rw [decide_eq_false (by simp [h1])] at e1
  rw [if_neg (by simp [h1])]
  by_cases h2 : b = 0
  ·rw [decide_eq_false (by simp [h2])] at e2
   rw [if_neg (by simp [h2])]
   by_cases h3 : a = 0
   ·rw [decide_eq_false (by simp [h3])] at e3
    rw [if_neg (by simp [h3])]
    clear h1 h2 h3
    exact walk (code := Tryz.f40.body.getD .skip) [Sy.c S1, eb e1, Sy.c S2, eb e2, Sy.c S3, eb e3] fol Tryz.func40 (by kernel_rfl) (fun xs w => Tryz.call40 xs w) (by kernel_rfl)
   ·rw [decide_eq_true h3] at e3
    rw [if_pos h3]
    clear h1 h2 h3
    exact walk (code := Tryz.f40.body.getD .skip) [Sy.c S1, eb e1, Sy.c S2, eb e2, Sy.c S3, eb e3] fol Tryz.func40 (by kernel_rfl) (fun xs w => Tryz.call40 xs w) (by kernel_rfl)
  ·rw [decide_eq_true h2] at e2
   rw [if_pos h2]
   clear h1 h2
   exact walk (code := Tryz.f40.body.getD .skip) [Sy.c S1, eb e1, Sy.c S2, eb e2] fol Tryz.func40 (by kernel_rfl) (fun xs w => Tryz.call40 xs w) (by kernel_rfl)
 ·rw [decide_eq_true h1] at e1
  rw [if_pos h1]
  clear h1
  exact walk (code := Tryz.f40.body.getD .skip) [Sy.c S1, eb e1] fol Tryz.func40 (by kernel_rfl) (fun xs w => Tryz.call40 xs w) (by kernel_rfl)
end Go.Proofs.YtlblfgbpogljoaaGreatDoor

end
section
/- The package quadratic: roots, parts of an interval. -/
namespace Go.Proofs.YtlblfgbpogljoaaGreatDoor
open Go Go.RowKit Go.Sy
open Vi
theorem uRoots0 : Sp Tryz.prog 39 [] [qZ] (.tuple #[.slice none 0 0, nV 6]) [] := by
 have R := qRoots0
 exact walk (code := Tryz.f39.body.getD .skip) [c R] fol Tryz.func39 (by kernel_rfl) (fun xs w => Tryz.call39 xs w) (by kernel_rfl)
theorem isRoots_ex (a b c : Rat) : (a = 0 ∧ b = 0 ∧ c = 0) ∨ ∃ l, IsRoots a b c l := by
 by_cases hc : c = 0
 ·subst hc
  by_cases hb : b = 0
  ·subst hb
   by_cases ha : a = 0
   ·exact .inl ⟨ha, rfl, rfl⟩
   ·exact .inr ⟨_, .const ha⟩
  ·exact .inr ⟨_, .lin hb⟩
 ·refine .inr ?_
  rcases (by grind : (b / (-2 * c)) * (b / (-2 * c)) - a / c < 0 ∨ (b / (-2 * c)) * (b / (-2 * c)) - a / c = 0 ∨ 0 < (b / (-2 * c)) * (b / (-2 * c)) - a / c) with h | h | h
  ·exact ⟨_, .no hc rfl rfl h⟩
  ·exact ⟨_, .one hc rfl rfl h⟩
  ·exact ⟨_, .two hc rfl rfl h⟩
end Go.Proofs.YtlblfgbpogljoaaGreatDoor

end
section
/- Reference 04: the sign between two instants; roots. -/
namespace Go.Proofs.YtlblfgbpogljoaaGreatDoor
open Go Go.RowKit Go.Sy
open Vi
def RRootsSp (a b c : Rat) : List Rl → Prop
 | [] => Sp Tryz.prog 41 [] [qV a b c] (.slice none 0 0) []
 | l => Sp Tryz.prog 41 [] [qV a b c] (row 0 l.length) [(l.length, rlsC l)]
theorem vRootsC (a : Rat) (h : a ≠ 0) : Sp Tryz.prog 41 [] [qV a 0 0] (.slice none 0 0) [] := by
 have D := vDegree a 0 0
 rw [show dgQ a 0 0 = 0 by unfold dgQ; simp [h]] at D
 clear h
 exact walk (code := Tryz.f41.body.getD .skip) [c D] fol Tryz.func41 (by kernel_rfl) (fun xs w => Tryz.call41 xs w) (by kernel_rfl)
theorem vRootsL (a b : Rat) (hb : b ≠ 0) {i j : Nat} [HasSz a i] [HasSz b j] (hs : i + j ≤ 300 := by first | omega | decide) : Sp Tryz.prog 41 [] [qV a b 0] (row 0 1) [(1, rlsC [Rl.rat (-(a / b))])] := by
 have D := vDegree a b 0
 rw [show dgQ a b 0 = 1 by unfold dgQ; simp [hb]] at D
 have Q := rDiv a b hb fz fz
 have N := rNeg (a / b)
 unfold rlsC rlsC
 rw [rlC_rat]
 clear hb hs
 generalize -(a / b) = t at *
 generalize a / b = u at *
 generalize (0 : Rat) = z at *
 exact walk (code := Tryz.f41.body.getD .skip) [c D, c Q, c N] fol Tryz.func41 (by kernel_rfl) (fun xs w => Tryz.call41 xs w) (by kernel_rfl)
theorem half2 {b c : Rat} (hc : c ≠ 0) : -(b / (2 * c)) = b / (-2 * c) := by
 have h2 : (2 : Rat) * c ≠ 0 := fun e => by rcases Rat.mul_eq_zero.1 e with h | h; exact absurd h (by decide +kernel); exact hc h
 obtain ⟨t, ht⟩ : ∃ t, t = b / (2 * c) := ⟨_, rfl⟩
 have e : b = t * (2 * c) := by rw [ht]; exact (Rat.div_mul_cancel h2).symm
 obtain ⟨u, hu⟩ : ∃ u, u = b / (-2 * c) := ⟨_, rfl⟩
 have e2 : b = u * (-2 * c) := by rw [hu]; exact (Rat.div_mul_cancel (m2_ne hc)).symm
 rw [← ht, ← hu]
 have e3 : (t + u) * c = 0 := by grind
 rcases Rat.mul_eq_zero.1 e3 with h | h
 ·grind
 ·exact absurd h hc
theorem vRootsQ (a b c h d : Rat) (hc : c ≠ 0) (eh : h = b / (-2 * c)) (ed : d = h * h - a / c) {i j k : Nat} [HasSz a i] [HasSz b j] [HasSz c k] (hs : i + j + k ≤ 300 := by first | omega | decide) :
    (d < 0 → Sp Tryz.prog 41 [] [qV a b c] (.slice none 0 0) []) ∧
    (d = 0 → Sp Tryz.prog 41 [] [qV a b c] (row 0 1) [(1, rlsC [Rl.rat h])]) ∧
    (0 < d → Sp Tryz.prog 41 [] [qV a b c] (row 0 2) [(2, rlsC [mkR h (-1) d, mkR h 1 d])]) := by
 have D := vDegree a b c
 rw [show dgQ a b c = 2 by unfold dgQ; simp [hc]] at D
 have T := rdV 2 1 2 (by decide +kernel) (by omega) (by omega) (by omega) (by omega) (by omega)
 have M := rMul 2 c fz fz
 have h2 : (2 : Rat) * c ≠ 0 := fun e => by rcases Rat.mul_eq_zero.1 e with h | h; exact absurd h (by decide +kernel); exact hc h
 have Q := rDiv b (2 * c) h2 fz fz
 haveI z0 := hs_div b (2 * c) _ _ h2
 have N := rNeg (b / (2 * c))
 have eh2 : -(b / (2 * c)) = h := by rw [eh]; exact half2 hc
 haveI z1 : HasSz h _ := eh2 ▸ (inferInstance : HasSz (-(b / (2 * c))) _)
 rw [eh2] at N
 have S := rMul h h fz fz
 haveI z2 := hs_div a c _ _ hc
 have Q2 := rDiv a c hc fz fz
 have U := rSub (h * h) (a / c) fz fz
 haveI z3 : HasSz d _ := ed ▸ (inferInstance : HasSz (h * h - a / c) _)
 rw [← ed] at U
 have G := rSgn d
 refine ⟨fun h0 => ?_, fun h0 => ?_, fun h0 => ?_⟩
 ·rw [sgQ_neg h0] at G
  clear z0 z1 z2 z3 hc eh ed h0 hs h2 eh2
  generalize b / (2 * c) = t0 at *
  generalize 2 * c = t1 at *
  generalize h * h = t2 at *
  generalize a / c = t3 at *
  generalize (2 : Rat) = t4 at *
  exact walk (code := Tryz.f41.body.getD .skip) [Sy.c D, Sy.c T, Sy.c M, Sy.c Q, Sy.c N, Sy.c S, Sy.c Q2, Sy.c U, Sy.c G] fol Tryz.func41 (by kernel_rfl) (fun xs w => Tryz.call41 xs w) (by kernel_rfl)
 ·subst h0
  rw [show sgQ 0 = 0 from rfl] at G
  unfold rlsC rlsC
  rw [rlC_rat]
  clear z0 z1 z2 z3 hc eh ed hs h2 eh2
  generalize b / (2 * c) = t0 at *
  generalize 2 * c = t1 at *
  generalize h * h = t2 at *
  generalize a / c = t3 at *
  generalize (2 : Rat) = t4 at *
  generalize (0 : Rat) = t5 at *
  exact walk (code := Tryz.f41.body.getD .skip) [Sy.c D, Sy.c T, Sy.c M, Sy.c Q, Sy.c N, Sy.c S, Sy.c Q2, Sy.c U, Sy.c G, Sy.c G] fol Tryz.func41 (by kernel_rfl) (fun xs w => Tryz.call41 xs w) (by kernel_rfl)
 ·rw [show sgQ d = 1 by unfold sgQ; rw [if_neg (by grind), if_neg (by grind)]] at G
  have K1 := vOfR h d true
  have K2 := vOfR h d false
  rw [show ofR h d true = mkR h (-1) d from rfl] at K1
  rw [show ofR h d false = mkR h 1 d from rfl] at K2
  clear z0 z1 z2 z3 hc eh ed h0 hs h2 eh2
  generalize mkR h (-1) d = y1 at *
  generalize mkR h 1 d = y2 at *
  generalize b / (2 * c) = t0 at *
  generalize 2 * c = t1 at *
  generalize h * h = t2 at *
  generalize a / c = t3 at *
  generalize (2 : Rat) = t4 at *
  obtain ⟨y1p, y1r, y1n⟩ := y1
  obtain ⟨y2p, y2r, y2n⟩ := y2
  exact walk (code := Tryz.f41.body.getD .skip) [Sy.c D, Sy.c T, Sy.c M, Sy.c Q, Sy.c N, Sy.c S, Sy.c Q2, Sy.c U, Sy.c G, Sy.c G, Sy.c K1, Sy.c K2] fol Tryz.func41 (by kernel_rfl) (fun xs w => Tryz.call41 xs w) (by kernel_rfl)
theorem vRoots (a b c : Rat) (l : List Rl) (h : IsRoots a b c l) {i j k : Nat} [HasSz a i] [HasSz b j] [HasSz c k] (hs : i + j + k ≤ 300 := by first | omega | decide) : RRootsSp a b c l := by
 cases h with
 | const h => exact vRootsC a h
 | lin h => exact vRootsL a b h (by omega)
 | no hc eh ed hd => exact (vRootsQ a b c _ _ hc eh ed hs).1 hd
 | one hc eh ed hd => exact (vRootsQ a b c _ _ hc eh ed hs).2.1 hd
 | two hc eh ed hd => exact (vRootsQ a b c _ _ hc eh ed hs).2.2 hd
end Go.Proofs.YtlblfgbpogljoaaGreatDoor

end
section
/- Signs and the reference's Parts give the parts. -/
namespace Go.Proofs.YtlblfgbpogljoaaGreatDoor
open Go Go.RowKit Go.Sy
open Vi
theorem IsRoots.deg {a b c : Rat} {l : List Rl} (h : IsRoots a b c l) : decide (dgQ a b c < 0) = false := by
 unfold dgQ
 cases h with
 | const h => simp [h]
 | lin h => simp [h]
 | no h => simp [h]
 | one h => simp [h]
 | two h => simp [h]
end Go.Proofs.YtlblfgbpogljoaaGreatDoor

end
section
/- Chapter 4's law about roots; what the other laws share. -/
namespace Go.Proofs.YtlblfgbpogljoaaGreatDoor
open Go Go.RowKit Go.Sy
open Vi
theorem cf_cof {n d : Int} (h : Cn n d) : Cof (cf n d) := ⟨(cf_small h).2, (cf_small h).1⟩
section
variable (n1 d1 n2 d2 n3 d3 : Int) (a b c : Rat) (K : Sp Tryz.prog 32 [] [] (.bool true) []) (Q : Sp Tryz.prog 29 [] [fnV n1 d1 n2 d2 n3 d3] (qV a b c) [])
include K Q
theorem lr_0 (dg : Int) (D : Sp Tryz.prog 40 [] [qV a b c] (nV dg) []) (ed : decide (dg < 0) = false) (R : Sp Tryz.prog 39 [] [qV a b c] (.tuple #[.slice none 0 0, nV 0]) []) (V : Sp Tryz.prog 41 [] [qV a b c] (.slice none 0 0) []) :
    Sp Tryz.prog 6 [] [fnV n1 d1 n2 d2 n3 d3] (.bool true) [] := by
 exact walk (code := Tryz.f6.body.getD .skip) [Sy.c Q, Sy.c R, Sy.c K, Sy.c D, eb ed, Sy.c V] fol Tryz.func6 (by kernel_rfl) (fun xs w => Tryz.call6 xs w) (by kernel_rfl)
theorem lr_1 (x : Rl) (dg : Int) (D : Sp Tryz.prog 40 [] [qV a b c] (nV dg) []) (ed : decide (dg < 0) = false) (R : Sp Tryz.prog 39 [] [qV a b c] (.tuple #[row 0 1, nV 0]) [(1, rlC x)]) (V : Sp Tryz.prog 41 [] [qV a b c] (row 0 1) [(1, rlC x)])
    (S : Sp Tryz.prog 37 [] [qV a b c, rlV x] (nV 0) []) :
    Sp Tryz.prog 6 [] [fnV n1 d1 n2 d2 n3 d3] (.bool true) [] := by
 have x1 := sameL' x
 obtain ⟨xp, xr, xn⟩ := x
 exact walk (code := Tryz.f6.body.getD .skip) [Sy.c Q, cr R, Sy.c K, Sy.c D, eb ed, cr V, L, L, L, x2 x1, Sy.c S] fol Tryz.func6 (by kernel_rfl) (fun xs w => Tryz.call6 xs w) (by kernel_rfl)
theorem lr_2 (x y : Rl) (dg k : Int) (D : Sp Tryz.prog 40 [] [qV a b c] (nV dg) []) (ed : decide (dg < 0) = false) (R : Sp Tryz.prog 39 [] [qV a b c] (.tuple #[row 0 2, nV 0]) [(2, rlC x ++ rlC y)]) (V : Sp Tryz.prog 41 [] [qV a b c] (row 0 2) [(2, rlC x ++ rlC y)])
    (S : Sp Tryz.prog 37 [] [qV a b c, rlV x] (nV 0) []) (S2 : Sp Tryz.prog 37 [] [qV a b c, rlV y] (nV 0) []) (C : Sp Tryz.prog 42 [] [rlV x, rlV y] (nV k) []) (ek : decide (k ≥ 0) = false) :
    Sp Tryz.prog 6 [] [fnV n1 d1 n2 d2 n3 d3] (.bool true) [] := by
 have x1 := sameL' x
 have x2 := sameL' y
 obtain ⟨xp, xr, xn⟩ := x
 obtain ⟨yp, yr, yn⟩ := y
 exact walk (code := Tryz.f6.body.getD .skip) [Sy.c Q, cr R, Sy.c K, Sy.c D, eb ed, cr V, L, L, L, Sy.x2 x1, Sy.c S, L, L, L, L, Sy.x2 x2, Sy.c S2, Sy.c C, eb ek] fol Tryz.func6 (by kernel_rfl) (fun xs w => Tryz.call6 xs w) (by kernel_rfl)
end
theorem lr_z (n1 d1 n2 d2 n3 d3 : Int) (K : Sp Tryz.prog 32 [] [] (.bool true) []) (Q : Sp Tryz.prog 29 [] [fnV n1 d1 n2 d2 n3 d3] qZ []) (D : Sp Tryz.prog 40 [] [qZ] (nV (-1)) []) :
    Sp Tryz.prog 6 [] [fnV n1 d1 n2 d2 n3 d3] (.bool true) [] := by
 have R := uRoots0
 exact walk (code := Tryz.f6.body.getD .skip) [c Q, c R, c K, c D] fol Tryz.func6 (by kernel_rfl) (fun xs w => Tryz.call6 xs w) (by kernel_rfl)
theorem vDegreeZ : Sp Tryz.prog 40 [] [qZ] (nV (-1)) [] := by
 have D := vDegree 0 0 0
 rwa [qV0, show dgQ 0 0 0 = -1 by decide +kernel] at D
theorem QuadraticRoots_s (n1 d1 n2 d2 n3 d3 : Int) (h1 : Cn n1 d1) (h2 : Cn n2 d2) (h3 : Cn n3 d3) : Sp Tryz.prog 6 [] [fnV n1 d1 n2 d2 n3 d3] (.bool true) [] := by
 have Q := wQuad n1 d1 n2 d2 n3 d3 h1 h2 h3
 have z1 := cf_hs h1
 have z2 := cf_hs h2
 have z3 := cf_hs h3
 have c1 := cf_cof h1
 have c2 := cf_cof h2
 have c3 := cf_cof h3
 generalize cf n1 d1 = a at *
 generalize cf n2 d2 = b at *
 generalize cf n3 d3 = c at *
 rcases isRoots_ex a b c with ⟨rfl, rfl, rfl⟩ | ⟨l, hl⟩
 ·rw [qV0] at Q
  exact lr_z _ _ _ _ _ _ vKnown4 Q vDegreeZ
 have hz := hl.sizes c1 c2 c3
 have ok := hl.ok
 have so := hl.sorted
 have rt := hl.sgs.root
 have hlen := hl.len
 have D := vDegree a b c
 have ed := hl.deg
 have R := uRoots a b c l hl
 have V := vRoots a b c l hl
 rcases l with _ | ⟨r1, _ | ⟨r2, _ | ⟨r3, l⟩⟩⟩
 ·exact lr_0 _ _ _ _ _ _ a b c vKnown4 Q _ D ed R V
 ·have ok1 := ok r1 (by simp)
  obtain ⟨y1, y2⟩ := hz r1 (by simp)
  have S := uSignAt a b c r1 ok1.nonneg
  rw [atQ_val ok1, rt r1 (by simp)] at S
  exact lr_1 _ _ _ _ _ _ a b c vKnown4 Q r1 _ D ed R V S
 ·have ok1 := ok r1 (by simp)
  have ok2 := ok r2 (by simp)
  obtain ⟨y1, y2⟩ := hz r1 (by simp)
  obtain ⟨y3, y4⟩ := hz r2 (by simp)
  have S := uSignAt a b c r1 ok1.nonneg
  rw [atQ_val ok1, rt r1 (by simp)] at S
  have S2 := uSignAt a b c r2 ok2.nonneg
  rw [atQ_val ok2, rt r2 (by simp)] at S2
  have C := vCompare r1 r2 ok1.nonneg ok2.nonneg
  have lt := of_decide_eq_true ((cmp_lss r1 r2).2 ((List.pairwise_cons.1 so).1 r2 (by simp)))
  exact lr_2 _ _ _ _ _ _ a b c vKnown4 Q r1 r2 _ _ D ed R V S S2 C (decide_eq_false (by omega))
 ·simp only [List.length_cons] at hlen
  omega
theorem QuadraticRoots_c (n1 d1 n2 d2 n3 d3 : Int) (w : World) (hw : w.ShapedOpen Tryz.prog) (h1 : Cn n1 d1) (h2 : Cn n2 d2) (h3 : Cn n3 d3) : Calls Tryz.prog 6 #[fnV n1 d1 n2 d2 n3 d3] w fun e w' => e = .returned (.bool true) ∧ Below w.heap.size w w' := (QuadraticRoots_s n1 d1 n2 d2 n3 d3 h1 h2 h3).calls rfl rfl w hw
end Go.Proofs.YtlblfgbpogljoaaGreatDoor

end
