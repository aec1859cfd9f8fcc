import Derived.Test.YthdaimoankaciaaGreatDoorPr
/- The reference's number and Parse; chapter 2's law about strings (begun). -/
set_option linter.unusedSimpArgs false
set_option linter.unusedVariables false
namespace Go.Sy
open Go Go.RowKit
theorem Sp.nil2 {P : Program} {f : FuncId} {q : Nat × List Value} {n m : Nat} {nr : List (Nat × List Value)} (h : Sp P f [(0, []), q] [row 0 0, row 1 n] (row 2 m) nr) : Sp P f [q] [.slice none 0 0, row 0 n] (row 1 m) nr := by
 refine ⟨h.1, fun r w hw hr => ?_⟩
 have h2 := h.2 (fun i => match i with | 0 => .slice none 0 0 | i + 1 => r i) w hw (fun i x hx => by
  match i, hx with
  | 0, hx =>
   simp only [List.getElem?_cons_zero, Option.some.injEq] at hx
   subst hx
   exact ⟨fun c hc => (by cases hc), .inl ⟨rfl, rfl, rfl⟩⟩
  | i + 1, hx => exact hr i x (by simpa using hx))
 refine h2.mono ?_
 rintro e w' ⟨r', d1, rfl, hb, d2⟩
 refine ⟨fun i => r' (i + 1), fun i hi => ?_, rfl, hb, fun j x hx => ?_⟩
 ·have := d1 (i + 1) (by simp only [List.length_cons, List.length_nil] at hi ⊢; omega)
  exact this
 ·obtain ⟨a1, a2⟩ := d2 j x hx
  have e1 : [(0, []), q].length + j = [q].length + j + 1 := by simp only [List.length_cons, List.length_nil]; omega
  rw [e1] at a1 a2
  refine ⟨a1, fun b hb2 => ?_⟩
  rcases a2 b hb2 with h3 | ⟨i, q', h3, h4⟩
  ·exact .inl h3
  ·match i, h3, h4 with
   | 0, h3, h4 =>
    simp only [List.getElem?_cons_zero, Option.some.injEq] at h3
    subst h3
    exact absurd rfl h4.1
   | i + 1, h3, h4 => exact .inr ⟨i, q', by simpa using h3, h4⟩
end Go.Sy
namespace Go.Proofs.YthdaimoankaciaaGreatDoor
open Go Go.RowKit Go.Sy
open Vi
theorem Dl_of_one {w : World} {v : Value} {d : Nat} (hd : d < 256) (h : RowW w v 1 [nV d]) : Dl w v 1 d := by
 refine ⟨by omega, .inr ?_⟩
 rcases h.2 with ⟨_, h, _⟩ | ⟨g, c, rfl, hc, hm, hg, h⟩
 ·cases h
 ·rcases h with h | ⟨cs, ty, fz, h1, h2⟩
  ·cases h
  ·refine ⟨g, c, rfl, hc, hm, hg, fun i hi => ?_⟩
   obtain rfl : i = 0 := by omega
   have h3 : cs.toList[0]? = some (nV d) := by
    rw [show cs.toList[0]? = (cs.toList.take 1)[0]? by rw [List.getElem?_take]; simp]
    rw [show (cs.toList.take 1) = [nV d] from h2]; rfl
   have h4 : d8 d 0 = d := by unfold d8; simp; omega
   rw [h4]
   simp only [World.cell?, h1]
   simpa [nV] using h3
theorem dTrim1 (d : Nat) (hd : d < 256) : Sp Tryz.prog 144 [(1, [nV d])] [row 0 1] (row 1 (nd 256 d)) [rD d] := by
 refine ⟨(fun xs w => Tryz.call144 xs w), fun r w _ hr => ?_⟩
 have h0 := hr 0 _ rfl
 refine (strimF_c (r 0) 1 d w (Dl_of_one hd h0) (by omega)).mono fun e w' ⟨v', h1, h2, h3, h4⟩ => ⟨fun k => if k < 1 then r k else v', fun i hi => if_pos hi, h1, h4 ▸ Below.refl _ _, fun j q hq => ?_⟩
 cases j with
 | zero =>
  simp only [List.getElem?_cons_zero, Option.some.injEq] at hq
  subst hq
  refine ⟨row_of_DT h2, fun b hb => .inr ⟨0, _, rfl, ?_⟩⟩
  have hv := h3 b (loc_own hb)
  rcases h0.2 with ⟨_, h, _⟩ | ⟨g, c, e, _⟩
  ·cases h
  ·rw [e] at hv ⊢
   have hg : g = b := by simpa [Value.ownBlock] using hv
   exact ⟨by simp, _, _, _, rfl, hg⟩
 | succ j => simp at hq
theorem idxG {s : ByteArray} {i : Nat} {x z : Operand} (hi : i < s.size) : ∀ (o : Oper), o.op = .index 9 x z → ∀ (ρ : Operand → Value) (w : World), (Op.operands (.index 9 x z)).toList.map ρ = [.string s, nV i] → (execOp ρ o).run Tryz.prog w = .ok (.value (.int .u8 (s[i].toNat : Nat))) w := by
 intro o ho ρ w hl
 simp [Op.operands] at hl
 unfold execOp
 rw [ho]
 have h := run_index_string (P := Tryz.prog) (w := w) 9 s .i64 (i : Int) (by kernel_rfl)
 unfold nV at hl
 simp [hl, h, hi, Result.andThen]
end Go.Proofs.YthdaimoankaciaaGreatDoor
