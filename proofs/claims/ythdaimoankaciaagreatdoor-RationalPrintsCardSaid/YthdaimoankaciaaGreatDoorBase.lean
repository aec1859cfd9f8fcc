import Derived.Test.YthdaimoankaciaaGreatDoorMag
import Derived.Test.YthdaimoankaciaaGreatDoorSteady
import Derived.WalkLawsBesides
import Derived.WalkSpells
import Derived.Handy
import Derived.Outline
import Derived.Lib.Hide
import Derived.Lib.BitFns
import Derived.Lib.Bytealg
import Derived.Lib.Small
/- No program in sight: small laws that the walks share. -/
namespace Go
open Go.RowKit
section
variable {P : Program}
theorem Calls.steady_same {f : FuncId} {args : Array Value} {w u : World} {v : Value}
    (h : Calls P f args (w.plus u) fun e w' => e = .returned v ∧ w' = w.plus u) : Calls P f args (w.plus u) fun e w'' => e = .returned v ∧ ∃ u', w'' = w.plus u' :=
 h.mono fun _ _ ⟨he, hb⟩ => ⟨he, u, hb⟩
theorem Calls.same_steady {f : FuncId} {args : Array Value} {w u : World} {v : Value}
    (h : Calls P f args (w.plus u) fun e w' => e = .returned v ∧ w.plus u = w') : Calls P f args (w.plus u) fun e w'' => e = .returned v ∧ ∃ u', w'' = w.plus u' :=
 h.mono fun _ _ ⟨he, hb⟩ => ⟨he, u, hb.symm⟩
theorem Calls.to_below {f : FuncId} {args : Array Value} {w : World} {v : Value}
    (h : Calls P f args w fun e w' => e = .returned v ∧ w = w') : Calls P f args w fun e w' => e = .returned v ∧ Below w.heap.size w w' :=
 h.mono fun _ _ ⟨he, hb⟩ => ⟨he, hb ▸ Below.refl _ _⟩
theorem _root_.Go.RowKit.Below.drewN {B : Nat} {a w : World} (h : Below B a w) (n : Nat) : Below B a (w.drewN n) := ⟨h.os, h.tape, h.output, h.size, h.block⟩
theorem Calls.value {f : FuncId} {args : Array Value} {w : World} {v v' : Value} (e : v = v')
    (h : Calls P f args w fun e w' => e = .returned v ∧ Below w.heap.size w w') : Calls P f args w fun e w' => e = .returned v' ∧ Below w.heap.size w w' := e ▸ h
end
end Go
namespace Vi
open Go
theorem made_int (b : Bool) (z : Int) (n : Nat) (h : z = if b then -(n : Int) else n) : (Value.agg #[.bool (b && !(mag n).toList.isEmpty), .string (mag n)]) = .agg #[.bool (sg z), .string (mg z)] := by
 subst h
 rw [mag_isEmpty]
 cases b
 ·simp [sg_nat, mg_nat]
 ·simp only [if_true, mg_neg, Bool.true_and]
  have e : sg (-(n : Int)) = !(n == 0) := by
   unfold sg
   by_cases h : n = 0
   ·subst h; rfl
   ·rw [beq_eq_false_iff_ne.2 h]; simp; omega
  rw [e]
theorem bitLenAux_nd (f x : Nat) (h : x < 2 ^ f) : Lib.bitLenAux f x = nd 2 x := by
 induction f generalizing x with
 | zero =>
  have e : x = 0 := by simpa using h
  subst e; rfl
 | succ f ih =>
  unfold Lib.bitLenAux
  by_cases h0 : x = 0
  ·rw [if_pos h0]; subst h0; rfl
  ·rw [if_neg h0, ih (x / 2) (by rw [Nat.pow_succ] at h; omega), nd_succ 2 (by omega) x (by omega)]
   omega
theorem bitLen_nd (x : Nat) (h : x < 2 ^ 64) : Lib.bitLen x = nd 2 x := bitLenAux_nd 64 x h
def cmpN (x y : Nat) : Int := if x < y then -1 else if x = y then 0 else 1
def cmpI (x y : Int) : Int := if x < y then -1 else if x = y then 0 else 1
theorem cmpI_nat (x y : Nat) : cmpI (x : Int) (y : Int) = cmpN x y := by
 unfold cmpI cmpN
 by_cases h1 : x < y
 ·rw [if_pos h1, if_pos (by omega)]
 ·rw [if_neg h1, if_neg (by omega)]
  by_cases h2 : x = y
  ·rw [if_pos h2, if_pos (by omega)]
  ·rw [if_neg h2, if_neg (by omega)]
theorem cmpN_add (u v k : Nat) : cmpN (u + k) (v + k) = cmpN u v := by
 unfold cmpN
 simp only [Nat.add_lt_add_iff_right, Nat.add_right_cancel_iff]
theorem val_reverse_cons (d : Nat) (l : List Nat) : val 256 (d :: l).reverse = val 256 l.reverse + 256 ^ l.length * d := by
 rw [List.reverse_cons, val_snoc, List.length_reverse]
theorem compareBytes_val : ∀ (l m : List UInt8), l.length = m.length →
    Lib.compareBytes l m = cmpN (val 256 (l.map UInt8.toNat).reverse) (val 256 (m.map UInt8.toNat).reverse)
 | [], [], _ => rfl
 | a :: l, b :: m, h => by
  have h' : l.length = m.length := by simpa using h
  have ih := compareBytes_val l m h'
  have hl : val 256 (l.map UInt8.toNat).reverse < 256 ^ l.length := by
   have := val_lt 256 (l.map UInt8.toNat).reverse (fun d hd => by
    rw [List.mem_reverse, List.mem_map] at hd
    obtain ⟨c, _, rfl⟩ := hd
    exact c.toNat_lt)
   simpa using this
  have hm : val 256 (m.map UInt8.toNat).reverse < 256 ^ l.length := by
   have := val_lt 256 (m.map UInt8.toNat).reverse (fun d hd => by
    rw [List.mem_reverse, List.mem_map] at hd
    obtain ⟨c, _, rfl⟩ := hd
    exact c.toNat_lt)
   rw [h']; simpa using this
  unfold Lib.compareBytes
  rw [List.map_cons, List.map_cons, val_reverse_cons, val_reverse_cons, List.length_map, List.length_map, ← h', ih]
  generalize val 256 (l.map UInt8.toNat).reverse = u at *
  generalize val 256 (m.map UInt8.toNat).reverse = v at *
  generalize 256 ^ l.length = p at *
  by_cases h1 : a < b
  ·rw [if_pos h1]
   have h2 : a.toNat < b.toNat := UInt8.lt_iff_toNat_lt.1 h1
   have h3 : p * (a.toNat + 1) ≤ p * b.toNat := Nat.mul_le_mul_left p h2
   rw [Nat.mul_add] at h3
   unfold cmpN
   rw [if_pos (by omega)]
  ·rw [if_neg h1]
   by_cases h2 : b < a
   ·rw [if_pos h2]
    have h2' : b.toNat < a.toNat := UInt8.lt_iff_toNat_lt.1 h2
    have h3 : p * (b.toNat + 1) ≤ p * a.toNat := Nat.mul_le_mul_left p h2'
    rw [Nat.mul_add] at h3
    unfold cmpN
    rw [if_neg (by omega), if_neg (by omega)]
   ·rw [if_neg h2]
    have e : a = b := by
     have h3 : ¬ a.toNat < b.toNat := fun h => h1 (UInt8.lt_iff_toNat_lt.2 h)
     have h4 : ¬ b.toNat < a.toNat := fun h => h2 (UInt8.lt_iff_toNat_lt.2 h)
     exact UInt8.toNat_inj.1 (by omega)
    subst e
    exact (cmpN_add u v _).symm
theorem compareBytes_mag (x y : Nat) (h : (mag x).size = (mag y).size) : Lib.compareBytes (mag x).data.toList (mag y).data.toList = cmpN x y := by
 have h2 := compareBytes_val (mag x).data.toList (mag y).data.toList h
 rw [h2]
 show cmpN (num (mag x)) (num (mag y)) = _
 rw [num_mag, num_mag]
theorem compare_mag (x y : Nat) : (if Lib.compareInt ((mag x).size : Int) ((mag y).size : Int) ≠ 0 then Lib.compareInt ((mag x).size : Int) ((mag y).size : Int) else Lib.compareBytes (mag x).data.toList (mag y).data.toList) = cmpN x y := by
 have h1 := lt_of_nd_lt 256 (by omega) x y
 have h2 := lt_of_nd_lt 256 (by omega) y x
 rw [← size_mag, ← size_mag] at h1 h2
 unfold Lib.compareInt
 by_cases h3 : (mag x).size < (mag y).size
 ·rw [if_pos (show ((mag x).size : Int) < (mag y).size by omega), if_pos (by omega)]
  unfold cmpN; rw [if_pos (h1 h3)]
 ·rw [if_neg (show ¬ ((mag x).size : Int) < (mag y).size by omega)]
  by_cases h4 : (mag y).size < (mag x).size
  ·have := h2 h4
   rw [if_pos (show ((mag x).size : Int) > (mag y).size by omega), if_pos (by omega)]
   unfold cmpN; rw [if_neg (by omega), if_neg (by omega)]
  ·rw [if_neg (show ¬ ((mag x).size : Int) > (mag y).size by omega), if_neg (by omega)]
   exact compareBytes_mag x y (by omega)
theorem cmpI_sub (x y : Int) : cmpI (x - y) 0 = cmpI x y := by
 unfold cmpI
 by_cases h1 : x < y
 ·rw [if_pos h1, if_pos (by omega)]
 ·rw [if_neg h1, if_neg (by omega)]
  by_cases h2 : x = y
  ·rw [if_pos h2, if_pos (by omega)]
  ·rw [if_neg h2, if_neg (by omega)]
theorem cmpI_neg (x y : Int) : cmpI y x = -cmpI x y := by
 unfold cmpI; repeat' split
 all_goals omega
theorem cmpI_self (x : Int) : cmpI x x = 0 := by unfold cmpI; simp
theorem cmpI_range (x y : Int) : -1 ≤ cmpI x y ∧ cmpI x y ≤ 1 := by
 unfold cmpI; repeat' split
 all_goals omega
end Vi
