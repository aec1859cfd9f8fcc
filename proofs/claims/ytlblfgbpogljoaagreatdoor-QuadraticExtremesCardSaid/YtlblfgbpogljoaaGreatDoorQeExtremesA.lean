/- Part 1 of the proof; what it holds is said text by text. -/
import Derived.OwnWalk
import Derived.Deep.DeepCutAuto
import Derived.Deep.CutBlock
import Derived.Test.YtlblfgbpogljoaaGreatDoorQbL
set_option linter.unusedSimpArgs false
set_option linter.unusedVariables false
section
/- No program in sight: the real numbers as far as they are wanted: Cauchy sequences of fractions, their order, square roots of fractions, and a checker of ring identities. -/
namespace Vi
namespace RR
end RR
end Vi
namespace Vi
namespace PE
open RR
end PE
namespace RR
end RR
end Vi
namespace Vi
namespace RR
theorem neg_pos {x : RR} : 0 < -x ↔ x < 0 := lt_zero.symm
end RR
namespace RR
end RR
end Vi
namespace Vi
namespace RR
end RR
end Vi

end
section
namespace Go.Proofs.YtlblfgbpogljoaaGreatDoor
open Go Go.RowKit
open Vi
theorem DT.num_lt {w : World} {v : Value} {x : Nat} (h : DT w v x) : x < 256 ^ nd 256 x := h.1
end Go.Proofs.YtlblfgbpogljoaaGreatDoor

end
section
/- Contracts for the reckoner: integers; digits as rows. -/
namespace Go.Proofs.YtlblfgbpogljoaaGreatDoor
open Go Go.RowKit Go.Sy
open Vi
section
variable {f : FuncId}
end
end Go.Proofs.YtlblfgbpogljoaaGreatDoor
namespace Go.Proofs.YtlblfgbpogljoaaGreatDoor
open Go Go.RowKit Go.Sy
open Vi
end Go.Proofs.YtlblfgbpogljoaaGreatDoor
namespace Go.Proofs.YtlblfgbpogljoaaGreatDoor
open Go Go.RowKit Go.Sy
open Vi
end Go.Proofs.YtlblfgbpogljoaaGreatDoor
namespace Go.Proofs.YtlblfgbpogljoaaGreatDoor
open Go Go.RowKit
open Vi
set_option maxHeartbeats 400000 in
theorem sIsInt_c (b : Bool) (s : ByteArray) (w : World) (hs : s.size ≤ 9223372036854775807) : Calls Tryz.prog 159 #[.agg #[.bool b, .string s]] w fun e w' => e = .returned (.bool (okInt b s)) ∧ Below w.heap.size w w' := by
 cases he : s.toList.isEmpty
 ·have hp : 0 < s.size := by
    rcases Nat.eq_zero_or_pos s.size with h | h
    ·rw [toList_data] at he
     have : s.data.toList.length = 0 := h
     rw [List.eq_nil_of_length_eq_zero this] at he; simp at he
    ·exact h
  have hc := can_first s hp
  by_cases h0 : (s[0]'hp).toNat = 0
  ·have e : okInt b s = false := by
     unfold okInt; rw [he]
     have h1 : ¬ Vi.Can s := fun h => (hc.1 h) h0
     unfold Vi.Can at h1
     have h2 : s.data.toList.head? = some 0 := Decidable.byContradiction h1
     rw [h2]; rfl
   rw [e]
   clear hc
   go_enter Tryz.func159, Tryz.ntmps159
   go_wp2
   go_ret
   exact ⟨rfl, by (exact belA)⟩
  ·have e : okInt b s = true := by
     unfold okInt; rw [he]
     have h1 : Vi.Can s := hc.2 h0
     unfold Vi.Can at h1
     simp [h1]
   rw [e]
   have hb : ((s[0].toNat : Int) != 0) = true := by simpa using h0
   clear hc
   go_enter Tryz.func159, Tryz.ntmps159
   go_wp2
   go_ret
   exact ⟨by simp [h0], by (exact belA)⟩
 ·have e : okInt b s = !b := by unfold okInt; rw [he]; rfl
  rw [e]
  have hz : s.size = 0 := by
   rw [toList_data] at he
   have h2 : s.data.toList = [] := by simpa using he
   have : s.data.toList.length = 0 := by rw [h2]; rfl
   exact this
  cases b
  all_goals
   go_enter Tryz.func159, Tryz.ntmps159
   go_wp2
   go_ret
   exact ⟨rfl, by (exact belA)⟩
end Go.Proofs.YtlblfgbpogljoaaGreatDoor
namespace Go.Proofs.YtlblfgbpogljoaaGreatDoor
open Go Go.RowKit Go.Sy
open Vi
theorem rIsInt (b : Bool) (s : ByteArray) (hs : s.size ≤ 9223372036854775807) : Sp Tryz.prog 159 [] [.agg #[.bool b, .string s]] (.bool (okInt b s)) [] := Sp.of (fun xs w => Tryz.call159 xs w) (by kernel_rfl) (by kernel_rfl) (fun w => sIsInt_c b s w hs)
theorem sgd_not (b : Bool) (x : Nat) : sgd (!(b == true)) x = -sgd b x := by
 unfold sgd
 cases b <;> simp
theorem rDiv (p q : Rat) (h0 : q ≠ 0) (hp : Fits p) (hq : Fits q) : Sp Tryz.prog 19 [] [rV p, rV q] (rV (p / q)) [] := by
 obtain ⟨p1, p2⟩ := hp
 obtain ⟨q1, q2⟩ := hq
 have h1 := nd_mul p.num.natAbs q.den
 have h2 := nd_mul p.den q.num.natAbs
 have hqn : q.num ≠ 0 := fun h => h0 (Rat.num_eq_zero.1 h)
 have hd : 0 < p.den * q.num.natAbs := Nat.mul_pos (by have := p.den_nz; omega) (by omega)
 have e : p / q = Rat.divInt (sgd (!(sg p.num == sg q.num)) (p.num.natAbs * q.den)) (p.den * q.num.natAbs : Nat) := by
  rw [div_of]
  rw [sgd_den p.num q.den]
  cases hs : sg q.num
  ·have h3 : ((p.den * q.num.natAbs : Nat) : Int) = (p.den : Int) * q.num := by
     have : 0 ≤ q.num := by unfold sg at hs; simpa using hs
     rw [Int.natCast_mul]; congr 1; omega
   rw [h3]
   congr 1
   cases sg p.num <;> rfl
  ·have h3 : ((p.den * q.num.natAbs : Nat) : Int) = -((p.den : Int) * q.num) := by
     have : q.num < 0 := by unfold sg at hs; simpa using hs
     rw [Int.natCast_mul, ← Int.mul_neg]; congr 1; omega
   rw [h3, sgd_not]
   exact (neg_of _ _).symm
 rw [e]
 exact walk (code := Tryz.f19.body.getD .skip) [cr (fOf p ⟨p1, p2⟩), cr (fOf q ⟨q1, q2⟩), cr (dTimes p.num.natAbs q.den (by omega) (by omega)), cr (dTimes p.den q.num.natAbs (by omega) (by omega)), cr (fCan (!(sg p.num == sg q.num)) (p.num.natAbs * q.den) (p.den * q.num.natAbs) hd (by omega) (by omega))] fol Tryz.func19 (by kernel_rfl) (fun xs w => Tryz.call19 xs w) (by kernel_rfl)
end Go.Proofs.YtlblfgbpogljoaaGreatDoor
namespace Go.Proofs.YtlblfgbpogljoaaGreatDoor
open Go Go.RowKit Go.Sy
open Vi
end Go.Proofs.YtlblfgbpogljoaaGreatDoor
namespace Go.Proofs.YtlblfgbpogljoaaGreatDoor
open Go Go.RowKit Go.Sy
open Vi
end Go.Proofs.YtlblfgbpogljoaaGreatDoor
namespace Go.Proofs.YtlblfgbpogljoaaGreatDoor
open Go Go.RowKit Go.Sy
open Vi
theorem isOne {s : ByteArray} (h : okInt false s = true) : (s.toList == (⟨#[1]⟩ : ByteArray).toList) = (num s == 1) := by
 obtain ⟨z, h1, rfl⟩ := okInt_num false s h
 rw [num_mg, ← mg1]
 have := int_beq z 1
 rw [← h1, show sg 1 = false by decide] at this
 simp only [BEq.rfl, Bool.true_and] at this
 rw [this]
 have : 0 ≤ z := by
  have h1 := h1.symm
  unfold sg at h1
  have : ¬ z < 0 := by simpa using h1
  omega
 rw [Bool.eq_iff_iff]
 simp
 omega
theorem rCheck (b1 : Bool) (s1 : ByteArray) (b2 : Bool) (s2 : ByteArray) (h1 : s1.size ≤ 131000) (h2 : s2.size ≤ 131000) : Sp Tryz.prog 121 [] [.agg #[.bool b1, .string s1, .bool b2, .string s2]] (.bool (okRat b1 s1 b2 s2)) [] := by
 have c1 := rIsInt b1 s1 (by omega)
 have c2 := rIsInt b2 s2 (by omega)
 unfold okRat
 cases k1 : okInt b1 s1 <;> rw [k1] at c1
 ·exact walk (code := Tryz.f121.body.getD .skip) [c c1] fol Tryz.func121 (by kernel_rfl) (fun xs w => Tryz.call121 xs w) (by kernel_rfl)
 cases k2 : okInt b2 s2 <;> rw [k2] at c2
 ·exact walk (code := Tryz.f121.body.getD .skip) [c c1, c c2] fol Tryz.func121 (by kernel_rfl) (fun xs w => Tryz.call121 xs w) (by kernel_rfl)
 cases b2
 case true => exact walk (code := Tryz.f121.body.getD .skip) [c c1, c c2] fol Tryz.func121 (by kernel_rfl) (fun xs w => Tryz.call121 xs w) (by kernel_rfl)
 cases k3 : (s2.toList == [])
 ·have n1 : nd 256 (num s1) ≤ 131000 := Nat.le_trans (nd_le 256 (by omega) _ s1.size (num_lt s1)) h1
  have n2 : nd 256 (num s2) ≤ 131000 := Nat.le_trans (nd_le 256 (by omega) _ s2.size (num_lt s2)) h2
  have k4 : s2.toList.isEmpty = false := by rw [← k3]; cases s2.toList <;> rfl
  have hi := isOne k2
  have hC := dCommon (num s1) (num s2) (by omega) (by omega)
  rw [k4, Nat.gcd_comm (num s1) (num s2)]
  obtain ⟨G, hG⟩ : ∃ G, G = Nat.gcd (num s2) (num s1) := ⟨_, rfl⟩
  rw [← hG] at hC ⊢
  have hd1 := dDigits b1 s1 (by omega)
  have hd2 := dDigits false s2 (by omega)
  cases k5 : (num s2 == 1)
  ·rw [show (num s2 != 1) = true by show (!(num s2 == 1)) = true; rw [k5]; rfl]
   have e5 : (!(s2.toList == (⟨#[1]⟩ : ByteArray).toList)) = true := by rw [hi, k5]; rfl
   by_cases k6 : nd 256 G = 1
   ·have g0 : 0 < G := by
      rcases Nat.eq_zero_or_pos G with h | h
      ·rw [h, nd_zero] at k6; omega
      ·exact h
    have g1 : G < 256 := by have := lt_pow_nd 256 (by omega) G; rw [k6] at this; simpa using this
    rw [k6, rD_small G g0 g1] at hC
    have e7 : ((true && true && !false && (false || true && G == 1)) : Bool) = decide ((G : Int) = 1) := by
     rw [Bool.eq_iff_iff]; simp; omega
    show Sp _ _ _ _ (.bool (true && true && !false && (false || true && G == 1))) _
    rw [e7]
    exact walk (code := Tryz.f121.body.getD .skip) [c c1, c c2, L, eb k3, cr hd1, cr hd2, cr hC, eb e5] fol Tryz.func121 (by kernel_rfl) (fun xs w => Tryz.call121 xs w) (by kernel_rfl)
   ·have e6 : decide ((nd 256 G : Int) = 1) = false := decide_eq_false (by omega)
    have e7 : (G == 1) = false := by
     have : G ≠ 1 := fun h => k6 (by rw [h]; exact nd_small 1 (by omega) (by omega))
     simpa using this
    rw [e7]
    exact walk (code := Tryz.f121.body.getD .skip) [c c1, c c2, L, eb k3, cr hd1, cr hd2, cr hC, eb e5, eb e6] fol Tryz.func121 (by kernel_rfl) (fun xs w => Tryz.call121 xs w) (by kernel_rfl)
  ·rw [show (num s2 != 1) = false by show (!(num s2 == 1)) = false; rw [k5]; rfl]
   have e5 : (!(s2.toList == (⟨#[1]⟩ : ByteArray).toList)) = false := by rw [hi, k5]; rfl
   exact walk (code := Tryz.f121.body.getD .skip) [c c1, c c2, L, eb k3, cr hd1, cr hd2, cr hC, eb e5] fol Tryz.func121 (by kernel_rfl) (fun xs w => Tryz.call121 xs w) (by kernel_rfl)
 ·have k4 : s2.toList.isEmpty = true := by rw [← k3]; cases s2.toList <;> rfl
  rw [k4]
  exact walk (code := Tryz.f121.body.getD .skip) [c c1, c c2, L, eb k3] fol Tryz.func121 (by kernel_rfl) (fun xs w => Tryz.call121 xs w) (by kernel_rfl)
theorem rCheckQ (q : Rat) (hq : Fits q) : Sp Tryz.prog 121 [] [rV q] (.bool true) [] := by
 have := rCheck (sg q.num) (mg q.num) (sg (dn q)) (mg (dn q)) hq.mn hq.md
 rw [okRat_of] at this
 exact this
end Go.Proofs.YtlblfgbpogljoaaGreatDoor
namespace Go.Proofs.YtlblfgbpogljoaaGreatDoor
open Go Go.RowKit Go.Sy
open Vi
end Go.Proofs.YtlblfgbpogljoaaGreatDoor
namespace Go.Proofs.YtlblfgbpogljoaaGreatDoor
open Go Go.RowKit Go.Sy
open Vi
end Go.Proofs.YtlblfgbpogljoaaGreatDoor

end
section
/- No program in sight: extreme values of a quadratic over an interval. -/
namespace Go.Proofs.YtlblfgbpogljoaaGreatDoor
open Go Go.RowKit Go.Sy
open Vi RR
theorem mul_np {x y : RR} (hx : x ≤ 0) (hy : y ≤ 0) : 0 ≤ x * y := by
 have h1 : 0 ≤ -x := le_of_nonneg (-x) (by rcases lt_or_eq hx with h | h
                                           ·exact le_of_lt (neg_pos.2 h)
                                           ·rw [h]; exact le_of_eq (ring [] (by decide +kernel))) (ring [x] (by decide +kernel))
 have h2 : 0 ≤ -y := le_of_nonneg (-y) (by rcases lt_or_eq hy with h | h
                                           ·exact le_of_lt (neg_pos.2 h)
                                           ·rw [h]; exact le_of_eq (ring [] (by decide +kernel))) (ring [y] (by decide +kernel))
 have h3 := mul_nonneg h1 h2
 rwa [show -x * -y = x * y from ring [x, y] (by decide +kernel)] at h3
theorem nn {x y : RR} (h : x ≤ y) : 0 ≤ y - x := sub_nonneg.2 h
theorem np {x y : RR} (h : x ≤ y) : x - y ≤ 0 := le_of_nonneg (y - x) (sub_nonneg.2 h) (ring [x, y] (by decide +kernel))
theorem add_np {x y : RR} (hx : x ≤ 0) (hy : y ≤ 0) : x + y ≤ 0 := by
 have h1 := nn hx
 have h2 := nn hy
 exact le_of_nonneg ((0 - x) + (0 - y)) (add_nonneg h1 h2) (ring [x, y] (by decide +kernel))
theorem cand_F (b c : Rat) (F T : Rl) : F ∈ cand b c F T := by unfold cand; split <;> simp
theorem cand_T (b c : Rat) (F T : Rl) : T ∈ cand b c F T := by unfold cand; split <;> simp
theorem ext_low (a b c : Rat) (F T : Rl) (v : RR) (h1 : F.val ≤ v) (h2 : v ≤ T.val) : ∃ t ∈ cand b c F T, qval a b c t.val ≤ qval a b c v := by
 have atF : ∀ t : RR, 0 ≤ t → qval a b c v - qval a b c F.val = t → ∃ t ∈ cand b c F T, qval a b c t.val ≤ qval a b c v := fun t ht e => ⟨F, cand_F _ _ _ _, le_of_nonneg t ht e⟩
 have atT : ∀ t : RR, 0 ≤ t → qval a b c v - qval a b c T.val = t → ∃ t ∈ cand b c F T, qval a b c t.val ≤ qval a b c v := fun t ht e => ⟨T, cand_T _ _ _ _, le_of_nonneg t ht e⟩
 by_cases hc : c = 0
 ·subst hc
  rcases (by grind : 0 ≤ b ∨ b < 0) with hb | hb
  ·refine atF (ofRat b * (v - F.val)) (mul_nonneg (rat_le.2 hb) (nn h1)) ?_
   unfold qval
   exact ring [a, b, v, F.val] (by decide +kernel)
  ·refine atT (ofRat b * (v - T.val)) (mul_np (le_of_lt (rat_lt.2 hb)) (np h2)) ?_
   unfold qval
   exact ring [a, b, v, T.val] (by decide +kernel)
 obtain ⟨h, hh⟩ : ∃ h, h = b / (-2 * c) := ⟨_, rfl⟩
 have hb : b = -2 * c * h := by rw [hh]; exact half_eq b c hc
 have dif : ∀ u : RR, qval a b c v - qval a b c u = ofRat c * ((v - u) * ((v - ofRat h) + (u - ofRat h))) := fun u => by
  unfold qval
  rw [hb]
  exact ring [a, c, h, v, u] (by decide +kernel)
 rcases (by grind : 0 < c ∨ c < 0) with h0 | h0
 ·have c0 : (0 : RR) ≤ ofRat c := le_of_lt (rat_lt.2 h0)
  by_cases k1 : F.val < ofRat h
  ·by_cases k2 : ofRat h < T.val
   ·refine ⟨Rl.rat h, ?_, le_of_nonneg _ ?_ (dif _)⟩
    ·unfold cand
     rw [← hh, if_pos ⟨hc, k1, k2⟩]
     simp
    ·rw [Rl.rat_val]
     refine mul_nonneg c0 ?_
     have := sq_nonneg (v - ofRat h)
     rwa [show (v - ofRat h) * (v - ofRat h + (ofRat h - ofRat h)) = (v - ofRat h) * (v - ofRat h) from ring [v, h] (by decide +kernel)]
   ·have k2 : T.val ≤ ofRat h := k2
    exact atT _ (mul_nonneg c0 (mul_np (np h2) (add_np (np (le_trans h2 k2)) (np k2)))) (dif _)
  ·have k1 : ofRat h ≤ F.val := k1
   exact atF _ (mul_nonneg c0 (mul_nonneg (nn h1) (add_nonneg (nn (le_trans k1 h1)) (nn k1)))) (dif _)
 ·have c0 : ofRat c ≤ (0 : RR) := le_of_lt (rat_lt.2 h0)
  rcases le_total v (ofRat h) with k | k
  ·refine atF _ (mul_np c0 ?_) (dif _)
   have h3 := mul_nonneg (nn h1) (nn (add_np (np k) (np (le_trans h1 k))))
   refine le_of_nonneg _ h3 ?_
   exact ring [v, F.val, h] (by decide +kernel)
  ·refine atT _ (mul_np c0 ?_) (dif _)
   have h3 := mul_nonneg (nn h2) (add_nonneg (nn k) (nn (le_trans k h2)))
   refine le_of_nonneg _ h3 ?_
   exact ring [v, T.val, h] (by decide +kernel)
theorem cand_neg (b c : Rat) (F T : Rl) : cand (-b) (-c) F T = cand b c F T := by
 unfold cand
 by_cases hc : c = 0
 ·rw [if_neg (fun h => h.1 (by rw [hc]; rfl)), if_neg (fun h => h.1 hc)]
 ·have h1 : (-2 : Rat) * c ≠ 0 := fun e => by rcases Rat.mul_eq_zero.1 e with h | h; exact absurd h (by decide +kernel); exact hc h
  have h2 : (-2 : Rat) * -c ≠ 0 := fun e => h1 (by grind)
  have e : -b / (-2 * -c) = b / (-2 * c) := by
   obtain ⟨t, ht⟩ : ∃ t, t = b / (-2 * c) := ⟨_, rfl⟩
   obtain ⟨u, hu⟩ : ∃ u, u = -b / (-2 * -c) := ⟨_, rfl⟩
   have e1 : t * (-2 * c) = b := by rw [ht]; exact Rat.div_mul_cancel h1
   have e2 : u * (-2 * -c) = -b := by rw [hu]; exact Rat.div_mul_cancel h2
   rw [← ht, ← hu]
   have e3 : (u - t) * c = 0 := by grind
   rcases Rat.mul_eq_zero.1 e3 with h | h
   ·grind
   ·exact absurd h hc
  rw [e]
  have hn : -c ≠ 0 := by grind
  by_cases k : c ≠ 0 ∧ F.val < ofRat (b / (-2 * c)) ∧ ofRat (b / (-2 * c)) < T.val
  ·rw [if_pos k, if_pos ⟨hn, k.2⟩]
  ·rw [if_neg k, if_neg (fun h => k ⟨hc, h.2⟩)]
theorem qval_neg (a b c : Rat) (v : RR) : qval (-a) (-b) (-c) v = -qval a b c v := by
 unfold qval
 exact ring [a, b, c, v] (by decide +kernel)
theorem ext_high (a b c : Rat) (F T : Rl) (v : RR) (h1 : F.val ≤ v) (h2 : v ≤ T.val) : ∃ t ∈ cand b c F T, qval a b c v ≤ qval a b c t.val := by
 obtain ⟨t, ht, h⟩ := ext_low (-a) (-b) (-c) F T v h1 h2
 rw [cand_neg] at ht
 rw [qval_neg, qval_neg] at h
 refine ⟨t, ht, le_of_nonneg (-qval a b c v - -qval a b c t.val) (nn h) ?_⟩
 exact ring [qval a b c v, qval a b c t.val] (by decide +kernel)
def pick (bt : Rl → Rl → Bool) (vt : Rl → Rl) : List Rl → Rl × Rl → Rl × Rl
 | [], st => st
 | t :: l, st => pick bt vt l (if bt (vt t) st.1 = true then (vt t, t) else st)
noncomputable def gtB (x y : Rl) : Bool := open Classical in decide (y.val < x.val)
theorem gtB_iff {x y : Rl} : gtB x y = true ↔ y.val < x.val := by unfold gtB; simp
theorem pick_low (vt : Rl → Rl) : ∀ (l : List Rl) (st : Rl × Rl), (pick ltB vt l st).1.val ≤ st.1.val ∧ ∀ t ∈ l, (pick ltB vt l st).1.val ≤ (vt t).val
 | [], st => ⟨le_refl _, fun t ht => by cases ht⟩
 | t :: l, st => by
  unfold pick
  obtain ⟨h1, h2⟩ := pick_low vt l (if ltB (vt t) st.1 = true then (vt t, t) else st)
  by_cases k : ltB (vt t) st.1 = true
  ·rw [if_pos k] at h1 h2 ⊢
   have k' : (vt t).val < st.1.val := ltB_iff.1 k
   refine ⟨le_trans h1 (le_of_lt k'), fun x hx => ?_⟩
   rcases List.mem_cons.1 hx with rfl | hx
   ·exact h1
   ·exact h2 x hx
  ·rw [if_neg k] at h1 h2 ⊢
   have k' : st.1.val ≤ (vt t).val := fun g => k (ltB_iff.2 g)
   refine ⟨h1, fun x hx => ?_⟩
   rcases List.mem_cons.1 hx with rfl | hx
   ·exact le_trans h1 k'
   ·exact h2 x hx
theorem pick_high (vt : Rl → Rl) : ∀ (l : List Rl) (st : Rl × Rl), st.1.val ≤ (pick gtB vt l st).1.val ∧ ∀ t ∈ l, (vt t).val ≤ (pick gtB vt l st).1.val
 | [], st => ⟨le_refl _, fun t ht => by cases ht⟩
 | t :: l, st => by
  unfold pick
  obtain ⟨h1, h2⟩ := pick_high vt l (if gtB (vt t) st.1 = true then (vt t, t) else st)
  by_cases k : gtB (vt t) st.1 = true
  ·rw [if_pos k] at h1 h2 ⊢
   have k' : st.1.val < (vt t).val := gtB_iff.1 k
   refine ⟨le_trans (le_of_lt k') h1, fun x hx => ?_⟩
   rcases List.mem_cons.1 hx with rfl | hx
   ·exact h1
   ·exact h2 x hx
  ·rw [if_neg k] at h1 h2 ⊢
   have k' : (vt t).val ≤ st.1.val := fun g => k (gtB_iff.2 g)
   refine ⟨h1, fun x hx => ?_⟩
   rcases List.mem_cons.1 hx with rfl | hx
   ·exact le_trans k' h1
   ·exact h2 x hx
end Go.Proofs.YtlblfgbpogljoaaGreatDoor

end
section
/- Equality of structs, field by field; of bounds. -/
namespace Go.Sy
open Go Go.RowKit
section
variable {P : Program}
end
end Go.Sy
namespace Go.Proofs.YtlblfgbpogljoaaGreatDoor
open Go Go.RowKit Go.Sy
open Vi
theorem binS' {T : TypeId} {xs ys : Array Value} {q : Bool} (h : ∀ w, (Op.equalIn 10000 T (.agg xs) (.agg ys)).run Tryz.prog w = .ok q w) (hg : Tryz.prog.eqGuardType Tryz.prog.depth T = false) : Bin .neq T (.agg xs) (.agg ys) (.bool (!q)) := fun ox oy w => by
 rw [Sem.run_bind, run_eqGuard_agg _ _ _ _ _ _ _ hg, Result.andThen_ok, run_neq_struct, h]
 rfl
end Go.Proofs.YtlblfgbpogljoaaGreatDoor
namespace Go.Proofs.YtlblfgbpogljoaaGreatDoor
open Go Go.RowKit Go.Sy
open Vi
end Go.Proofs.YtlblfgbpogljoaaGreatDoor
namespace Go.Proofs.YtlblfgbpogljoaaGreatDoor
open Go Go.RowKit Go.Sy
open Vi
end Go.Proofs.YtlblfgbpogljoaaGreatDoor
namespace Go.Proofs.YtlblfgbpogljoaaGreatDoor
open Go Go.RowKit Go.Sy
open Vi
end Go.Proofs.YtlblfgbpogljoaaGreatDoor
namespace Go.Proofs.YtlblfgbpogljoaaGreatDoor
open Go Go.RowKit Go.Sy
open Vi
end Go.Proofs.YtlblfgbpogljoaaGreatDoor
namespace Go.Proofs.YtlblfgbpogljoaaGreatDoor
open Go Go.RowKit Go.Sy
open Vi
end Go.Proofs.YtlblfgbpogljoaaGreatDoor
namespace Go.Proofs.YtlblfgbpogljoaaGreatDoor
open Go Go.RowKit Go.Sy
open Vi
end Go.Proofs.YtlblfgbpogljoaaGreatDoor
namespace Go.Proofs.YtlblfgbpogljoaaGreatDoor
open Go Go.RowKit Go.Sy
open Vi
end Go.Proofs.YtlblfgbpogljoaaGreatDoor
namespace Go.Proofs.YtlblfgbpogljoaaGreatDoor
open Go Go.RowKit Go.Sy
open Vi
end Go.Proofs.YtlblfgbpogljoaaGreatDoor

end
section
/- The program's Check of fractions. -/
namespace Go.Proofs.YtlblfgbpogljoaaGreatDoor
open Go Go.RowKit Go.Sy
open Vi
end Go.Proofs.YtlblfgbpogljoaaGreatDoor
namespace Go.Proofs.YtlblfgbpogljoaaGreatDoor
open Go Go.RowKit Go.Sy
open Vi
end Go.Proofs.YtlblfgbpogljoaaGreatDoor
namespace Go.Proofs.YtlblfgbpogljoaaGreatDoor
open Go Go.RowKit Go.Sy
open Vi
end Go.Proofs.YtlblfgbpogljoaaGreatDoor
namespace Go.Proofs.YtlblfgbpogljoaaGreatDoor
open Go Go.RowKit Go.Sy
open Vi
theorem rlC_rat (q : Rat) : rlC (Rl.rat q) = [.bool (sg q.num), .string (mg q.num), .bool (sg (dn q)), .string (mg (dn q)), .bool false, .string ⟨#[]⟩, .bool false, .string ⟨#[]⟩, .bool false] := by
 unfold rlC Rl.rat
 rw [show (0 : Rat).num = 0 from rfl, show dn 0 = 0 from rfl, sg0, mg0]
end Go.Proofs.YtlblfgbpogljoaaGreatDoor
namespace Go.Proofs.YtlblfgbpogljoaaGreatDoor
open Go Go.RowKit Go.Sy
open Vi
end Go.Proofs.YtlblfgbpogljoaaGreatDoor
namespace Go.Proofs.YtlblfgbpogljoaaGreatDoor
open Go Go.RowKit Go.Sy
open Vi
end Go.Proofs.YtlblfgbpogljoaaGreatDoor
namespace Go.Proofs.YtlblfgbpogljoaaGreatDoor
open Go Go.RowKit Go.Sy
open Vi
end Go.Proofs.YtlblfgbpogljoaaGreatDoor

end
section
/- Reference 04: numbers with a root, functions and their values. -/
namespace Go.Proofs.YtlblfgbpogljoaaGreatDoor
open Go Go.RowKit Go.Sy
open Vi
theorem vDegree (a b c : Rat) : Sp Tryz.prog 40 [] [qV a b c] (nV (dgQ a b c)) [] := by
 unfold dgQ
 have S1 := rSgn c
 have S2 := rSgn b
 have S3 := rSgn a
 have e1 := sgQ_ne0 c
 have e2 := sgQ_ne0 b
 have e3 := sgQ_ne0 a
 generalize sgQ c = z1 at *
 generalize sgQ b = z2 at *
 generalize sgQ a = z3 at *
 by_cases h1 : c = 0
 ·rw [decide_eq_false (by simp [h1])] at e1
  rw [if_neg (by simp [h1])]
  by_cases h2 : b = 0
  ·rw [decide_eq_false (by simp [h2])] at e2
   rw [if_neg (by simp [h2])]
   by_cases h3 : a = 0
   ·rw [decide_eq_false (by simp [h3])] at e3
    rw [if_neg (by simp [h3])]
    clear h1 h2 h3
    exact walk (code := Tryz.f40.body.getD .skip) [Sy.c S1, eb e1, Sy.c S2, eb e2, Sy.c S3, eb e3] fol Tryz.func40 (by kernel_rfl) (fun xs w => Tryz.call40 xs w) (by kernel_rfl)
   ·rw [decide_eq_true h3] at e3
    rw [if_pos h3]
    clear h1 h2 h3
    exact walk (code := Tryz.f40.body.getD .skip) [Sy.c S1, eb e1, Sy.c S2, eb e2, Sy.c S3, eb e3] fol Tryz.func40 (by kernel_rfl) (fun xs w => Tryz.call40 xs w) (by kernel_rfl)
  ·rw [decide_eq_true h2] at e2
   rw [if_pos h2]
   clear h1 h2
   exact walk (code := Tryz.f40.body.getD .skip) [Sy.c S1, eb e1, Sy.c S2, eb e2] fol Tryz.func40 (by kernel_rfl) (fun xs w => Tryz.call40 xs w) (by kernel_rfl)
 ·rw [decide_eq_true h1] at e1
  rw [if_pos h1]
  clear h1
  exact walk (code := Tryz.f40.body.getD .skip) [Sy.c S1, eb e1] fol Tryz.func40 (by kernel_rfl) (fun xs w => Tryz.call40 xs w) (by kernel_rfl)
end Go.Proofs.YtlblfgbpogljoaaGreatDoor

end
section
/- Reference 04: intervals, roots. -/
namespace Go.Proofs.YtlblfgbpogljoaaGreatDoor
open Go Go.RowKit Go.Sy
open Vi
theorem vContains (F T t : Rl) (oF oT : Bool) {i j k l m n : Nat} [HasSz F.p i] [HasSz F.r j] [HasSz T.p k] [HasSz T.r l] [HasSz t.p m] [HasSz t.r n] (hF : 0 ≤ F.r) (hT : 0 ≤ T.r) (ht : 0 ≤ t.r) (hs : i + j + k + l + m + n ≤ 900 := by first | omega | decide) :
    Sp Tryz.prog 47 [] [ivV F T oF oT, rlV t] (.bool (inC (Rl.cmp F t) (Rl.cmp t T) oF oT)) [] := by
 have A := vCompare F t hF ht
 have B := vCompare t T ht hT
 obtain ⟨a1, a2⟩ : -1 ≤ Rl.cmp F t ∧ Rl.cmp F t ≤ 1 := sgR_in _
 obtain ⟨b1, b2⟩ : -1 ≤ Rl.cmp t T ∧ Rl.cmp t T ≤ 1 := sgR_in _
 generalize Rl.cmp F t = a at *
 generalize Rl.cmp t T = b at *
 clear hs hF hT ht
 obtain ⟨Fp, Fr, Fn⟩ := F
 obtain ⟨Tp, Tr, Tn⟩ := T
 obtain ⟨tp, tr, tn⟩ := t
 dsimp only at *
 rcases (by omega : a = -1 ∨ a = 0 ∨ a = 1) with rfl | rfl | rfl
 ·rcases (by omega : b = -1 ∨ b = 0 ∨ b = 1) with rfl | rfl | rfl
  ·clear a1 a2 b1 b2
   exact walk (code := Tryz.f47.body.getD .skip) [c A, c B] fol Tryz.func47 (by kernel_rfl) (fun xs w => Tryz.call47 xs w) (by kernel_rfl)
  ·clear a1 a2 b1 b2
   cases oT
   ·exact walk (code := Tryz.f47.body.getD .skip) [c A, c B] fol Tryz.func47 (by kernel_rfl) (fun xs w => Tryz.call47 xs w) (by kernel_rfl)
   ·exact walk (code := Tryz.f47.body.getD .skip) [c A, c B] fol Tryz.func47 (by kernel_rfl) (fun xs w => Tryz.call47 xs w) (by kernel_rfl)
  ·clear a1 a2 b1 b2
   exact walk (code := Tryz.f47.body.getD .skip) [c A, c B] fol Tryz.func47 (by kernel_rfl) (fun xs w => Tryz.call47 xs w) (by kernel_rfl)
 ·cases oF
  ·rcases (by omega : b = -1 ∨ b = 0 ∨ b = 1) with rfl | rfl | rfl
   ·clear a1 a2 b1 b2
    exact walk (code := Tryz.f47.body.getD .skip) [c A, c B] fol Tryz.func47 (by kernel_rfl) (fun xs w => Tryz.call47 xs w) (by kernel_rfl)
   ·clear a1 a2 b1 b2
    cases oT
    ·exact walk (code := Tryz.f47.body.getD .skip) [c A, c B] fol Tryz.func47 (by kernel_rfl) (fun xs w => Tryz.call47 xs w) (by kernel_rfl)
    ·exact walk (code := Tryz.f47.body.getD .skip) [c A, c B] fol Tryz.func47 (by kernel_rfl) (fun xs w => Tryz.call47 xs w) (by kernel_rfl)
   ·clear a1 a2 b1 b2
    exact walk (code := Tryz.f47.body.getD .skip) [c A, c B] fol Tryz.func47 (by kernel_rfl) (fun xs w => Tryz.call47 xs w) (by kernel_rfl)
  ·rcases (by omega : b = -1 ∨ b = 0 ∨ b = 1) with rfl | rfl | rfl
   ·clear a1 a2 b1 b2
    exact walk (code := Tryz.f47.body.getD .skip) [c A, c B] fol Tryz.func47 (by kernel_rfl) (fun xs w => Tryz.call47 xs w) (by kernel_rfl)
   ·clear a1 a2 b1 b2
    cases oT
    ·exact walk (code := Tryz.f47.body.getD .skip) [c A, c B] fol Tryz.func47 (by kernel_rfl) (fun xs w => Tryz.call47 xs w) (by kernel_rfl)
    ·exact walk (code := Tryz.f47.body.getD .skip) [c A, c B] fol Tryz.func47 (by kernel_rfl) (fun xs w => Tryz.call47 xs w) (by kernel_rfl)
   ·clear a1 a2 b1 b2
    exact walk (code := Tryz.f47.body.getD .skip) [c A, c B] fol Tryz.func47 (by kernel_rfl) (fun xs w => Tryz.call47 xs w) (by kernel_rfl)
 ·rcases (by omega : b = -1 ∨ b = 0 ∨ b = 1) with rfl | rfl | rfl
  ·clear a1 a2 b1 b2
   exact walk (code := Tryz.f47.body.getD .skip) [c A, c B] fol Tryz.func47 (by kernel_rfl) (fun xs w => Tryz.call47 xs w) (by kernel_rfl)
  ·clear a1 a2 b1 b2
   cases oT
   ·exact walk (code := Tryz.f47.body.getD .skip) [c A, c B] fol Tryz.func47 (by kernel_rfl) (fun xs w => Tryz.call47 xs w) (by kernel_rfl)
   ·exact walk (code := Tryz.f47.body.getD .skip) [c A, c B] fol Tryz.func47 (by kernel_rfl) (fun xs w => Tryz.call47 xs w) (by kernel_rfl)
  ·clear a1 a2 b1 b2
   exact walk (code := Tryz.f47.body.getD .skip) [c A, c B] fol Tryz.func47 (by kernel_rfl) (fun xs w => Tryz.call47 xs w) (by kernel_rfl)
end Go.Proofs.YtlblfgbpogljoaaGreatDoor

end
section
/- Reference 04: what is valid; an interval's fault. -/
namespace Go.Proofs.YtlblfgbpogljoaaGreatDoor
open Go Go.RowKit Go.Sy
open Vi
theorem vValid (x : Rl) (hx : x.Ok) (h1 : Fits x.p) (h2 : Fits x.r) : Sp Tryz.prog 112 [] [rlV x] (.bool true) [] := by
 have A := rCheckQ x.p h1
 have B := rCheckQ x.r h2
 have S := rSgn x.r
 rcases hx with ⟨r0, n0⟩ | ⟨rp, irr⟩
 ·obtain ⟨p, r, neg⟩ := x
  dsimp only at *
  subst r0 n0
  rw [show sgQ 0 = 0 from rfl] at S
  clear h1 h2
  generalize (0 : Rat) = z at *
  exact walk (code := Tryz.f112.body.getD .skip) [c A, c B, c S, c S] fol Tryz.func112 (by kernel_rfl) (fun xs w => Tryz.call112 xs w) (by kernel_rfl)
 ·rw [show sgQ x.r = 1 by unfold sgQ; rw [if_neg (by grind), if_neg (by grind)]] at S
  rcases rRoot x.r h2 with ⟨w, _, hw, R⟩ | ⟨_, R⟩
  ·exact absurd hw (irr w)
  ·obtain ⟨p, r, neg⟩ := x
   dsimp only at *
   clear h1 h2 rp irr
   exact walk (code := Tryz.f112.body.getD .skip) [c A, c B, c S, c S, c R] fol Tryz.func112 (by kernel_rfl) (fun xs w => Tryz.call112 xs w) (by kernel_rfl)
theorem vFault (F T : Rl) (oF oT : Bool) {i j k l : Nat} [HasSz F.p i] [HasSz F.r j] [HasSz T.p k] [HasSz T.r l] (hF : F.Ok) (hT : T.Ok) (hs : i + j + k + l ≤ 900 := by first | omega | decide) :
    Sp Tryz.prog 45 [] [ivV F T oF oT] (nV (faC (Rl.cmp F T) oF oT)) [] := by
 have K1 := vValid F hF fz fz
 have K2 := vValid T hT fz fz
 have A := vCompare F T hF.nonneg hT.nonneg
 obtain ⟨a1, a2⟩ : -1 ≤ Rl.cmp F T ∧ Rl.cmp F T ≤ 1 := sgR_in _
 generalize Rl.cmp F T = a at *
 clear hs hF hT
 obtain ⟨Fp, Fr, Fn⟩ := F
 obtain ⟨Tp, Tr, Tn⟩ := T
 dsimp only at *
 rcases (by omega : a = -1 ∨ a = 0 ∨ a = 1) with rfl | rfl | rfl
 ·clear a1 a2
  exact walk (code := Tryz.f45.body.getD .skip) [c K1, c K2, c A] fol Tryz.func45 (by kernel_rfl) (fun xs w => Tryz.call45 xs w) (by kernel_rfl)
 ·clear a1 a2
  cases oF
  ·cases oT
   ·exact walk (code := Tryz.f45.body.getD .skip) [c K1, c K2, c A] fol Tryz.func45 (by kernel_rfl) (fun xs w => Tryz.call45 xs w) (by kernel_rfl)
   ·exact walk (code := Tryz.f45.body.getD .skip) [c K1, c K2, c A] fol Tryz.func45 (by kernel_rfl) (fun xs w => Tryz.call45 xs w) (by kernel_rfl)
  ·exact walk (code := Tryz.f45.body.getD .skip) [c K1, c K2, c A] fol Tryz.func45 (by kernel_rfl) (fun xs w => Tryz.call45 xs w) (by kernel_rfl)
 ·clear a1 a2
  exact walk (code := Tryz.f45.body.getD .skip) [c K1, c K2, c A] fol Tryz.func45 (by kernel_rfl) (fun xs w => Tryz.call45 xs w) (by kernel_rfl)
end Go.Proofs.YtlblfgbpogljoaaGreatDoor

end
section
/- Reference 04: the sign between two instants; roots. -/
namespace Go.Proofs.YtlblfgbpogljoaaGreatDoor
open Go Go.RowKit Go.Sy
open Vi
theorem half2 {b c : Rat} (hc : c ≠ 0) : -(b / (2 * c)) = b / (-2 * c) := by
 have h2 : (2 : Rat) * c ≠ 0 := fun e => by rcases Rat.mul_eq_zero.1 e with h | h; exact absurd h (by decide +kernel); exact hc h
 obtain ⟨t, ht⟩ : ∃ t, t = b / (2 * c) := ⟨_, rfl⟩
 have e : b = t * (2 * c) := by rw [ht]; exact (Rat.div_mul_cancel h2).symm
 obtain ⟨u, hu⟩ : ∃ u, u = b / (-2 * c) := ⟨_, rfl⟩
 have e2 : b = u * (-2 * c) := by rw [hu]; exact (Rat.div_mul_cancel (m2_ne hc)).symm
 rw [← ht, ← hu]
 have e3 : (t + u) * c = 0 := by grind
 rcases Rat.mul_eq_zero.1 e3 with h | h
 ·grind
 ·exact absurd h hc
end Go.Proofs.YtlblfgbpogljoaaGreatDoor

end
section
/- Chapter 4: intervals of the laws; equality of intervals; Signs of what is 0 everywhere, or of no interval. -/
namespace Go.Proofs.YtlblfgbpogljoaaGreatDoor
open Go Go.RowKit Go.Sy
open Vi
abbrev spV (n1 d1 n2 d2 : Int) (neg : Bool) (n3 d3 n4 d4 : Int) (neg2 oF oT : Bool) : Value := .agg #[.int .i16 n1, .int .u8 d1, .int .i16 n2, .int .u8 d2, .bool neg, .int .i16 n3, .int .u8 d3, .int .i16 n4, .int .u8 d4, .bool neg2, .bool oF, .bool oT]
theorem wInterval (n1 d1 n2 d2 : Int) (neg : Bool) (n3 d3 n4 d4 : Int) (neg2 oF oT : Bool) (h1 : Cn n1 d1) (h2 : Cn n2 d2) (h3 : Cn n3 d3) (h4 : Cn n4 d4) :
    Sp Tryz.prog 43 [] [spV n1 d1 n2 d2 neg n3 d3 n4 d4 neg2 oF oT] (ivV (tmR n1 d1 n2 d2 neg) (tmR n3 d3 n4 d4 neg2) oF oT) [] := by
 have A := wReal n1 d1 n2 d2 neg h1 h2
 have B := wReal n3 d3 n4 d4 neg2 h3 h4
 clear h1 h2 h3 h4
 generalize tmR n1 d1 n2 d2 neg = F at *
 generalize tmR n3 d3 n4 d4 neg2 = T at *
 obtain ⟨Fp, Fr, Fn⟩ := F
 obtain ⟨Tp, Tr, Tn⟩ := T
 exact walk (code := Tryz.f43.body.getD .skip) [c A, c B] fol Tryz.func43 (by kernel_rfl) (fun xs w => Tryz.call43 xs w) (by kernel_rfl)
end Go.Proofs.YtlblfgbpogljoaaGreatDoor

end
section
/- Reference 04: the rounds of Extreme. -/
namespace Go.Proofs.YtlblfgbpogljoaaGreatDoor
open Go Go.RowKit Go.Sy
open Vi
def stV (ti : Int) (a b c : Rat) (I : Iv) (n : Nat) (L : List Value) (i : Int) (V A : Rl) : St :=
 ⟨114, 0, [(2, nV ti), (3, ptr 0 0), (4, ptr 1 0), (6, ptr 2 0), (7, ptr 3 0), (8, .bool false), (9, row 4 n), (11, nV i)], junk,
  [(0, blk 67 (qC a b c)), (1, blk 32 (ivC I)), (2, blk 30 (rlC V)), (3, blk 30 (rlC A)), (4, Sy.own 30 9 n L)], 5⟩
def stW (a b c : Rat) (I : Iv) (n : Nat) (L : List Value) (i : Int) (V A : Rl) (m : Bool) : St :=
 ⟨114, 0, [(3, ptr 0 0), (4, ptr 1 0), (6, ptr 2 0), (7, ptr 3 0), (8, .bool m), (9, row 4 n), (13, nV i)], junk,
  [(0, blk 67 (qC a b c)), (1, blk 32 (ivC I)), (2, blk 30 (rlC V)), (3, blk 30 (rlC A)), (4, Sy.own 30 9 n L)], 5⟩
theorem ya_21t (ti : Int) (a b c : Rat) (I : Iv) (t0 t1 V A v : Rl) (k s : Int) (At : Sp Tryz.prog 36 [] [qV a b c, rlV t1] (rlV v) []) (B : Sp Tryz.prog 42 [] [rlV v, rlV V] (nV k) []) (hw : IntKind.i64.wrap (ti * k) = s) (hs : decide (s < 0) = true) :
    CodeOk Tryz.prog (nthLoop 0 (Tryz.f52.body.getD .skip)) (stV ti a b c I 2 (rlC t0 ++ rlC t1) 1 V A) .normal (stV ti a b c I 2 (rlC t0 ++ rlC t1) 2 v t1) := by
 unfold stV qC rC rlC ivC
 obtain ⟨t0p, t0r, t0n⟩ := t0
 obtain ⟨t1p, t1r, t1n⟩ := t1
 obtain ⟨Vp, Vr, Vn⟩ := V
 obtain ⟨Ap, Ar, An⟩ := A
 obtain ⟨vp, vr, vn⟩ := v
 obtain ⟨⟨p1, q1, n1⟩, ⟨u1, v1, m1⟩, o1, e1⟩ := I
 exact piece [(0, 0), (1, 1), (2, 2), (3, 3), (4, 4)] [Sy.c At, Sy.c B, Go.Sy.e (congrArg (Value.int IntKind.i64) hw), eb hs] fol (by kernel_rfl)
theorem ya_21f (ti : Int) (a b c : Rat) (I : Iv) (t0 t1 V A v : Rl) (k s : Int) (At : Sp Tryz.prog 36 [] [qV a b c, rlV t1] (rlV v) []) (B : Sp Tryz.prog 42 [] [rlV v, rlV V] (nV k) []) (hw : IntKind.i64.wrap (ti * k) = s) (hs : decide (s < 0) = false) :
    CodeOk Tryz.prog (nthLoop 0 (Tryz.f52.body.getD .skip)) (stV ti a b c I 2 (rlC t0 ++ rlC t1) 1 V A) .normal (stV ti a b c I 2 (rlC t0 ++ rlC t1) 2 V A) := by
 unfold stV qC rC rlC ivC
 obtain ⟨t0p, t0r, t0n⟩ := t0
 obtain ⟨t1p, t1r, t1n⟩ := t1
 obtain ⟨Vp, Vr, Vn⟩ := V
 obtain ⟨Ap, Ar, An⟩ := A
 obtain ⟨vp, vr, vn⟩ := v
 obtain ⟨⟨p1, q1, n1⟩, ⟨u1, v1, m1⟩, o1, e1⟩ := I
 exact piece [(0, 0), (1, 1), (2, 2), (3, 3), (4, 4)] [Sy.c At, Sy.c B, Go.Sy.e (congrArg (Value.int IntKind.i64) hw), eb hs] fol (by kernel_rfl)
theorem ya_2x (ti : Int) (a b c : Rat) (I : Iv) (t0 t1 V A : Rl) : CodeOk Tryz.prog (nthLoop 0 (Tryz.f52.body.getD .skip)) (stV ti a b c I 2 (rlC t0 ++ rlC t1) 2 V A) (.exit 0) (stV ti a b c I 2 (rlC t0 ++ rlC t1) 2 V A) := by
 unfold stV qC rC rlC ivC
 obtain ⟨t0p, t0r, t0n⟩ := t0
 obtain ⟨t1p, t1r, t1n⟩ := t1
 obtain ⟨Vp, Vr, Vn⟩ := V
 obtain ⟨Ap, Ar, An⟩ := A
 obtain ⟨⟨p1, q1, n1⟩, ⟨u1, v1, m1⟩, o1, e1⟩ := I
 exact piece [(0, 0), (1, 1), (2, 2), (3, 3), (4, 4)] [] fol (by kernel_rfl)
theorem yb_20s (a b c : Rat) (I : Iv) (t0 t1 V A v : Rl) :
    CodeOk Tryz.prog (nthLoop 1 (Tryz.f52.body.getD .skip)) (stW a b c I 2 (rlC t0 ++ rlC t1) 0 V A true) .normal (stW a b c I 2 (rlC t0 ++ rlC t1) 1 V A true) := by
 unfold stW qC rC rlC ivC
 obtain ⟨t0p, t0r, t0n⟩ := t0
 obtain ⟨t1p, t1r, t1n⟩ := t1
 obtain ⟨Vp, Vr, Vn⟩ := V
 obtain ⟨Ap, Ar, An⟩ := A
 obtain ⟨vp, vr, vn⟩ := v
 obtain ⟨⟨p1, q1, n1⟩, ⟨u1, v1, m1⟩, o1, e1⟩ := I
 exact piece [(0, 0), (1, 1), (2, 2), (3, 3), (4, 4)] [] fol (by kernel_rfl)
theorem yb_20n (a b c : Rat) (I : Iv) (t0 t1 V A v : Rl) (k : Int) (At : Sp Tryz.prog 36 [] [qV a b c, rlV t0] (rlV v) []) (B : Sp Tryz.prog 42 [] [rlV v, rlV V] (nV k) []) (hk : decide (k = 0) = false) :
    CodeOk Tryz.prog (nthLoop 1 (Tryz.f52.body.getD .skip)) (stW a b c I 2 (rlC t0 ++ rlC t1) 0 V A false) .normal (stW a b c I 2 (rlC t0 ++ rlC t1) 1 V A false) := by
 unfold stW qC rC rlC ivC
 obtain ⟨t0p, t0r, t0n⟩ := t0
 obtain ⟨t1p, t1r, t1n⟩ := t1
 obtain ⟨Vp, Vr, Vn⟩ := V
 obtain ⟨Ap, Ar, An⟩ := A
 obtain ⟨vp, vr, vn⟩ := v
 obtain ⟨⟨p1, q1, n1⟩, ⟨u1, v1, m1⟩, o1, e1⟩ := I
 exact piece [(0, 0), (1, 1), (2, 2), (3, 3), (4, 4)] [Sy.c At, Sy.c B, eb hk] fol (by kernel_rfl)
theorem yb_20f (a b c : Rat) (I : Iv) (t0 t1 V A v : Rl) (k : Int) (At : Sp Tryz.prog 36 [] [qV a b c, rlV t0] (rlV v) []) (B : Sp Tryz.prog 42 [] [rlV v, rlV V] (nV k) []) (hk : decide (k = 0) = true) (C : Sp Tryz.prog 47 [] [ivV I.F I.T I.oF I.oT, rlV t0] (.bool false) []) :
    CodeOk Tryz.prog (nthLoop 1 (Tryz.f52.body.getD .skip)) (stW a b c I 2 (rlC t0 ++ rlC t1) 0 V A false) .normal (stW a b c I 2 (rlC t0 ++ rlC t1) 1 V A false) := by
 unfold stW qC rC rlC ivC
 obtain ⟨t0p, t0r, t0n⟩ := t0
 obtain ⟨t1p, t1r, t1n⟩ := t1
 obtain ⟨Vp, Vr, Vn⟩ := V
 obtain ⟨Ap, Ar, An⟩ := A
 obtain ⟨vp, vr, vn⟩ := v
 obtain ⟨⟨p1, q1, n1⟩, ⟨u1, v1, m1⟩, o1, e1⟩ := I
 exact piece [(0, 0), (1, 1), (2, 2), (3, 3), (4, 4)] [Sy.c At, Sy.c B, eb hk, Sy.c C] fol (by kernel_rfl)
theorem yb_20t (a b c : Rat) (I : Iv) (t0 t1 V A v : Rl) (k : Int) (At : Sp Tryz.prog 36 [] [qV a b c, rlV t0] (rlV v) []) (B : Sp Tryz.prog 42 [] [rlV v, rlV V] (nV k) []) (hk : decide (k = 0) = true) (C : Sp Tryz.prog 47 [] [ivV I.F I.T I.oF I.oT, rlV t0] (.bool true) []) :
    CodeOk Tryz.prog (nthLoop 1 (Tryz.f52.body.getD .skip)) (stW a b c I 2 (rlC t0 ++ rlC t1) 0 V A false) .normal (stW a b c I 2 (rlC t0 ++ rlC t1) 1 V A true) := by
 unfold stW qC rC rlC ivC
 obtain ⟨t0p, t0r, t0n⟩ := t0
 obtain ⟨t1p, t1r, t1n⟩ := t1
 obtain ⟨Vp, Vr, Vn⟩ := V
 obtain ⟨Ap, Ar, An⟩ := A
 obtain ⟨vp, vr, vn⟩ := v
 obtain ⟨⟨p1, q1, n1⟩, ⟨u1, v1, m1⟩, o1, e1⟩ := I
 exact piece [(0, 0), (1, 1), (2, 2), (3, 3), (4, 4)] [Sy.c At, Sy.c B, eb hk, Sy.c C] fol (by kernel_rfl)
theorem yb_21s (a b c : Rat) (I : Iv) (t0 t1 V A v : Rl) :
    CodeOk Tryz.prog (nthLoop 1 (Tryz.f52.body.getD .skip)) (stW a b c I 2 (rlC t0 ++ rlC t1) 1 V A true) .normal (stW a b c I 2 (rlC t0 ++ rlC t1) 2 V A true) := by
 unfold stW qC rC rlC ivC
 obtain ⟨t0p, t0r, t0n⟩ := t0
 obtain ⟨t1p, t1r, t1n⟩ := t1
 obtain ⟨Vp, Vr, Vn⟩ := V
 obtain ⟨Ap, Ar, An⟩ := A
 obtain ⟨vp, vr, vn⟩ := v
 obtain ⟨⟨p1, q1, n1⟩, ⟨u1, v1, m1⟩, o1, e1⟩ := I
 exact piece [(0, 0), (1, 1), (2, 2), (3, 3), (4, 4)] [] fol (by kernel_rfl)
theorem yb_21n (a b c : Rat) (I : Iv) (t0 t1 V A v : Rl) (k : Int) (At : Sp Tryz.prog 36 [] [qV a b c, rlV t1] (rlV v) []) (B : Sp Tryz.prog 42 [] [rlV v, rlV V] (nV k) []) (hk : decide (k = 0) = false) :
    CodeOk Tryz.prog (nthLoop 1 (Tryz.f52.body.getD .skip)) (stW a b c I 2 (rlC t0 ++ rlC t1) 1 V A false) .normal (stW a b c I 2 (rlC t0 ++ rlC t1) 2 V A false) := by
 unfold stW qC rC rlC ivC
 obtain ⟨t0p, t0r, t0n⟩ := t0
 obtain ⟨t1p, t1r, t1n⟩ := t1
 obtain ⟨Vp, Vr, Vn⟩ := V
 obtain ⟨Ap, Ar, An⟩ := A
 obtain ⟨vp, vr, vn⟩ := v
 obtain ⟨⟨p1, q1, n1⟩, ⟨u1, v1, m1⟩, o1, e1⟩ := I
 exact piece [(0, 0), (1, 1), (2, 2), (3, 3), (4, 4)] [Sy.c At, Sy.c B, eb hk] fol (by kernel_rfl)
theorem yb_21f (a b c : Rat) (I : Iv) (t0 t1 V A v : Rl) (k : Int) (At : Sp Tryz.prog 36 [] [qV a b c, rlV t1] (rlV v) []) (B : Sp Tryz.prog 42 [] [rlV v, rlV V] (nV k) []) (hk : decide (k = 0) = true) (C : Sp Tryz.prog 47 [] [ivV I.F I.T I.oF I.oT, rlV t1] (.bool false) []) :
    CodeOk Tryz.prog (nthLoop 1 (Tryz.f52.body.getD .skip)) (stW a b c I 2 (rlC t0 ++ rlC t1) 1 V A false) .normal (stW a b c I 2 (rlC t0 ++ rlC t1) 2 V A false) := by
 unfold stW qC rC rlC ivC
 obtain ⟨t0p, t0r, t0n⟩ := t0
 obtain ⟨t1p, t1r, t1n⟩ := t1
 obtain ⟨Vp, Vr, Vn⟩ := V
 obtain ⟨Ap, Ar, An⟩ := A
 obtain ⟨vp, vr, vn⟩ := v
 obtain ⟨⟨p1, q1, n1⟩, ⟨u1, v1, m1⟩, o1, e1⟩ := I
 exact piece [(0, 0), (1, 1), (2, 2), (3, 3), (4, 4)] [Sy.c At, Sy.c B, eb hk, Sy.c C] fol (by kernel_rfl)
theorem yb_21t (a b c : Rat) (I : Iv) (t0 t1 V A v : Rl) (k : Int) (At : Sp Tryz.prog 36 [] [qV a b c, rlV t1] (rlV v) []) (B : Sp Tryz.prog 42 [] [rlV v, rlV V] (nV k) []) (hk : decide (k = 0) = true) (C : Sp Tryz.prog 47 [] [ivV I.F I.T I.oF I.oT, rlV t1] (.bool true) []) :
    CodeOk Tryz.prog (nthLoop 1 (Tryz.f52.body.getD .skip)) (stW a b c I 2 (rlC t0 ++ rlC t1) 1 V A false) .normal (stW a b c I 2 (rlC t0 ++ rlC t1) 2 V A true) := by
 unfold stW qC rC rlC ivC
 obtain ⟨t0p, t0r, t0n⟩ := t0
 obtain ⟨t1p, t1r, t1n⟩ := t1
 obtain ⟨Vp, Vr, Vn⟩ := V
 obtain ⟨Ap, Ar, An⟩ := A
 obtain ⟨vp, vr, vn⟩ := v
 obtain ⟨⟨p1, q1, n1⟩, ⟨u1, v1, m1⟩, o1, e1⟩ := I
 exact piece [(0, 0), (1, 1), (2, 2), (3, 3), (4, 4)] [Sy.c At, Sy.c B, eb hk, Sy.c C] fol (by kernel_rfl)
theorem yb_2x (a b c : Rat) (I : Iv) (t0 t1 V A : Rl) (m : Bool) : CodeOk Tryz.prog (nthLoop 1 (Tryz.f52.body.getD .skip)) (stW a b c I 2 (rlC t0 ++ rlC t1) 2 V A m) (.exit 2) (stW a b c I 2 (rlC t0 ++ rlC t1) 2 V A m) := by
 unfold stW qC rC rlC ivC
 obtain ⟨t0p, t0r, t0n⟩ := t0
 obtain ⟨t1p, t1r, t1n⟩ := t1
 obtain ⟨Vp, Vr, Vn⟩ := V
 obtain ⟨Ap, Ar, An⟩ := A
 obtain ⟨⟨p1, q1, n1⟩, ⟨u1, v1, m1⟩, o1, e1⟩ := I
 exact piece [(0, 0), (1, 1), (2, 2), (3, 3), (4, 4)] [] fol (by kernel_rfl)
theorem ya_31t (ti : Int) (a b c : Rat) (I : Iv) (t0 t1 t2 V A v : Rl) (k s : Int) (At : Sp Tryz.prog 36 [] [qV a b c, rlV t1] (rlV v) []) (B : Sp Tryz.prog 42 [] [rlV v, rlV V] (nV k) []) (hw : IntKind.i64.wrap (ti * k) = s) (hs : decide (s < 0) = true) :
    CodeOk Tryz.prog (nthLoop 0 (Tryz.f52.body.getD .skip)) (stV ti a b c I 3 (rlC t0 ++ rlC t1 ++ rlC t2) 1 V A) .normal (stV ti a b c I 3 (rlC t0 ++ rlC t1 ++ rlC t2) 2 v t1) := by
 unfold stV qC rC rlC ivC
 obtain ⟨t0p, t0r, t0n⟩ := t0
 obtain ⟨t1p, t1r, t1n⟩ := t1
 obtain ⟨t2p, t2r, t2n⟩ := t2
 obtain ⟨Vp, Vr, Vn⟩ := V
 obtain ⟨Ap, Ar, An⟩ := A
 obtain ⟨vp, vr, vn⟩ := v
 obtain ⟨⟨p1, q1, n1⟩, ⟨u1, v1, m1⟩, o1, e1⟩ := I
 exact piece [(0, 0), (1, 1), (2, 2), (3, 3), (4, 4)] [Sy.c At, Sy.c B, Go.Sy.e (congrArg (Value.int IntKind.i64) hw), eb hs] fol (by kernel_rfl)
theorem ya_31f (ti : Int) (a b c : Rat) (I : Iv) (t0 t1 t2 V A v : Rl) (k s : Int) (At : Sp Tryz.prog 36 [] [qV a b c, rlV t1] (rlV v) []) (B : Sp Tryz.prog 42 [] [rlV v, rlV V] (nV k) []) (hw : IntKind.i64.wrap (ti * k) = s) (hs : decide (s < 0) = false) :
    CodeOk Tryz.prog (nthLoop 0 (Tryz.f52.body.getD .skip)) (stV ti a b c I 3 (rlC t0 ++ rlC t1 ++ rlC t2) 1 V A) .normal (stV ti a b c I 3 (rlC t0 ++ rlC t1 ++ rlC t2) 2 V A) := by
 unfold stV qC rC rlC ivC
 obtain ⟨t0p, t0r, t0n⟩ := t0
 obtain ⟨t1p, t1r, t1n⟩ := t1
 obtain ⟨t2p, t2r, t2n⟩ := t2
 obtain ⟨Vp, Vr, Vn⟩ := V
 obtain ⟨Ap, Ar, An⟩ := A
 obtain ⟨vp, vr, vn⟩ := v
 obtain ⟨⟨p1, q1, n1⟩, ⟨u1, v1, m1⟩, o1, e1⟩ := I
 exact piece [(0, 0), (1, 1), (2, 2), (3, 3), (4, 4)] [Sy.c At, Sy.c B, Go.Sy.e (congrArg (Value.int IntKind.i64) hw), eb hs] fol (by kernel_rfl)
theorem ya_32t (ti : Int) (a b c : Rat) (I : Iv) (t0 t1 t2 V A v : Rl) (k s : Int) (At : Sp Tryz.prog 36 [] [qV a b c, rlV t2] (rlV v) []) (B : Sp Tryz.prog 42 [] [rlV v, rlV V] (nV k) []) (hw : IntKind.i64.wrap (ti * k) = s) (hs : decide (s < 0) = true) :
    CodeOk Tryz.prog (nthLoop 0 (Tryz.f52.body.getD .skip)) (stV ti a b c I 3 (rlC t0 ++ rlC t1 ++ rlC t2) 2 V A) .normal (stV ti a b c I 3 (rlC t0 ++ rlC t1 ++ rlC t2) 3 v t2) := by
 unfold stV qC rC rlC ivC
 obtain ⟨t0p, t0r, t0n⟩ := t0
 obtain ⟨t1p, t1r, t1n⟩ := t1
 obtain ⟨t2p, t2r, t2n⟩ := t2
 obtain ⟨Vp, Vr, Vn⟩ := V
 obtain ⟨Ap, Ar, An⟩ := A
 obtain ⟨vp, vr, vn⟩ := v
 obtain ⟨⟨p1, q1, n1⟩, ⟨u1, v1, m1⟩, o1, e1⟩ := I
 exact piece [(0, 0), (1, 1), (2, 2), (3, 3), (4, 4)] [Sy.c At, Sy.c B, Go.Sy.e (congrArg (Value.int IntKind.i64) hw), eb hs] fol (by kernel_rfl)
theorem ya_32f (ti : Int) (a b c : Rat) (I : Iv) (t0 t1 t2 V A v : Rl) (k s : Int) (At : Sp Tryz.prog 36 [] [qV a b c, rlV t2] (rlV v) []) (B : Sp Tryz.prog 42 [] [rlV v, rlV V] (nV k) []) (hw : IntKind.i64.wrap (ti * k) = s) (hs : decide (s < 0) = false) :
    CodeOk Tryz.prog (nthLoop 0 (Tryz.f52.body.getD .skip)) (stV ti a b c I 3 (rlC t0 ++ rlC t1 ++ rlC t2) 2 V A) .normal (stV ti a b c I 3 (rlC t0 ++ rlC t1 ++ rlC t2) 3 V A) := by
 unfold stV qC rC rlC ivC
 obtain ⟨t0p, t0r, t0n⟩ := t0
 obtain ⟨t1p, t1r, t1n⟩ := t1
 obtain ⟨t2p, t2r, t2n⟩ := t2
 obtain ⟨Vp, Vr, Vn⟩ := V
 obtain ⟨Ap, Ar, An⟩ := A
 obtain ⟨vp, vr, vn⟩ := v
 obtain ⟨⟨p1, q1, n1⟩, ⟨u1, v1, m1⟩, o1, e1⟩ := I
 exact piece [(0, 0), (1, 1), (2, 2), (3, 3), (4, 4)] [Sy.c At, Sy.c B, Go.Sy.e (congrArg (Value.int IntKind.i64) hw), eb hs] fol (by kernel_rfl)
theorem ya_3x (ti : Int) (a b c : Rat) (I : Iv) (t0 t1 t2 V A : Rl) : CodeOk Tryz.prog (nthLoop 0 (Tryz.f52.body.getD .skip)) (stV ti a b c I 3 (rlC t0 ++ rlC t1 ++ rlC t2) 3 V A) (.exit 0) (stV ti a b c I 3 (rlC t0 ++ rlC t1 ++ rlC t2) 3 V A) := by
 unfold stV qC rC rlC ivC
 obtain ⟨t0p, t0r, t0n⟩ := t0
 obtain ⟨t1p, t1r, t1n⟩ := t1
 obtain ⟨t2p, t2r, t2n⟩ := t2
 obtain ⟨Vp, Vr, Vn⟩ := V
 obtain ⟨Ap, Ar, An⟩ := A
 obtain ⟨⟨p1, q1, n1⟩, ⟨u1, v1, m1⟩, o1, e1⟩ := I
 exact piece [(0, 0), (1, 1), (2, 2), (3, 3), (4, 4)] [] fol (by kernel_rfl)
theorem yb_30s (a b c : Rat) (I : Iv) (t0 t1 t2 V A v : Rl) :
    CodeOk Tryz.prog (nthLoop 1 (Tryz.f52.body.getD .skip)) (stW a b c I 3 (rlC t0 ++ rlC t1 ++ rlC t2) 0 V A true) .normal (stW a b c I 3 (rlC t0 ++ rlC t1 ++ rlC t2) 1 V A true) := by
 unfold stW qC rC rlC ivC
 obtain ⟨t0p, t0r, t0n⟩ := t0
 obtain ⟨t1p, t1r, t1n⟩ := t1
 obtain ⟨t2p, t2r, t2n⟩ := t2
 obtain ⟨Vp, Vr, Vn⟩ := V
 obtain ⟨Ap, Ar, An⟩ := A
 obtain ⟨vp, vr, vn⟩ := v
 obtain ⟨⟨p1, q1, n1⟩, ⟨u1, v1, m1⟩, o1, e1⟩ := I
 exact piece [(0, 0), (1, 1), (2, 2), (3, 3), (4, 4)] [] fol (by kernel_rfl)
theorem yb_30n (a b c : Rat) (I : Iv) (t0 t1 t2 V A v : Rl) (k : Int) (At : Sp Tryz.prog 36 [] [qV a b c, rlV t0] (rlV v) []) (B : Sp Tryz.prog 42 [] [rlV v, rlV V] (nV k) []) (hk : decide (k = 0) = false) :
    CodeOk Tryz.prog (nthLoop 1 (Tryz.f52.body.getD .skip)) (stW a b c I 3 (rlC t0 ++ rlC t1 ++ rlC t2) 0 V A false) .normal (stW a b c I 3 (rlC t0 ++ rlC t1 ++ rlC t2) 1 V A false) := by
 unfold stW qC rC rlC ivC
 obtain ⟨t0p, t0r, t0n⟩ := t0
 obtain ⟨t1p, t1r, t1n⟩ := t1
 obtain ⟨t2p, t2r, t2n⟩ := t2
 obtain ⟨Vp, Vr, Vn⟩ := V
 obtain ⟨Ap, Ar, An⟩ := A
 obtain ⟨vp, vr, vn⟩ := v
 obtain ⟨⟨p1, q1, n1⟩, ⟨u1, v1, m1⟩, o1, e1⟩ := I
 exact piece [(0, 0), (1, 1), (2, 2), (3, 3), (4, 4)] [Sy.c At, Sy.c B, eb hk] fol (by kernel_rfl)
theorem yb_30f (a b c : Rat) (I : Iv) (t0 t1 t2 V A v : Rl) (k : Int) (At : Sp Tryz.prog 36 [] [qV a b c, rlV t0] (rlV v) []) (B : Sp Tryz.prog 42 [] [rlV v, rlV V] (nV k) []) (hk : decide (k = 0) = true) (C : Sp Tryz.prog 47 [] [ivV I.F I.T I.oF I.oT, rlV t0] (.bool false) []) :
    CodeOk Tryz.prog (nthLoop 1 (Tryz.f52.body.getD .skip)) (stW a b c I 3 (rlC t0 ++ rlC t1 ++ rlC t2) 0 V A false) .normal (stW a b c I 3 (rlC t0 ++ rlC t1 ++ rlC t2) 1 V A false) := by
 unfold stW qC rC rlC ivC
 obtain ⟨t0p, t0r, t0n⟩ := t0
 obtain ⟨t1p, t1r, t1n⟩ := t1
 obtain ⟨t2p, t2r, t2n⟩ := t2
 obtain ⟨Vp, Vr, Vn⟩ := V
 obtain ⟨Ap, Ar, An⟩ := A
 obtain ⟨vp, vr, vn⟩ := v
 obtain ⟨⟨p1, q1, n1⟩, ⟨u1, v1, m1⟩, o1, e1⟩ := I
 exact piece [(0, 0), (1, 1), (2, 2), (3, 3), (4, 4)] [Sy.c At, Sy.c B, eb hk, Sy.c C] fol (by kernel_rfl)
theorem yb_30t (a b c : Rat) (I : Iv) (t0 t1 t2 V A v : Rl) (k : Int) (At : Sp Tryz.prog 36 [] [qV a b c, rlV t0] (rlV v) []) (B : Sp Tryz.prog 42 [] [rlV v, rlV V] (nV k) []) (hk : decide (k = 0) = true) (C : Sp Tryz.prog 47 [] [ivV I.F I.T I.oF I.oT, rlV t0] (.bool true) []) :
    CodeOk Tryz.prog (nthLoop 1 (Tryz.f52.body.getD .skip)) (stW a b c I 3 (rlC t0 ++ rlC t1 ++ rlC t2) 0 V A false) .normal (stW a b c I 3 (rlC t0 ++ rlC t1 ++ rlC t2) 1 V A true) := by
 unfold stW qC rC rlC ivC
 obtain ⟨t0p, t0r, t0n⟩ := t0
 obtain ⟨t1p, t1r, t1n⟩ := t1
 obtain ⟨t2p, t2r, t2n⟩ := t2
 obtain ⟨Vp, Vr, Vn⟩ := V
 obtain ⟨Ap, Ar, An⟩ := A
 obtain ⟨vp, vr, vn⟩ := v
 obtain ⟨⟨p1, q1, n1⟩, ⟨u1, v1, m1⟩, o1, e1⟩ := I
 exact piece [(0, 0), (1, 1), (2, 2), (3, 3), (4, 4)] [Sy.c At, Sy.c B, eb hk, Sy.c C] fol (by kernel_rfl)
theorem yb_31s (a b c : Rat) (I : Iv) (t0 t1 t2 V A v : Rl) :
    CodeOk Tryz.prog (nthLoop 1 (Tryz.f52.body.getD .skip)) (stW a b c I 3 (rlC t0 ++ rlC t1 ++ rlC t2) 1 V A true) .normal (stW a b c I 3 (rlC t0 ++ rlC t1 ++ rlC t2) 2 V A true) := by
 unfold stW qC rC rlC ivC
 obtain ⟨t0p, t0r, t0n⟩ := t0
 obtain ⟨t1p, t1r, t1n⟩ := t1
 obtain ⟨t2p, t2r, t2n⟩ := t2
 obtain ⟨Vp, Vr, Vn⟩ := V
 obtain ⟨Ap, Ar, An⟩ := A
 obtain ⟨vp, vr, vn⟩ := v
 obtain ⟨⟨p1, q1, n1⟩, ⟨u1, v1, m1⟩, o1, e1⟩ := I
 exact piece [(0, 0), (1, 1), (2, 2), (3, 3), (4, 4)] [] fol (by kernel_rfl)
theorem yb_31n (a b c : Rat) (I : Iv) (t0 t1 t2 V A v : Rl) (k : Int) (At : Sp Tryz.prog 36 [] [qV a b c, rlV t1] (rlV v) []) (B : Sp Tryz.prog 42 [] [rlV v, rlV V] (nV k) []) (hk : decide (k = 0) = false) :
    CodeOk Tryz.prog (nthLoop 1 (Tryz.f52.body.getD .skip)) (stW a b c I 3 (rlC t0 ++ rlC t1 ++ rlC t2) 1 V A false) .normal (stW a b c I 3 (rlC t0 ++ rlC t1 ++ rlC t2) 2 V A false) := by
 unfold stW qC rC rlC ivC
 obtain ⟨t0p, t0r, t0n⟩ := t0
 obtain ⟨t1p, t1r, t1n⟩ := t1
 obtain ⟨t2p, t2r, t2n⟩ := t2
 obtain ⟨Vp, Vr, Vn⟩ := V
 obtain ⟨Ap, Ar, An⟩ := A
 obtain ⟨vp, vr, vn⟩ := v
 obtain ⟨⟨p1, q1, n1⟩, ⟨u1, v1, m1⟩, o1, e1⟩ := I
 exact piece [(0, 0), (1, 1), (2, 2), (3, 3), (4, 4)] [Sy.c At, Sy.c B, eb hk] fol (by kernel_rfl)
theorem yb_31f (a b c : Rat) (I : Iv) (t0 t1 t2 V A v : Rl) (k : Int) (At : Sp Tryz.prog 36 [] [qV a b c, rlV t1] (rlV v) []) (B : Sp Tryz.prog 42 [] [rlV v, rlV V] (nV k) []) (hk : decide (k = 0) = true) (C : Sp Tryz.prog 47 [] [ivV I.F I.T I.oF I.oT, rlV t1] (.bool false) []) :
    CodeOk Tryz.prog (nthLoop 1 (Tryz.f52.body.getD .skip)) (stW a b c I 3 (rlC t0 ++ rlC t1 ++ rlC t2) 1 V A false) .normal (stW a b c I 3 (rlC t0 ++ rlC t1 ++ rlC t2) 2 V A false) := by
 unfold stW qC rC rlC ivC
 obtain ⟨t0p, t0r, t0n⟩ := t0
 obtain ⟨t1p, t1r, t1n⟩ := t1
 obtain ⟨t2p, t2r, t2n⟩ := t2
 obtain ⟨Vp, Vr, Vn⟩ := V
 obtain ⟨Ap, Ar, An⟩ := A
 obtain ⟨vp, vr, vn⟩ := v
 obtain ⟨⟨p1, q1, n1⟩, ⟨u1, v1, m1⟩, o1, e1⟩ := I
 exact piece [(0, 0), (1, 1), (2, 2), (3, 3), (4, 4)] [Sy.c At, Sy.c B, eb hk, Sy.c C] fol (by kernel_rfl)
theorem yb_31t (a b c : Rat) (I : Iv) (t0 t1 t2 V A v : Rl) (k : Int) (At : Sp Tryz.prog 36 [] [qV a b c, rlV t1] (rlV v) []) (B : Sp Tryz.prog 42 [] [rlV v, rlV V] (nV k) []) (hk : decide (k = 0) = true) (C : Sp Tryz.prog 47 [] [ivV I.F I.T I.oF I.oT, rlV t1] (.bool true) []) :
    CodeOk Tryz.prog (nthLoop 1 (Tryz.f52.body.getD .skip)) (stW a b c I 3 (rlC t0 ++ rlC t1 ++ rlC t2) 1 V A false) .normal (stW a b c I 3 (rlC t0 ++ rlC t1 ++ rlC t2) 2 V A true) := by
 unfold stW qC rC rlC ivC
 obtain ⟨t0p, t0r, t0n⟩ := t0
 obtain ⟨t1p, t1r, t1n⟩ := t1
 obtain ⟨t2p, t2r, t2n⟩ := t2
 obtain ⟨Vp, Vr, Vn⟩ := V
 obtain ⟨Ap, Ar, An⟩ := A
 obtain ⟨vp, vr, vn⟩ := v
 obtain ⟨⟨p1, q1, n1⟩, ⟨u1, v1, m1⟩, o1, e1⟩ := I
 exact piece [(0, 0), (1, 1), (2, 2), (3, 3), (4, 4)] [Sy.c At, Sy.c B, eb hk, Sy.c C] fol (by kernel_rfl)
theorem yb_32s (a b c : Rat) (I : Iv) (t0 t1 t2 V A v : Rl) :
    CodeOk Tryz.prog (nthLoop 1 (Tryz.f52.body.getD .skip)) (stW a b c I 3 (rlC t0 ++ rlC t1 ++ rlC t2) 2 V A true) .normal (stW a b c I 3 (rlC t0 ++ rlC t1 ++ rlC t2) 3 V A true) := by
 unfold stW qC rC rlC ivC
 obtain ⟨t0p, t0r, t0n⟩ := t0
 obtain ⟨t1p, t1r, t1n⟩ := t1
 obtain ⟨t2p, t2r, t2n⟩ := t2
 obtain ⟨Vp, Vr, Vn⟩ := V
 obtain ⟨Ap, Ar, An⟩ := A
 obtain ⟨vp, vr, vn⟩ := v
 obtain ⟨⟨p1, q1, n1⟩, ⟨u1, v1, m1⟩, o1, e1⟩ := I
 exact piece [(0, 0), (1, 1), (2, 2), (3, 3), (4, 4)] [] fol (by kernel_rfl)
theorem yb_32n (a b c : Rat) (I : Iv) (t0 t1 t2 V A v : Rl) (k : Int) (At : Sp Tryz.prog 36 [] [qV a b c, rlV t2] (rlV v) []) (B : Sp Tryz.prog 42 [] [rlV v, rlV V] (nV k) []) (hk : decide (k = 0) = false) :
    CodeOk Tryz.prog (nthLoop 1 (Tryz.f52.body.getD .skip)) (stW a b c I 3 (rlC t0 ++ rlC t1 ++ rlC t2) 2 V A false) .normal (stW a b c I 3 (rlC t0 ++ rlC t1 ++ rlC t2) 3 V A false) := by
 unfold stW qC rC rlC ivC
 obtain ⟨t0p, t0r, t0n⟩ := t0
 obtain ⟨t1p, t1r, t1n⟩ := t1
 obtain ⟨t2p, t2r, t2n⟩ := t2
 obtain ⟨Vp, Vr, Vn⟩ := V
 obtain ⟨Ap, Ar, An⟩ := A
 obtain ⟨vp, vr, vn⟩ := v
 obtain ⟨⟨p1, q1, n1⟩, ⟨u1, v1, m1⟩, o1, e1⟩ := I
 exact piece [(0, 0), (1, 1), (2, 2), (3, 3), (4, 4)] [Sy.c At, Sy.c B, eb hk] fol (by kernel_rfl)
theorem yb_32f (a b c : Rat) (I : Iv) (t0 t1 t2 V A v : Rl) (k : Int) (At : Sp Tryz.prog 36 [] [qV a b c, rlV t2] (rlV v) []) (B : Sp Tryz.prog 42 [] [rlV v, rlV V] (nV k) []) (hk : decide (k = 0) = true) (C : Sp Tryz.prog 47 [] [ivV I.F I.T I.oF I.oT, rlV t2] (.bool false) []) :
    CodeOk Tryz.prog (nthLoop 1 (Tryz.f52.body.getD .skip)) (stW a b c I 3 (rlC t0 ++ rlC t1 ++ rlC t2) 2 V A false) .normal (stW a b c I 3 (rlC t0 ++ rlC t1 ++ rlC t2) 3 V A false) := by
 unfold stW qC rC rlC ivC
 obtain ⟨t0p, t0r, t0n⟩ := t0
 obtain ⟨t1p, t1r, t1n⟩ := t1
 obtain ⟨t2p, t2r, t2n⟩ := t2
 obtain ⟨Vp, Vr, Vn⟩ := V
 obtain ⟨Ap, Ar, An⟩ := A
 obtain ⟨vp, vr, vn⟩ := v
 obtain ⟨⟨p1, q1, n1⟩, ⟨u1, v1, m1⟩, o1, e1⟩ := I
 exact piece [(0, 0), (1, 1), (2, 2), (3, 3), (4, 4)] [Sy.c At, Sy.c B, eb hk, Sy.c C] fol (by kernel_rfl)
theorem yb_32t (a b c : Rat) (I : Iv) (t0 t1 t2 V A v : Rl) (k : Int) (At : Sp Tryz.prog 36 [] [qV a b c, rlV t2] (rlV v) []) (B : Sp Tryz.prog 42 [] [rlV v, rlV V] (nV k) []) (hk : decide (k = 0) = true) (C : Sp Tryz.prog 47 [] [ivV I.F I.T I.oF I.oT, rlV t2] (.bool true) []) :
    CodeOk Tryz.prog (nthLoop 1 (Tryz.f52.body.getD .skip)) (stW a b c I 3 (rlC t0 ++ rlC t1 ++ rlC t2) 2 V A false) .normal (stW a b c I 3 (rlC t0 ++ rlC t1 ++ rlC t2) 3 V A true) := by
 unfold stW qC rC rlC ivC
 obtain ⟨t0p, t0r, t0n⟩ := t0
 obtain ⟨t1p, t1r, t1n⟩ := t1
 obtain ⟨t2p, t2r, t2n⟩ := t2
 obtain ⟨Vp, Vr, Vn⟩ := V
 obtain ⟨Ap, Ar, An⟩ := A
 obtain ⟨vp, vr, vn⟩ := v
 obtain ⟨⟨p1, q1, n1⟩, ⟨u1, v1, m1⟩, o1, e1⟩ := I
 exact piece [(0, 0), (1, 1), (2, 2), (3, 3), (4, 4)] [Sy.c At, Sy.c B, eb hk, Sy.c C] fol (by kernel_rfl)
theorem yb_3x (a b c : Rat) (I : Iv) (t0 t1 t2 V A : Rl) (m : Bool) : CodeOk Tryz.prog (nthLoop 1 (Tryz.f52.body.getD .skip)) (stW a b c I 3 (rlC t0 ++ rlC t1 ++ rlC t2) 3 V A m) (.exit 2) (stW a b c I 3 (rlC t0 ++ rlC t1 ++ rlC t2) 3 V A m) := by
 unfold stW qC rC rlC ivC
 obtain ⟨t0p, t0r, t0n⟩ := t0
 obtain ⟨t1p, t1r, t1n⟩ := t1
 obtain ⟨t2p, t2r, t2n⟩ := t2
 obtain ⟨Vp, Vr, Vn⟩ := V
 obtain ⟨Ap, Ar, An⟩ := A
 obtain ⟨⟨p1, q1, n1⟩, ⟨u1, v1, m1⟩, o1, e1⟩ := I
 exact piece [(0, 0), (1, 1), (2, 2), (3, 3), (4, 4)] [] fol (by kernel_rfl)
end Go.Proofs.YtlblfgbpogljoaaGreatDoor

end
section
/- The package quadratic: extreme values. -/
namespace Go.Proofs.YtlblfgbpogljoaaGreatDoor
open Go Go.RowKit Go.Sy
open Vi
theorem pick_pk (bt : Rl → Rl → Bool) (vt : Rl → Rl) : ∀ (l : List Rl) (A : Rl), pick bt vt l (vt A, A) = (vt (pk bt vt l A), pk bt vt l A)
 | [], A => rfl
 | t :: l, A => by
  unfold pick pk
  by_cases h : bt (vt t) (vt A) = true
  ·rw [if_pos h, if_pos h, pick_pk bt vt l]
  ·rw [if_neg h, if_neg h, pick_pk bt vt l]
theorem pk_mem (bt : Rl → Rl → Bool) (vt : Rl → Rl) : ∀ (l : List Rl) (A : Rl), pk bt vt l A = A ∨ pk bt vt l A ∈ l
 | [], A => .inl rfl
 | t :: l, A => by
  unfold pk
  by_cases h : bt (vt t) (vt A) = true
  ·rw [if_pos h]
   rcases pk_mem bt vt l t with e | e
   ·rw [e]; exact .inr (List.mem_cons_self ..)
   ·exact .inr (List.mem_cons_of_mem _ e)
  ·rw [if_neg h]
   rcases pk_mem bt vt l A with e | e
   ·exact .inl e
   ·exact .inr (List.mem_cons_of_mem _ e)
theorem ext_no (bf : FuncId) (a b c : Rat) (F T : Rl) (oF oT : Bool) (H : Sp Tryz.prog 109 [] [ivV F T oF oT] (nV 10) []) : Sp Tryz.prog 114 [] [qV a b c, ivV F T oF oT, fcV bf] (.tuple #[.agg ⟨exZ⟩, nV 10]) [] := by
 obtain ⟨Fp, Fr, Fn⟩ := F
 obtain ⟨Tp, Tr, Tn⟩ := T
 exact walk (code := Tryz.f114.body.getD .skip) [Sy.c H] fol Tryz.func114 (by kernel_rfl) (fun xs w => Tryz.call114 xs w) (by kernel_rfl)
theorem cmp_gtr (x y : Rl) : decide (Rl.cmp x y > 0) = true ↔ y.val < x.val := by
 rcases cmp_cases x y with ⟨e, h⟩ | ⟨e, h⟩ | ⟨e, h⟩ <;> rw [e]
 ·exact ⟨fun k => absurd k (by decide), fun k => absurd (RR.lt_trans h k) (RR.lt_irrefl _)⟩
 ·exact ⟨fun k => absurd k (by decide), fun k => absurd (h ▸ k) (RR.lt_irrefl _)⟩
 ·exact ⟨fun _ => h, fun _ => by decide⟩
theorem uMore (x y : Rl) {i j k l : Nat} [HasSz x.p i] [HasSz x.r j] [HasSz y.p k] [HasSz y.r l] (hx : 0 ≤ x.r) (hy : 0 ≤ y.r) (hs : i + j + k + l ≤ 1000 := by first | omega | decide) : Sp Tryz.prog 116 [] [rlV x, rlV y] (.bool (gtB x y)) [] := by
 have A := qCmp x y hx hy
 have e : decide (Rl.cmp x y > 0) = gtB x y := by rw [Bool.eq_iff_iff, cmp_gtr, gtB_iff]
 clear hs hx hy
 generalize gtB x y = q at *
 generalize Rl.cmp x y = k at *
 obtain ⟨xp, xr, xn⟩ := x
 obtain ⟨yp, yr, yn⟩ := y
 exact walk (code := Tryz.f116.body.getD .skip) [c A, eb e] fol Tryz.func116 (by kernel_rfl) (fun xs w => Tryz.call116 xs w) (by kernel_rfl)
theorem uGreatestW (a b c : Rat) (F T V A : Rl) (oF oT m : Bool) (E : Sp Tryz.prog 114 [] [qV a b c, ivV F T oF oT, fcV 116] (.tuple #[exV V A m, nV 0]) []) : Sp Tryz.prog 51 [] [qV a b c, ivV F T oF oT] (.tuple #[exV V A m, nV 0]) [] := by
 obtain ⟨Fp, Fr, Fn⟩ := F
 obtain ⟨Tp, Tr, Tn⟩ := T
 obtain ⟨Vp, Vr, Vn⟩ := V
 obtain ⟨Ap, Ar, An⟩ := A
 exact walk (code := Tryz.f51.body.getD .skip) [Sy.c E] fol Tryz.func51 (by kernel_rfl) (fun xs w => Tryz.call51 xs w) (by kernel_rfl)
theorem uLeastN (a b c : Rat) (F T : Rl) (oF oT : Bool) (E : Sp Tryz.prog 114 [] [qV a b c, ivV F T oF oT, fcV 115] (.tuple #[.agg ⟨exZ⟩, nV 10]) []) : Sp Tryz.prog 50 [] [qV a b c, ivV F T oF oT] (.tuple #[.agg ⟨exZ⟩, nV 10]) [] := by
 obtain ⟨Fp, Fr, Fn⟩ := F
 obtain ⟨Tp, Tr, Tn⟩ := T
 exact walk (code := Tryz.f50.body.getD .skip) [Sy.c E] fol Tryz.func50 (by kernel_rfl) (fun xs w => Tryz.call50 xs w) (by kernel_rfl)
theorem uGreatestN (a b c : Rat) (F T : Rl) (oF oT : Bool) (E : Sp Tryz.prog 114 [] [qV a b c, ivV F T oF oT, fcV 116] (.tuple #[.agg ⟨exZ⟩, nV 10]) []) : Sp Tryz.prog 51 [] [qV a b c, ivV F T oF oT] (.tuple #[.agg ⟨exZ⟩, nV 10]) [] := by
 obtain ⟨Fp, Fr, Fn⟩ := F
 obtain ⟨Tp, Tr, Tn⟩ := T
 exact walk (code := Tryz.f51.body.getD .skip) [Sy.c E] fol Tryz.func51 (by kernel_rfl) (fun xs w => Tryz.call51 xs w) (by kernel_rfl)
end Go.Proofs.YtlblfgbpogljoaaGreatDoor

end
section
/- Reference 04: extreme values. -/
namespace Go.Proofs.YtlblfgbpogljoaaGreatDoor
open Go Go.RowKit Go.Sy
open Vi
theorem va_21 (ti : Int) (bt : Rl → Rl → Bool) (vt : Rl → Rl) (a b c : Rat) (I : Iv) (t0 t1 A : Rl) (At : Sp Tryz.prog 36 [] [qV a b c, rlV t1] (rlV (vt t1)) []) (B : Sp Tryz.prog 42 [] [rlV (vt t1), rlV (vt A)] (nV (Rl.cmp (vt t1) (vt A))) []) (hb : decide (IntKind.i64.wrap (ti * Rl.cmp (vt t1) (vt A)) < 0) = bt (vt t1) (vt A)) :
    CodeOk Tryz.prog (nthLoop 0 (Tryz.f52.body.getD .skip)) (stV ti a b c I 2 (rlC t0 ++ rlC t1) 1 (vt A) A) .normal (stV ti a b c I 2 (rlC t0 ++ rlC t1) 2 (vt (if bt (vt t1) (vt A) = true then t1 else A)) (if bt (vt t1) (vt A) = true then t1 else A)) := by
 cases h : bt (vt t1) (vt A)
 ·rw [h] at hb
  rw [if_neg (by simp)]
  exact ya_21f ti a b c I t0 t1 (vt A) A (vt t1) _ _ At B rfl hb
 ·rw [h] at hb
  rw [if_pos rfl]
  exact ya_21t ti a b c I t0 t1 (vt A) A (vt t1) _ _ At B rfl hb
theorem vb_20 (hi eq : Rl → Bool) (vt : Rl → Rl) (a b c : Rat) (I : Iv) (t0 t1 V A : Rl) (m : Bool) (At : Sp Tryz.prog 36 [] [qV a b c, rlV t0] (rlV (vt t0)) []) (C : Sp Tryz.prog 47 [] [ivV I.F I.T I.oF I.oT, rlV t0] (.bool (hi t0)) []) (k : Int) (B : Sp Tryz.prog 42 [] [rlV (vt t0), rlV V] (nV k) []) (E : decide (k = 0) = eq t0) :
    CodeOk Tryz.prog (nthLoop 1 (Tryz.f52.body.getD .skip)) (stW a b c I 2 (rlC t0 ++ rlC t1) 0 V A m) .normal (stW a b c I 2 (rlC t0 ++ rlC t1) 1 V A (m || (hi t0 && eq t0))) := by
 cases m
 ·cases g : eq t0
  ·rw [g] at E
   rw [Bool.and_false]
   exact yb_20n a b c I t0 t1 V A (vt t0) k At B E
  ·rw [g] at E
   cases h : hi t0
   ·rw [h] at C
    exact yb_20f a b c I t0 t1 V A (vt t0) k At B E C
   ·rw [h] at C
    exact yb_20t a b c I t0 t1 V A (vt t0) k At B E C
 ·exact yb_20s a b c I t0 t1 V A (vt t0)
theorem vb_21 (hi eq : Rl → Bool) (vt : Rl → Rl) (a b c : Rat) (I : Iv) (t0 t1 V A : Rl) (m : Bool) (At : Sp Tryz.prog 36 [] [qV a b c, rlV t1] (rlV (vt t1)) []) (C : Sp Tryz.prog 47 [] [ivV I.F I.T I.oF I.oT, rlV t1] (.bool (hi t1)) []) (k : Int) (B : Sp Tryz.prog 42 [] [rlV (vt t1), rlV V] (nV k) []) (E : decide (k = 0) = eq t1) :
    CodeOk Tryz.prog (nthLoop 1 (Tryz.f52.body.getD .skip)) (stW a b c I 2 (rlC t0 ++ rlC t1) 1 V A m) .normal (stW a b c I 2 (rlC t0 ++ rlC t1) 2 V A (m || (hi t1 && eq t1))) := by
 cases m
 ·cases g : eq t1
  ·rw [g] at E
   rw [Bool.and_false]
   exact yb_21n a b c I t0 t1 V A (vt t1) k At B E
  ·rw [g] at E
   cases h : hi t1
   ·rw [h] at C
    exact yb_21f a b c I t0 t1 V A (vt t1) k At B E C
   ·rw [h] at C
    exact yb_21t a b c I t0 t1 V A (vt t1) k At B E C
 ·exact yb_21s a b c I t0 t1 V A (vt t1)
theorem ma_2 (ti : Int) (bt : Rl → Rl → Bool) (vt : Rl → Rl) (a b c : Rat) (I : Iv) (t0 t1 : Rl) (h0 : bt (vt t0) (vt t0) = false) (At : ∀ t ∈ [t0, t1], Sp Tryz.prog 36 [] [qV a b c, rlV t] (rlV (vt t)) []) (B : ∀ s ∈ [t0, t1], ∀ t ∈ [t0, t1], Sp Tryz.prog 42 [] [rlV (vt s), rlV (vt t)] (nV (Rl.cmp (vt s) (vt t))) []) (hb : ∀ s t : Rl, decide (IntKind.i64.wrap (ti * Rl.cmp s t) < 0) = bt s t) :
    CodeOk Tryz.prog (.loop (nthLoop 0 (Tryz.f52.body.getD .skip))) (stV ti a b c I 2 (rlC t0 ++ rlC t1) 1 (vt t0) t0) (.exit 0) (stV ti a b c I 2 (rlC t0 ++ rlC t1) 2 (vt (pk bt vt [t0, t1] t0)) (pk bt vt [t0, t1] t0)) := by
 have m1 : t0 ∈ [t0, t1] := by simp
 have s1 := va_21 ti bt vt a b c I t0 t1 t0 (At _ (by simp)) (B _ (by simp) _ m1) (hb _ _)
 obtain ⟨A1, hA1⟩ : ∃ x, x = if bt (vt t1) (vt t0) = true then t1 else t0 := ⟨_, rfl⟩
 rw [← hA1] at s1
 have e : pk bt vt [t0, t1] t0 = A1 := by
  rw [hA1]
  show pk bt vt [t1] (if bt (vt t0) (vt t0) = true then t0 else t0) = _
  rw [ite_self]; rfl
 rw [e]
 exact (RoundsOk.more s1 (RoundsOk.out (by simp) (ya_2x ti a b c I t0 t1 _ _))).loop
theorem mb_2 (hi eq : Rl → Bool) (vt : Rl → Rl) (a b c : Rat) (I : Iv) (t0 t1 V A : Rl) (m : Bool) (At : ∀ t ∈ [t0, t1], Sp Tryz.prog 36 [] [qV a b c, rlV t] (rlV (vt t)) []) (C : ∀ t ∈ [t0, t1], Sp Tryz.prog 47 [] [ivV I.F I.T I.oF I.oT, rlV t] (.bool (hi t)) []) (B : ∀ t ∈ [t0, t1], Sp Tryz.prog 42 [] [rlV (vt t), rlV V] (nV (Rl.cmp (vt t) V)) []) (E : ∀ t ∈ [t0, t1], decide (Rl.cmp (vt t) V = 0) = eq t) :
    CodeOk Tryz.prog (.loop (nthLoop 1 (Tryz.f52.body.getD .skip))) (stW a b c I 2 (rlC t0 ++ rlC t1) 0 V A m) (.exit 2) (stW a b c I 2 (rlC t0 ++ rlC t1) 2 V A (rch hi eq [t0, t1] m)) :=
 (RoundsOk.more (vb_20 hi eq vt a b c I t0 t1 V A _ (At _ (by simp)) (C _ (by simp)) _ (B _ (by simp)) (E _ (by simp))) (RoundsOk.more (vb_21 hi eq vt a b c I t0 t1 V A _ (At _ (by simp)) (C _ (by simp)) _ (B _ (by simp)) (E _ (by simp))) (RoundsOk.out (by simp) (yb_2x a b c I t0 t1 V A _)))).loop
theorem va_31 (ti : Int) (bt : Rl → Rl → Bool) (vt : Rl → Rl) (a b c : Rat) (I : Iv) (t0 t1 t2 A : Rl) (At : Sp Tryz.prog 36 [] [qV a b c, rlV t1] (rlV (vt t1)) []) (B : Sp Tryz.prog 42 [] [rlV (vt t1), rlV (vt A)] (nV (Rl.cmp (vt t1) (vt A))) []) (hb : decide (IntKind.i64.wrap (ti * Rl.cmp (vt t1) (vt A)) < 0) = bt (vt t1) (vt A)) :
    CodeOk Tryz.prog (nthLoop 0 (Tryz.f52.body.getD .skip)) (stV ti a b c I 3 (rlC t0 ++ rlC t1 ++ rlC t2) 1 (vt A) A) .normal (stV ti a b c I 3 (rlC t0 ++ rlC t1 ++ rlC t2) 2 (vt (if bt (vt t1) (vt A) = true then t1 else A)) (if bt (vt t1) (vt A) = true then t1 else A)) := by
 cases h : bt (vt t1) (vt A)
 ·rw [h] at hb
  rw [if_neg (by simp)]
  exact ya_31f ti a b c I t0 t1 t2 (vt A) A (vt t1) _ _ At B rfl hb
 ·rw [h] at hb
  rw [if_pos rfl]
  exact ya_31t ti a b c I t0 t1 t2 (vt A) A (vt t1) _ _ At B rfl hb
theorem va_32 (ti : Int) (bt : Rl → Rl → Bool) (vt : Rl → Rl) (a b c : Rat) (I : Iv) (t0 t1 t2 A : Rl) (At : Sp Tryz.prog 36 [] [qV a b c, rlV t2] (rlV (vt t2)) []) (B : Sp Tryz.prog 42 [] [rlV (vt t2), rlV (vt A)] (nV (Rl.cmp (vt t2) (vt A))) []) (hb : decide (IntKind.i64.wrap (ti * Rl.cmp (vt t2) (vt A)) < 0) = bt (vt t2) (vt A)) :
    CodeOk Tryz.prog (nthLoop 0 (Tryz.f52.body.getD .skip)) (stV ti a b c I 3 (rlC t0 ++ rlC t1 ++ rlC t2) 2 (vt A) A) .normal (stV ti a b c I 3 (rlC t0 ++ rlC t1 ++ rlC t2) 3 (vt (if bt (vt t2) (vt A) = true then t2 else A)) (if bt (vt t2) (vt A) = true then t2 else A)) := by
 cases h : bt (vt t2) (vt A)
 ·rw [h] at hb
  rw [if_neg (by simp)]
  exact ya_32f ti a b c I t0 t1 t2 (vt A) A (vt t2) _ _ At B rfl hb
 ·rw [h] at hb
  rw [if_pos rfl]
  exact ya_32t ti a b c I t0 t1 t2 (vt A) A (vt t2) _ _ At B rfl hb
theorem vb_30 (hi eq : Rl → Bool) (vt : Rl → Rl) (a b c : Rat) (I : Iv) (t0 t1 t2 V A : Rl) (m : Bool) (At : Sp Tryz.prog 36 [] [qV a b c, rlV t0] (rlV (vt t0)) []) (C : Sp Tryz.prog 47 [] [ivV I.F I.T I.oF I.oT, rlV t0] (.bool (hi t0)) []) (k : Int) (B : Sp Tryz.prog 42 [] [rlV (vt t0), rlV V] (nV k) []) (E : decide (k = 0) = eq t0) :
    CodeOk Tryz.prog (nthLoop 1 (Tryz.f52.body.getD .skip)) (stW a b c I 3 (rlC t0 ++ rlC t1 ++ rlC t2) 0 V A m) .normal (stW a b c I 3 (rlC t0 ++ rlC t1 ++ rlC t2) 1 V A (m || (hi t0 && eq t0))) := by
 cases m
 ·cases g : eq t0
  ·rw [g] at E
   rw [Bool.and_false]
   exact yb_30n a b c I t0 t1 t2 V A (vt t0) k At B E
  ·rw [g] at E
   cases h : hi t0
   ·rw [h] at C
    exact yb_30f a b c I t0 t1 t2 V A (vt t0) k At B E C
   ·rw [h] at C
    exact yb_30t a b c I t0 t1 t2 V A (vt t0) k At B E C
 ·exact yb_30s a b c I t0 t1 t2 V A (vt t0)
theorem vb_31 (hi eq : Rl → Bool) (vt : Rl → Rl) (a b c : Rat) (I : Iv) (t0 t1 t2 V A : Rl) (m : Bool) (At : Sp Tryz.prog 36 [] [qV a b c, rlV t1] (rlV (vt t1)) []) (C : Sp Tryz.prog 47 [] [ivV I.F I.T I.oF I.oT, rlV t1] (.bool (hi t1)) []) (k : Int) (B : Sp Tryz.prog 42 [] [rlV (vt t1), rlV V] (nV k) []) (E : decide (k = 0) = eq t1) :
    CodeOk Tryz.prog (nthLoop 1 (Tryz.f52.body.getD .skip)) (stW a b c I 3 (rlC t0 ++ rlC t1 ++ rlC t2) 1 V A m) .normal (stW a b c I 3 (rlC t0 ++ rlC t1 ++ rlC t2) 2 V A (m || (hi t1 && eq t1))) := by
 cases m
 ·cases g : eq t1
  ·rw [g] at E
   rw [Bool.and_false]
   exact yb_31n a b c I t0 t1 t2 V A (vt t1) k At B E
  ·rw [g] at E
   cases h : hi t1
   ·rw [h] at C
    exact yb_31f a b c I t0 t1 t2 V A (vt t1) k At B E C
   ·rw [h] at C
    exact yb_31t a b c I t0 t1 t2 V A (vt t1) k At B E C
 ·exact yb_31s a b c I t0 t1 t2 V A (vt t1)
theorem vb_32 (hi eq : Rl → Bool) (vt : Rl → Rl) (a b c : Rat) (I : Iv) (t0 t1 t2 V A : Rl) (m : Bool) (At : Sp Tryz.prog 36 [] [qV a b c, rlV t2] (rlV (vt t2)) []) (C : Sp Tryz.prog 47 [] [ivV I.F I.T I.oF I.oT, rlV t2] (.bool (hi t2)) []) (k : Int) (B : Sp Tryz.prog 42 [] [rlV (vt t2), rlV V] (nV k) []) (E : decide (k = 0) = eq t2) :
    CodeOk Tryz.prog (nthLoop 1 (Tryz.f52.body.getD .skip)) (stW a b c I 3 (rlC t0 ++ rlC t1 ++ rlC t2) 2 V A m) .normal (stW a b c I 3 (rlC t0 ++ rlC t1 ++ rlC t2) 3 V A (m || (hi t2 && eq t2))) := by
 cases m
 ·cases g : eq t2
  ·rw [g] at E
   rw [Bool.and_false]
   exact yb_32n a b c I t0 t1 t2 V A (vt t2) k At B E
  ·rw [g] at E
   cases h : hi t2
   ·rw [h] at C
    exact yb_32f a b c I t0 t1 t2 V A (vt t2) k At B E C
   ·rw [h] at C
    exact yb_32t a b c I t0 t1 t2 V A (vt t2) k At B E C
 ·exact yb_32s a b c I t0 t1 t2 V A (vt t2)
theorem ma_3 (ti : Int) (bt : Rl → Rl → Bool) (vt : Rl → Rl) (a b c : Rat) (I : Iv) (t0 t1 t2 : Rl) (h0 : bt (vt t0) (vt t0) = false) (At : ∀ t ∈ [t0, t1, t2], Sp Tryz.prog 36 [] [qV a b c, rlV t] (rlV (vt t)) []) (B : ∀ s ∈ [t0, t1, t2], ∀ t ∈ [t0, t1, t2], Sp Tryz.prog 42 [] [rlV (vt s), rlV (vt t)] (nV (Rl.cmp (vt s) (vt t))) []) (hb : ∀ s t : Rl, decide (IntKind.i64.wrap (ti * Rl.cmp s t) < 0) = bt s t) :
    CodeOk Tryz.prog (.loop (nthLoop 0 (Tryz.f52.body.getD .skip))) (stV ti a b c I 3 (rlC t0 ++ rlC t1 ++ rlC t2) 1 (vt t0) t0) (.exit 0) (stV ti a b c I 3 (rlC t0 ++ rlC t1 ++ rlC t2) 3 (vt (pk bt vt [t0, t1, t2] t0)) (pk bt vt [t0, t1, t2] t0)) := by
 have m1 : t0 ∈ [t0, t1, t2] := by simp
 have s1 := va_31 ti bt vt a b c I t0 t1 t2 t0 (At _ (by simp)) (B _ (by simp) _ m1) (hb _ _)
 obtain ⟨A1, hA1⟩ : ∃ x, x = if bt (vt t1) (vt t0) = true then t1 else t0 := ⟨_, rfl⟩
 rw [← hA1] at s1
 have m2 : A1 ∈ [t0, t1, t2] := by rw [hA1]; split <;> simp_all
 have s2 := va_32 ti bt vt a b c I t0 t1 t2 A1 (At _ (by simp)) (B _ (by simp) _ m2) (hb _ _)
 obtain ⟨A2, hA2⟩ : ∃ x, x = if bt (vt t2) (vt A1) = true then t2 else A1 := ⟨_, rfl⟩
 rw [← hA2] at s2
 have e : pk bt vt [t0, t1, t2] t0 = A2 := by
  rw [hA2, hA1]
  show pk bt vt [t1, t2] (if bt (vt t0) (vt t0) = true then t0 else t0) = _
  rw [ite_self]; rfl
 rw [e]
 exact (RoundsOk.more s1 (RoundsOk.more s2 (RoundsOk.out (by simp) (ya_3x ti a b c I t0 t1 t2 _ _)))).loop
theorem mb_3 (hi eq : Rl → Bool) (vt : Rl → Rl) (a b c : Rat) (I : Iv) (t0 t1 t2 V A : Rl) (m : Bool) (At : ∀ t ∈ [t0, t1, t2], Sp Tryz.prog 36 [] [qV a b c, rlV t] (rlV (vt t)) []) (C : ∀ t ∈ [t0, t1, t2], Sp Tryz.prog 47 [] [ivV I.F I.T I.oF I.oT, rlV t] (.bool (hi t)) []) (B : ∀ t ∈ [t0, t1, t2], Sp Tryz.prog 42 [] [rlV (vt t), rlV V] (nV (Rl.cmp (vt t) V)) []) (E : ∀ t ∈ [t0, t1, t2], decide (Rl.cmp (vt t) V = 0) = eq t) :
    CodeOk Tryz.prog (.loop (nthLoop 1 (Tryz.f52.body.getD .skip))) (stW a b c I 3 (rlC t0 ++ rlC t1 ++ rlC t2) 0 V A m) (.exit 2) (stW a b c I 3 (rlC t0 ++ rlC t1 ++ rlC t2) 3 V A (rch hi eq [t0, t1, t2] m)) :=
 (RoundsOk.more (vb_30 hi eq vt a b c I t0 t1 t2 V A _ (At _ (by simp)) (C _ (by simp)) _ (B _ (by simp)) (E _ (by simp))) (RoundsOk.more (vb_31 hi eq vt a b c I t0 t1 t2 V A _ (At _ (by simp)) (C _ (by simp)) _ (B _ (by simp)) (E _ (by simp))) (RoundsOk.more (vb_32 hi eq vt a b c I t0 t1 t2 V A _ (At _ (by simp)) (C _ (by simp)) _ (B _ (by simp)) (E _ (by simp))) (RoundsOk.out (by simp) (yb_3x a b c I t0 t1 t2 V A _))))).loop
theorem rxt_a (ti : Int) (a b c : Rat) (F T V0 V A : Rl) (oF oT m0 m : Bool) (dg z : Int) (Sg : Sp Tryz.prog 26 [] [rV c] (nV z) [])
    (ez : (z != 0) = false)
    (At : Sp Tryz.prog 36 [] [qV a b c, rlV F] (rlV V0) []) (Dg : Sp Tryz.prog 40 [] [qV a b c] (nV dg) []) (ed : decide (dg < 1) = m0)
    (h1 : CodeOk Tryz.prog (.loop (nthLoop 0 (Tryz.f52.body.getD .skip))) (stV ti a b c ⟨F, T, oF, oT⟩ 2 (rlC F ++ rlC T) 1 V0 F) (.exit 0) (stV ti a b c ⟨F, T, oF, oT⟩ 2 (rlC F ++ rlC T) 2 V A))
    (h2 : CodeOk Tryz.prog (.loop (nthLoop 1 (Tryz.f52.body.getD .skip))) (stW a b c ⟨F, T, oF, oT⟩ 2 (rlC F ++ rlC T) 0 V A m0) (.exit 2) (stW a b c ⟨F, T, oF, oT⟩ 2 (rlC F ++ rlC T) 2 V A m)) :
    Sp Tryz.prog 52 [] [qV a b c, ivV F T oF oT, nV ti] (.tuple #[rlV V, rlV A, .bool m]) [] := by
 obtain ⟨Fp, Fr, Fn⟩ := F
 obtain ⟨Tp, Tr, Tn⟩ := T
 obtain ⟨V0p, V0r, V0n⟩ := V0
 obtain ⟨Vp, Vr, Vn⟩ := V
 obtain ⟨Ap, Ar, An⟩ := A
 unfold stV qC rC rlC ivC at h1
 unfold stW qC rC rlC ivC at h2
 dsimp only at *
 exact walk (code := Tryz.f52.body.getD .skip) [OW, Sy.c Sg, eb ez, Sy.c At, lp [(0, 0), (1, 1), (2, 2), (3, 3), (4, 6)] h1, Sy.c Dg, eb ed, lp [(0, 0), (1, 1), (2, 2), (3, 3), (4, 4)] h2] fol Tryz.func52 (by kernel_rfl) (fun xs w => Tryz.call52 xs w) (by kernel_rfl)
def ratV (q : Rat) : Value := .agg #[.bool (sg q.num), .string (mg q.num), .bool (sg (dn q)), .string (mg (dn q)), .bool false, .string ⟨#[]⟩, .bool false, .string ⟨#[]⟩, .bool false]
def ratC (q : Rat) : List Value := [.bool (sg q.num), .string (mg q.num), .bool (sg (dn q)), .string (mg (dn q)), .bool false, .string ⟨#[]⟩, .bool false, .string ⟨#[]⟩, .bool false]
theorem ratV_eq (q : Rat) : rlV (Rl.rat q) = ratV q := by unfold Rl.rat; rw [rlV_rat]; rfl
theorem ratC_eq (q : Rat) : rlC (Rl.rat q) = ratC q := by rw [rlC_rat]; rfl
theorem rxt_b (ti : Int) (a b c : Rat) (F T V0 V A : Rl) (oF oT m0 m : Bool) (two cc q h : Rat) (dg z k1 : Int) (Sg : Sp Tryz.prog 26 [] [rV c] (nV z) [])
    (ez : (z != 0) = true) (Tw : Sp Tryz.prog 20 [] [nV 2, nV 1] (rV two) []) (Mu : Sp Tryz.prog 61 [] [rV two, rV c] (rV cc) []) (D : Sp Tryz.prog 19 [] [rV b, rV cc] (rV q) []) (Ng : Sp Tryz.prog 60 [] [rV q] (rV h) []) (K1 : Sp Tryz.prog 42 [] [rlV F, ratV h] (nV k1) []) (e1 : decide (k1 < 0) = false)
    (At : Sp Tryz.prog 36 [] [qV a b c, rlV F] (rlV V0) []) (Dg : Sp Tryz.prog 40 [] [qV a b c] (nV dg) []) (ed : decide (dg < 1) = m0)
    (h1 : CodeOk Tryz.prog (.loop (nthLoop 0 (Tryz.f52.body.getD .skip))) (stV ti a b c ⟨F, T, oF, oT⟩ 2 (rlC F ++ rlC T) 1 V0 F) (.exit 0) (stV ti a b c ⟨F, T, oF, oT⟩ 2 (rlC F ++ rlC T) 2 V A))
    (h2 : CodeOk Tryz.prog (.loop (nthLoop 1 (Tryz.f52.body.getD .skip))) (stW a b c ⟨F, T, oF, oT⟩ 2 (rlC F ++ rlC T) 0 V A m0) (.exit 2) (stW a b c ⟨F, T, oF, oT⟩ 2 (rlC F ++ rlC T) 2 V A m)) :
    Sp Tryz.prog 52 [] [qV a b c, ivV F T oF oT, nV ti] (.tuple #[rlV V, rlV A, .bool m]) [] := by
 obtain ⟨Fp, Fr, Fn⟩ := F
 obtain ⟨Tp, Tr, Tn⟩ := T
 obtain ⟨V0p, V0r, V0n⟩ := V0
 obtain ⟨Vp, Vr, Vn⟩ := V
 obtain ⟨Ap, Ar, An⟩ := A
 unfold stV qC rC rlC ivC at h1
 unfold stW qC rC rlC ivC at h2
 dsimp only at *
 exact walk (code := Tryz.f52.body.getD .skip) [OW, Sy.c Sg, eb ez, Sy.c Tw, Sy.c Mu, Sy.c D, Sy.c Ng, Sy.c K1, eb e1, Sy.c At, lp [(0, 0), (1, 1), (2, 2), (3, 3), (4, 7)] h1, Sy.c Dg, eb ed, lp [(0, 0), (1, 1), (2, 2), (3, 3), (4, 4)] h2] fol Tryz.func52 (by kernel_rfl) (fun xs w => Tryz.call52 xs w) (by kernel_rfl)
theorem rxt_c (ti : Int) (a b c : Rat) (F T V0 V A : Rl) (oF oT m0 m : Bool) (two cc q h : Rat) (dg z k1 k2 : Int) (Sg : Sp Tryz.prog 26 [] [rV c] (nV z) [])
    (ez : (z != 0) = true) (Tw : Sp Tryz.prog 20 [] [nV 2, nV 1] (rV two) []) (Mu : Sp Tryz.prog 61 [] [rV two, rV c] (rV cc) []) (D : Sp Tryz.prog 19 [] [rV b, rV cc] (rV q) []) (Ng : Sp Tryz.prog 60 [] [rV q] (rV h) []) (K1 : Sp Tryz.prog 42 [] [rlV F, ratV h] (nV k1) []) (e1 : decide (k1 < 0) = true) (K2 : Sp Tryz.prog 42 [] [ratV h, rlV T] (nV k2) []) (e2 : decide (k2 < 0) = false)
    (At : Sp Tryz.prog 36 [] [qV a b c, rlV F] (rlV V0) []) (Dg : Sp Tryz.prog 40 [] [qV a b c] (nV dg) []) (ed : decide (dg < 1) = m0)
    (h1 : CodeOk Tryz.prog (.loop (nthLoop 0 (Tryz.f52.body.getD .skip))) (stV ti a b c ⟨F, T, oF, oT⟩ 2 (rlC F ++ rlC T) 1 V0 F) (.exit 0) (stV ti a b c ⟨F, T, oF, oT⟩ 2 (rlC F ++ rlC T) 2 V A))
    (h2 : CodeOk Tryz.prog (.loop (nthLoop 1 (Tryz.f52.body.getD .skip))) (stW a b c ⟨F, T, oF, oT⟩ 2 (rlC F ++ rlC T) 0 V A m0) (.exit 2) (stW a b c ⟨F, T, oF, oT⟩ 2 (rlC F ++ rlC T) 2 V A m)) :
    Sp Tryz.prog 52 [] [qV a b c, ivV F T oF oT, nV ti] (.tuple #[rlV V, rlV A, .bool m]) [] := by
 obtain ⟨Fp, Fr, Fn⟩ := F
 obtain ⟨Tp, Tr, Tn⟩ := T
 obtain ⟨V0p, V0r, V0n⟩ := V0
 obtain ⟨Vp, Vr, Vn⟩ := V
 obtain ⟨Ap, Ar, An⟩ := A
 unfold stV qC rC rlC ivC at h1
 unfold stW qC rC rlC ivC at h2
 dsimp only at *
 exact walk (code := Tryz.f52.body.getD .skip) [OW, Sy.c Sg, eb ez, Sy.c Tw, Sy.c Mu, Sy.c D, Sy.c Ng, Sy.c K1, eb e1, Sy.c K2, eb e2, Sy.c At, lp [(0, 0), (1, 1), (2, 2), (3, 3), (4, 7)] h1, Sy.c Dg, eb ed, lp [(0, 0), (1, 1), (2, 2), (3, 3), (4, 4)] h2] fol Tryz.func52 (by kernel_rfl) (fun xs w => Tryz.call52 xs w) (by kernel_rfl)
theorem rxt_d (ti : Int) (a b c : Rat) (F T V0 V A : Rl) (oF oT m0 m : Bool) (two cc q h : Rat) (dg z k1 k2 : Int) (Sg : Sp Tryz.prog 26 [] [rV c] (nV z) [])
    (ez : (z != 0) = true) (Tw : Sp Tryz.prog 20 [] [nV 2, nV 1] (rV two) []) (Mu : Sp Tryz.prog 61 [] [rV two, rV c] (rV cc) []) (D : Sp Tryz.prog 19 [] [rV b, rV cc] (rV q) []) (Ng : Sp Tryz.prog 60 [] [rV q] (rV h) []) (K1 : Sp Tryz.prog 42 [] [rlV F, ratV h] (nV k1) []) (e1 : decide (k1 < 0) = true) (K2 : Sp Tryz.prog 42 [] [ratV h, rlV T] (nV k2) []) (e2 : decide (k2 < 0) = true)
    (At : Sp Tryz.prog 36 [] [qV a b c, rlV F] (rlV V0) []) (Dg : Sp Tryz.prog 40 [] [qV a b c] (nV dg) []) (ed : decide (dg < 1) = m0)
    (h1 : CodeOk Tryz.prog (.loop (nthLoop 0 (Tryz.f52.body.getD .skip))) (stV ti a b c ⟨F, T, oF, oT⟩ 3 (rlC F ++ ratC h ++ rlC T) 1 V0 F) (.exit 0) (stV ti a b c ⟨F, T, oF, oT⟩ 3 (rlC F ++ ratC h ++ rlC T) 3 V A))
    (h2 : CodeOk Tryz.prog (.loop (nthLoop 1 (Tryz.f52.body.getD .skip))) (stW a b c ⟨F, T, oF, oT⟩ 3 (rlC F ++ ratC h ++ rlC T) 0 V A m0) (.exit 2) (stW a b c ⟨F, T, oF, oT⟩ 3 (rlC F ++ ratC h ++ rlC T) 3 V A m)) :
    Sp Tryz.prog 52 [] [qV a b c, ivV F T oF oT, nV ti] (.tuple #[rlV V, rlV A, .bool m]) [] := by
 obtain ⟨Fp, Fr, Fn⟩ := F
 obtain ⟨Tp, Tr, Tn⟩ := T
 obtain ⟨V0p, V0r, V0n⟩ := V0
 obtain ⟨Vp, Vr, Vn⟩ := V
 obtain ⟨Ap, Ar, An⟩ := A
 unfold stV qC rC rlC ivC ratC at h1
 unfold stW qC rC rlC ivC ratC at h2
 dsimp only at *
 exact walk (code := Tryz.f52.body.getD .skip) [OW, Sy.c Sg, eb ez, Sy.c Tw, Sy.c Mu, Sy.c D, Sy.c Ng, Sy.c K1, eb e1, Sy.c K2, eb e2, Sy.c At, lp [(0, 0), (1, 1), (2, 2), (3, 3), (4, 9)] h1, Sy.c Dg, eb ed, lp [(0, 0), (1, 1), (2, 2), (3, 3), (4, 4)] h2] fol Tryz.func52 (by kernel_rfl) (fun xs w => Tryz.call52 xs w) (by kernel_rfl)
end Go.Proofs.YtlblfgbpogljoaaGreatDoor

end
section
/- The package quadratic: Least and Greatest. -/
namespace Go.Proofs.YtlblfgbpogljoaaGreatDoor
open Go Go.RowKit Go.Sy
open Vi
theorem uGreatest (a b c : Rat) (I : Iv) [ha : HasSz a 2] [hb : HasSz b 2] [hc : HasSz c 2] [h1 : HasSz I.F.p 8] [h2 : HasSz I.F.r 8] [h3 : HasSz I.T.p 8] [h4 : HasSz I.T.r 8] (hF : I.F.Ok) (hT : I.T.Ok) (hi : I.full) :
    Sp Tryz.prog 51 [] [qV a b c, ivV I.F I.T I.oF I.oT] (.tuple #[exV (atQ a b c (exA gtB a b c I)) (exA gtB a b c I) (exM gtB a b c I), nV 0]) [] :=
 uGreatestW _ _ _ _ _ _ _ _ _ _ (uExtreme _ gtB a b c I hF hT hi fun x y hx hy _ _ _ _ => uMore x y hx.nonneg hy.nonneg)
end Go.Proofs.YtlblfgbpogljoaaGreatDoor

end
section
/- Reference 04: the least and the greatest value. -/
namespace Go.Proofs.YtlblfgbpogljoaaGreatDoor
open Go Go.RowKit Go.Sy
open Vi
theorem vExtreme (ti : Int) (bt : Rl → Rl → Bool) (hb : ∀ s t : Rl, decide (IntKind.i64.wrap (ti * Rl.cmp s t) < 0) = bt s t) (h0 : ∀ x, bt x x = false) (a b c : Rat) (I : Iv) [ha : HasSz a 2] [hb2 : HasSz b 2] [hc : HasSz c 2] [h1 : HasSz I.F.p 8] [h2 : HasSz I.F.r 8] [h3 : HasSz I.T.p 8] [h4 : HasSz I.T.r 8] (hF : I.F.Ok) (hT : I.T.Ok) :
    Sp Tryz.prog 52 [] [qV a b c, ivV I.F I.T I.oF I.oT, nV ti] (.tuple #[rlV (atQ a b c (exA bt a b c I)), rlV (exA bt a b c I), .bool (exM bt a b c I)]) [] := by
 have AtF := vAt a b c I.F hF
 have Dg := vDegree a b c
 have Sg := rSgn c
 have es := sgQ_ne0 c
 have at_ : ∀ t : Rl, Gd t → Sp Tryz.prog 36 [] [qV a b c, rlV t] (rlV (atQ a b c t)) [] := fun t ht => by
  obtain ⟨ht, _, _⟩ := ht
  exact vAt a b c t ht
 have ct_ : ∀ t : Rl, Gd t → Sp Tryz.prog 47 [] [ivV I.F I.T I.oF I.oT, rlV t] (.bool (hiB I t)) [] := fun t ht => by
  obtain ⟨ht, _, _⟩ := ht
  exact vContains I.F I.T t I.oF I.oT hF.nonneg hT.nonneg ht.nonneg
 have b_ : ∀ s t : Rl, Gd s → Gd t → Sp Tryz.prog 42 [] [rlV (atQ a b c s), rlV (atQ a b c t)] (nV (Rl.cmp (atQ a b c s) (atQ a b c t))) [] := fun s t hs ht => by
  obtain ⟨hs, _, _⟩ := hs
  obtain ⟨ht, _, _⟩ := ht
  haveI := atQ_hsp a b c s
  haveI := atQ_hsr a b c s
  haveI := atQ_hsp a b c t
  haveI := atQ_hsr a b c t
  exact vCompare _ _ (atQ_ok hs).nonneg (atQ_ok ht).nonneg
 have e_ : ∀ s t : Rl, Gd s → Gd t → decide (Rl.cmp (atQ a b c t) (atQ a b c s) = 0) = eqB (atQ a b c t) (atQ a b c s) := fun s t hs ht => by
  have h := Rl.cmp_eq0 (atQ_ok (a := a) (b := b) (c := c) ht.1) (atQ_ok (a := a) (b := b) (c := c) hs.1)
  unfold eqB
  rw [Bool.eq_iff_iff]
  simp [h]
 have gF : Gd I.F := ⟨hF, h1, h2⟩
 have gT : Gd I.T := ⟨hT, h3, h4⟩
 have g2 : ∀ t ∈ [I.F, I.T], Gd t := fun t ht => by
  simp only [List.mem_cons, List.not_mem_nil, or_false] at ht
  rcases ht with rfl | rfl
  ·exact gF
  ·exact gT
 have gp2 : Gd (pk bt (atQ a b c) [I.F, I.T] I.F) := by
  rcases pk_mem bt (atQ a b c) [I.F, I.T] I.F with e | e
  ·rw [e]; exact gF
  ·exact g2 _ e
 have l1 := ma_2 ti bt (atQ a b c) a b c I I.F I.T (h0 _) (fun t ht => at_ t (g2 t ht)) (fun s hs t ht => b_ s t (g2 s hs) (g2 t ht)) hb
 have l2 := mb_2 (hiB I) (fun t => eqB (atQ a b c t) (atQ a b c (pk bt (atQ a b c) [I.F, I.T] I.F))) (atQ a b c) a b c I I.F I.T (atQ a b c (pk bt (atQ a b c) [I.F, I.T] I.F)) (pk bt (atQ a b c) [I.F, I.T] I.F) (decide (dgQ a b c < 1)) (fun t ht => at_ t (g2 t ht)) (fun t ht => ct_ t (g2 t ht)) (fun t ht => b_ t _ (g2 t ht) gp2) (fun t ht => e_ _ t gp2 (g2 t ht))
 unfold exM exA cand
 by_cases c0 : c = 0
 ·rw [if_neg (fun h => h.1 c0)]
  rw [decide_eq_false (by simp [c0])] at es
  exact rxt_a ti a b c I.F I.T _ _ _ I.oF I.oT _ _ _ _ Sg es AtF Dg rfl l1 l2
 ·rw [decide_eq_true c0] at es
  have Tw := rdV 2 1 2 (by decide +kernel) (by omega) (by omega) (by omega) (by omega) (by omega)
  have Mu := rMul 2 c fz fz
  have n2 : (2 : Rat) * c ≠ 0 := fun e => by rcases Rat.mul_eq_zero.1 e with h | h; exact absurd h (by decide +kernel); exact c0 h
  have D := rDiv b (2 * c) n2 fz fz
  haveI z0 := hs_div b (2 * c) _ _ n2
  have Ng := rNeg (b / (2 * c))
  obtain ⟨h, hh⟩ : ∃ h, h = b / (-2 * c) := ⟨_, rfl⟩
  have eh : -(b / (2 * c)) = h := by rw [hh]; exact half2 c0
  rw [eh] at Ng
  rw [← hh]
  have okh : (Rl.rat h).Ok := Rl.rat_ok h
  haveI zh : HasSz h _ := eh ▸ (inferInstance : HasSz (-(b / (2 * c))) _)
  haveI z5 : HasSz (Rl.rat h).p 8 := hs_mono zh (by omega)
  haveI z6 : HasSz (Rl.rat h).r 8 := hs_mono hz0 (by omega)
  have K1 := vCompare I.F (Rl.rat h) hF.nonneg okh.nonneg
  have K2 := vCompare (Rl.rat h) I.T okh.nonneg hT.nonneg
  rw [ratV_eq] at K1 K2
  have v : (Rl.rat h).val = RR.ofRat h := Rl.rat_val h
  by_cases k1 : I.F.val < RR.ofRat h
  ·have e1 := (cmp_lss I.F (Rl.rat h)).2 (by rw [v]; exact k1)
   by_cases k2 : RR.ofRat h < I.T.val
   ·have e2 := (cmp_lss (Rl.rat h) I.T).2 (by rw [v]; exact k2)
    rw [if_pos ⟨c0, k1, k2⟩]
    have g3 : ∀ t ∈ [I.F, Rl.rat h, I.T], Gd t := fun t ht => by
     simp only [List.mem_cons, List.not_mem_nil, or_false] at ht
     rcases ht with rfl | rfl | rfl
     ·exact gF
     ·exact ⟨okh, z5, z6⟩
     ·exact gT
    have gp3 : Gd (pk bt (atQ a b c) [I.F, Rl.rat h, I.T] I.F) := by
     rcases pk_mem bt (atQ a b c) [I.F, Rl.rat h, I.T] I.F with e | e
     ·rw [e]; exact gF
     ·exact g3 _ e
    have l3 := ma_3 ti bt (atQ a b c) a b c I I.F (Rl.rat h) I.T (h0 _) (fun t ht => at_ t (g3 t ht)) (fun s hs t ht => b_ s t (g3 s hs) (g3 t ht)) hb
    have l4 := mb_3 (hiB I) (fun t => eqB (atQ a b c t) (atQ a b c (pk bt (atQ a b c) [I.F, Rl.rat h, I.T] I.F))) (atQ a b c) a b c I I.F (Rl.rat h) I.T (atQ a b c (pk bt (atQ a b c) [I.F, Rl.rat h, I.T] I.F)) (pk bt (atQ a b c) [I.F, Rl.rat h, I.T] I.F) (decide (dgQ a b c < 1)) (fun t ht => at_ t (g3 t ht)) (fun t ht => ct_ t (g3 t ht)) (fun t ht => b_ t _ (g3 t ht) gp3) (fun t ht => e_ _ t gp3 (g3 t ht))
    rw [ratC_eq] at l3 l4
    exact rxt_d ti a b c I.F I.T _ _ _ I.oF I.oT _ _ _ _ _ _ _ _ _ _ Sg es Tw Mu D Ng K1 e1 K2 e2 AtF Dg rfl l3 l4
   ·have e2 := cmp_lssF (x := Rl.rat h) (y := I.T) (by rw [v]; exact k2)
    rw [if_neg (fun g => k2 g.2.2)]
    exact rxt_c ti a b c I.F I.T _ _ _ I.oF I.oT _ _ _ _ _ _ _ _ _ _ Sg es Tw Mu D Ng K1 e1 K2 e2 AtF Dg rfl l1 l2
  ·have e1 := cmp_lssF (x := I.F) (y := Rl.rat h) (by rw [v]; exact k1)
   rw [if_neg (fun g => k1 g.2.1)]
   exact rxt_b ti a b c I.F I.T _ _ _ I.oF I.oT _ _ _ _ _ _ _ _ _ Sg es Tw Mu D Ng K1 e1 AtF Dg rfl l1 l2
theorem cmp_in (x y : Rl) : -1 ≤ Rl.cmp x y ∧ Rl.cmp x y ≤ 1 := sgR_in _
theorem vLeast (a b c : Rat) (I : Iv) [ha : HasSz a 2] [hb2 : HasSz b 2] [hc : HasSz c 2] [h1 : HasSz I.F.p 8] [h2 : HasSz I.F.r 8] [h3 : HasSz I.T.p 8] [h4 : HasSz I.T.r 8] (hF : I.F.Ok) (hT : I.T.Ok) :
    Sp Tryz.prog 52 [] [qV a b c, ivV I.F I.T I.oF I.oT, nV 1] (.tuple #[rlV (atQ a b c (exA ltB a b c I)), rlV (exA ltB a b c I), .bool (exM ltB a b c I)]) [] :=
 vExtreme 1 ltB (fun s t => by
  have := cmp_in s t
  rw [w64 (by omega) (by omega), Int.one_mul, Bool.eq_iff_iff, cmp_lss, ltB_iff]) (fun x => by
  have := mt (ltB_iff (x := x) (y := x)).1 (RR.lt_irrefl _)
  simpa using this) a b c I hF hT
theorem vGreatest (a b c : Rat) (I : Iv) [ha : HasSz a 2] [hb2 : HasSz b 2] [hc : HasSz c 2] [h1 : HasSz I.F.p 8] [h2 : HasSz I.F.r 8] [h3 : HasSz I.T.p 8] [h4 : HasSz I.T.r 8] (hF : I.F.Ok) (hT : I.T.Ok) :
    Sp Tryz.prog 52 [] [qV a b c, ivV I.F I.T I.oF I.oT, nV (-1)] (.tuple #[rlV (atQ a b c (exA gtB a b c I)), rlV (exA gtB a b c I), .bool (exM gtB a b c I)]) [] :=
 vExtreme (-1) gtB (fun s t => by
  have := cmp_in s t
  rw [w64 (by omega) (by omega), Bool.eq_iff_iff, gtB_iff, ← cmp_gtr]
  simp only [decide_eq_true_iff]
  omega) (fun x => by
  have := mt (gtB_iff (x := x) (y := x)).1 (RR.lt_irrefl _)
  simpa using this) a b c I hF hT
theorem cand_ok {F T : Rl} {b c : Rat} (hF : F.Ok) (hT : T.Ok) : ∀ t ∈ cand b c F T, t.Ok := fun t ht => by
 unfold cand at ht
 split at ht <;> simp only [List.mem_cons, List.not_mem_nil, or_false] at ht
 ·rcases ht with rfl | rfl | rfl
  ·exact hF
  ·exact Rl.rat_ok _
  ·exact hT
 ·rcases ht with rfl | rfl
  ·exact hF
  ·exact hT
theorem exA_low (a b c : Rat) (I : Iv) (hF : I.F.Ok) (hT : I.T.Ok) {x : Rl} (hx : x.Ok) (hi : I.has x.val) : (atQ a b c (exA ltB a b c I)).val ≤ (atQ a b c x).val := by
 obtain ⟨t, ht, h⟩ := ext_low a b c I.F I.T x.val (has_le hi).1 (has_le hi).2
 have hp := (pick_low (atQ a b c) (cand b c I.F I.T) (atQ a b c I.F, I.F)).2 t ht
 rw [pick_pk] at hp
 refine RR.le_trans hp ?_
 rw [atQ_val hx, atQ_val (cand_ok hF hT t ht)]
 exact h
theorem exA_high (a b c : Rat) (I : Iv) (hF : I.F.Ok) (hT : I.T.Ok) {x : Rl} (hx : x.Ok) (hi : I.has x.val) : (atQ a b c x).val ≤ (atQ a b c (exA gtB a b c I)).val := by
 obtain ⟨t, ht, h⟩ := ext_high a b c I.F I.T x.val (has_le hi).1 (has_le hi).2
 have hp := (pick_high (atQ a b c) (cand b c I.F I.T) (atQ a b c I.F, I.F)).2 t ht
 rw [pick_pk] at hp
 refine RR.le_trans ?_ hp
 rw [atQ_val hx, atQ_val (cand_ok hF hT t ht)]
 exact h
theorem exA_gd (bt : Rl → Rl → Bool) (a b c : Rat) (I : Iv) [ha : HasSz a 2] [hb2 : HasSz b 2] [hc : HasSz c 2] (gF : Gd I.F) (gT : Gd I.T) : Gd (exA bt a b c I) := by
 have g : ∀ t ∈ cand b c I.F I.T, Gd t := fun t ht => by
  unfold cand at ht
  split at ht
  ·rename_i hh
   simp only [List.mem_cons, List.not_mem_nil, or_false] at ht
   rcases ht with rfl | rfl | rfl
   ·exact gF
   ·haveI := hs_div b (-2 * c) _ _ (m2_ne hh.1)
    exact ⟨Rl.rat_ok _, hs_mono this (by omega), hs_mono hz0 (by omega)⟩
   ·exact gT
  ·simp only [List.mem_cons, List.not_mem_nil, or_false] at ht
   rcases ht with rfl | rfl
   ·exact gF
   ·exact gT
 rcases pk_mem bt (atQ a b c) (cand b c I.F I.T) I.F with e | e
 ·unfold exA; rw [e]; exact gF
 ·exact g _ e
end Go.Proofs.YtlblfgbpogljoaaGreatDoor

end
section
/- Chapter 4: the example with which its laws begin. -/
namespace Go.Proofs.YtlblfgbpogljoaaGreatDoor
open Go Go.RowKit Go.Sy
open Vi
theorem sameX' (V A : Rl) (a : Bool) : Bin .neq 101 (exV V A a) (exV V A a) (.bool false) := by
 have h := binS' (T := 101) (fun w => eqX_run 9995 V A V A a a w) (by kernel_rfl)
 simp at h
 exact h
end Go.Proofs.YtlblfgbpogljoaaGreatDoor

end
section
/- Chapter 4's law about extreme values. -/
namespace Go.Proofs.YtlblfgbpogljoaaGreatDoor
open Go Go.RowKit Go.Sy
open Vi
section
variable (n1 d1 n2 d2 n3 d3 : Int) (m1 e1 m2 e2 : Int) (g1 : Bool) (m3 e3 m4 e4 : Int) (g2 : Bool) (j1 c1 j2 c2 : Int) (g3 oF oT : Bool) (a b c : Rat) (F T x : Rl) (K : Sp Tryz.prog 32 [] [] (.bool true) [])
 (Q : Sp Tryz.prog 29 [] [fnV n1 d1 n2 d2 n3 d3] (qV a b c) []) (I : Sp Tryz.prog 43 [] [spV m1 e1 m2 e2 g1 m3 e3 m4 e4 g2 oF oT] (ivV F T oF oT) []) (X : Sp Tryz.prog 31 [] [tmV j1 c1 j2 c2 g3] (rlV x) [])
include K Q I X
theorem lx_no (L : Sp Tryz.prog 50 [] [qV a b c, ivV F T oF oT] (.tuple #[.agg ⟨exZ⟩, nV 10]) []) (G : Sp Tryz.prog 51 [] [qV a b c, ivV F T oF oT] (.tuple #[.agg ⟨exZ⟩, nV 10]) []) (Fa : Sp Tryz.prog 45 [] [ivV F T oF oT] (nV 10) []) (Z : Bin .eql 101 (.agg ⟨exZ⟩) (.agg ⟨exZ⟩) (.bool true)) :
    Sp Tryz.prog 9 [] [fnV n1 d1 n2 d2 n3 d3, spV m1 e1 m2 e2 g1 m3 e3 m4 e4 g2 oF oT, tmV j1 c1 j2 c2 g3] (.bool true) [] := by
 obtain ⟨Fp, Fr, Fn⟩ := F
 obtain ⟨Tp, Tr, Tn⟩ := T
 obtain ⟨xp, xr, xn⟩ := x
 exact walk (code := Tryz.f9.body.getD .skip) [Sy.c Q, Sy.c I, Sy.c X, Sy.c L, Sy.c G, Sy.c K, Sy.c Fa, Sy.L, Sy.L, x2 Z, x2 Z] fol Tryz.func9 (by kernel_rfl) (fun xs w => Tryz.call9 xs w) (by kernel_rfl)
theorem lx_out (V A V' A' y : Rl) (m m' : Bool) (L : Sp Tryz.prog 50 [] [qV a b c, ivV F T oF oT] (.tuple #[exV V A m, nV 0]) []) (G : Sp Tryz.prog 51 [] [qV a b c, ivV F T oF oT] (.tuple #[exV V' A' m', nV 0]) []) (Fa : Sp Tryz.prog 45 [] [ivV F T oF oT] (nV 0) [])
    (L2 : Sp Tryz.prog 52 [] [qV a b c, ivV F T oF oT, nV 1] (.tuple #[rlV V, rlV A, .bool m]) []) (G2 : Sp Tryz.prog 52 [] [qV a b c, ivV F T oF oT, nV (-1)] (.tuple #[rlV V', rlV A', .bool m']) []) (At : Sp Tryz.prog 36 [] [qV a b c, rlV x] (rlV y) [])
    (C : Sp Tryz.prog 47 [] [ivV F T oF oT, rlV x] (.bool false) []) :
    Sp Tryz.prog 9 [] [fnV n1 d1 n2 d2 n3 d3, spV m1 e1 m2 e2 g1 m3 e3 m4 e4 g2 oF oT, tmV j1 c1 j2 c2 g3] (.bool true) [] := by
 have x1 := sameX' V A m
 have x2 := sameX' V' A' m'
 obtain ⟨Fp, Fr, Fn⟩ := F
 obtain ⟨Tp, Tr, Tn⟩ := T
 obtain ⟨xp, xr, xn⟩ := x
 obtain ⟨yp, yr, yn⟩ := y
 obtain ⟨Vp, Vr, Vn⟩ := V
 obtain ⟨Ap, Ar, An⟩ := A
 obtain ⟨Wp, Wr, Wn⟩ := V'
 obtain ⟨Bp, Br, Bn⟩ := A'
 exact walk (code := Tryz.f9.body.getD .skip) [Sy.c Q, Sy.c I, Sy.c X, Sy.c L, Sy.c G, Sy.c K, Sy.c Fa, Sy.c L2, Sy.c G2, Sy.L, Sy.x2 x1, Sy.x2 x2, Sy.c At, Sy.c C] fol Tryz.func9 (by kernel_rfl) (fun xs w => Tryz.call9 xs w) (by kernel_rfl)
theorem lx_in (V A V' A' y : Rl) (m m' : Bool) (k1 k2 : Int) (L : Sp Tryz.prog 50 [] [qV a b c, ivV F T oF oT] (.tuple #[exV V A m, nV 0]) []) (G : Sp Tryz.prog 51 [] [qV a b c, ivV F T oF oT] (.tuple #[exV V' A' m', nV 0]) []) (Fa : Sp Tryz.prog 45 [] [ivV F T oF oT] (nV 0) [])
    (L2 : Sp Tryz.prog 52 [] [qV a b c, ivV F T oF oT, nV 1] (.tuple #[rlV V, rlV A, .bool m]) []) (G2 : Sp Tryz.prog 52 [] [qV a b c, ivV F T oF oT, nV (-1)] (.tuple #[rlV V', rlV A', .bool m']) []) (At : Sp Tryz.prog 36 [] [qV a b c, rlV x] (rlV y) [])
    (C : Sp Tryz.prog 47 [] [ivV F T oF oT, rlV x] (.bool true) []) (K1 : Sp Tryz.prog 42 [] [rlV V, rlV y] (nV k1) []) (le1 : decide (k1 ≤ 0) = true) (K2 : Sp Tryz.prog 42 [] [rlV y, rlV V'] (nV k2) []) (le2 : decide (k2 ≤ 0) = true) :
    Sp Tryz.prog 9 [] [fnV n1 d1 n2 d2 n3 d3, spV m1 e1 m2 e2 g1 m3 e3 m4 e4 g2 oF oT, tmV j1 c1 j2 c2 g3] (.bool true) [] := by
 have x1 := sameX' V A m
 have x2 := sameX' V' A' m'
 obtain ⟨Fp, Fr, Fn⟩ := F
 obtain ⟨Tp, Tr, Tn⟩ := T
 obtain ⟨xp, xr, xn⟩ := x
 obtain ⟨yp, yr, yn⟩ := y
 obtain ⟨Vp, Vr, Vn⟩ := V
 obtain ⟨Ap, Ar, An⟩ := A
 obtain ⟨Wp, Wr, Wn⟩ := V'
 obtain ⟨Bp, Br, Bn⟩ := A'
 exact walk (code := Tryz.f9.body.getD .skip) [Sy.c Q, Sy.c I, Sy.c X, Sy.c L, Sy.c G, Sy.c K, Sy.c Fa, Sy.c L2, Sy.c G2, Sy.L, Sy.x2 x1, Sy.x2 x2, Sy.c At, Sy.c C, Sy.c K1, eb le1, Sy.c K2, eb le2] fol Tryz.func9 (by kernel_rfl) (fun xs w => Tryz.call9 xs w) (by kernel_rfl)
end
theorem exZ_eq : exV (Rl.rat 0) (Rl.rat 0) false = .agg ⟨exZ⟩ := by
 unfold exV exC exZ rlC Rl.rat
 simp only [show (0 : Rat).num = 0 from rfl, show dn 0 = 0 from rfl, sg0, mg0, List.cons_append, List.nil_append]
theorem sameXZ : Bin .eql 101 (.agg ⟨exZ⟩) (.agg ⟨exZ⟩) (.bool true) := by
 have := sameX (Rl.rat 0) (Rl.rat 0) false
 rwa [exZ_eq] at this
theorem le_cmp {x y : Rl} (h : x.val ≤ y.val) : decide (Rl.cmp x y ≤ 0) = true := by
 refine decide_eq_true ?_
 rcases cmp_cases x y with ⟨e, g⟩ | ⟨e, g⟩ | ⟨e, g⟩
 ·omega
 ·omega
 ·exact absurd g h
theorem tmR_gd2 {n1 d1 n2 d2 : Int} {neg : Bool} (h1 : Cn n1 d1) (h2 : Cn n2 d2) : Gd (tmR n1 d1 n2 d2 neg) := ⟨tmR_ok, hs_mono (tmR_hsp h1 h2) (by omega), hs_mono (tmR_hsr h2) (by omega)⟩
theorem QuadraticExtremes_s (n1 d1 n2 d2 n3 d3 : Int) (m1 e1 m2 e2 : Int) (g1 : Bool) (m3 e3 m4 e4 : Int) (g2 oF oT : Bool) (j1 c1 j2 c2 : Int) (g3 : Bool) (h1 : Cn n1 d1) (h2 : Cn n2 d2) (h3 : Cn n3 d3) (h4 : Cn m1 e1) (h5 : Cn m2 e2) (h6 : Cn m3 e3) (h7 : Cn m4 e4) (h8 : Cn j1 c1) (h9 : Cn j2 c2) : Sp Tryz.prog 9 [] [fnV n1 d1 n2 d2 n3 d3, spV m1 e1 m2 e2 g1 m3 e3 m4 e4 g2 oF oT, tmV j1 c1 j2 c2 g3] (.bool true) [] := by
 have Q := wQuad n1 d1 n2 d2 n3 d3 h1 h2 h3
 have I := wInterval m1 e1 m2 e2 g1 m3 e3 m4 e4 g2 oF oT h4 h5 h6 h7
 have X := wReal j1 c1 j2 c2 g3 h8 h9
 have z1 := cf_hs h1
 have z2 := cf_hs h2
 have z3 := cf_hs h3
 have gF : Gd (tmR m1 e1 m2 e2 g1) := tmR_gd2 h4 h5
 have gT : Gd (tmR m3 e3 m4 e4 g2) := tmR_gd2 h6 h7
 have gx : Gd (tmR j1 c1 j2 c2 g3) := tmR_gd2 h8 h9
 clear h1 h2 h3 h4 h5 h6 h7 h8 h9
 generalize cf n1 d1 = a at *
 generalize cf n2 d2 = b at *
 generalize cf n3 d3 = c at *
 generalize tmR m1 e1 m2 e2 g1 = F at *
 generalize tmR m3 e3 m4 e4 g2 = T at *
 generalize tmR j1 c1 j2 c2 g3 = x at *
 obtain ⟨hF, y1, y2⟩ := gF
 obtain ⟨hT, y3, y4⟩ := gT
 obtain ⟨hx, y5, y6⟩ := gx
 have Fa := vFault F T oF oT hF hT
 by_cases hi : Iv.full ⟨F, T, oF, oT⟩
 ·rw [(faC_iff hF hT).1 hi] at Fa
  have L := uLeast a b c ⟨F, T, oF, oT⟩ hF hT hi
  have G := uGreatest a b c ⟨F, T, oF, oT⟩ hF hT hi
  have L2 := vLeast a b c ⟨F, T, oF, oT⟩ hF hT
  have G2 := vGreatest a b c ⟨F, T, oF, oT⟩ hF hT
  have At := vAt a b c x hx
  have C := vContains F T x oF oT hF.nonneg hT.nonneg hx.nonneg
  by_cases hin : Iv.has ⟨F, T, oF, oT⟩ x.val
  ·rw [inC_yes hF hT hx hin] at C
   have g4 := exA_gd ltB a b c ⟨F, T, oF, oT⟩ ⟨hF, y1, y2⟩ ⟨hT, y3, y4⟩
   have g5 := exA_gd gtB a b c ⟨F, T, oF, oT⟩ ⟨hF, y1, y2⟩ ⟨hT, y3, y4⟩
   obtain ⟨o1, o2, o3⟩ := g4
   obtain ⟨o4, o5, o6⟩ := g5
   haveI := atQ_hsp a b c x
   haveI := atQ_hsr a b c x
   haveI := atQ_hsp a b c (exA ltB a b c ⟨F, T, oF, oT⟩)
   haveI := atQ_hsr a b c (exA ltB a b c ⟨F, T, oF, oT⟩)
   haveI := atQ_hsp a b c (exA gtB a b c ⟨F, T, oF, oT⟩)
   haveI := atQ_hsr a b c (exA gtB a b c ⟨F, T, oF, oT⟩)
   have K1 := vCompare (atQ a b c (exA ltB a b c ⟨F, T, oF, oT⟩)) (atQ a b c x) (atQ_ok o1).nonneg (atQ_ok hx).nonneg
   have K2 := vCompare (atQ a b c x) (atQ a b c (exA gtB a b c ⟨F, T, oF, oT⟩)) (atQ_ok hx).nonneg (atQ_ok o4).nonneg
   exact lx_in _ _ _ _ _ _ _ _ _ _ _ _ _ _ _ _ _ _ _ _ _ oF oT a b c F T x vKnown4 Q I X _ _ _ _ _ _ _ _ _ L G Fa L2 G2 At C K1 (le_cmp (exA_low a b c ⟨F, T, oF, oT⟩ hF hT hx hin)) K2 (le_cmp (exA_high a b c ⟨F, T, oF, oT⟩ hF hT hx hin))
  ·rw [inC_no hF hT hx hin] at C
   exact lx_out _ _ _ _ _ _ _ _ _ _ _ _ _ _ _ _ _ _ _ _ _ oF oT a b c F T x vKnown4 Q I X _ _ _ _ _ _ _ L G Fa L2 G2 At C
 ·rw [(faC_iff hF hT).2 hi] at Fa
  have H := ucheck F T oF oT hF hT
  rw [(faC_iff hF hT).2 hi] at H
  exact lx_no _ _ _ _ _ _ _ _ _ _ _ _ _ _ _ _ _ _ _ _ _ oF oT a b c F T x vKnown4 Q I X (uLeastN a b c F T oF oT (ext_no _ a b c F T oF oT H)) (uGreatestN a b c F T oF oT (ext_no _ a b c F T oF oT H)) Fa sameXZ
theorem QuadraticExtremes_c (n1 d1 n2 d2 n3 d3 : Int) (m1 e1 m2 e2 : Int) (g1 : Bool) (m3 e3 m4 e4 : Int) (g2 oF oT : Bool) (j1 c1 j2 c2 : Int) (g3 : Bool) (w : World) (hw : w.ShapedOpen Tryz.prog) (h1 : Cn n1 d1) (h2 : Cn n2 d2) (h3 : Cn n3 d3) (h4 : Cn m1 e1) (h5 : Cn m2 e2) (h6 : Cn m3 e3) (h7 : Cn m4 e4) (h8 : Cn j1 c1) (h9 : Cn j2 c2) : Calls Tryz.prog 9 #[fnV n1 d1 n2 d2 n3 d3, spV m1 e1 m2 e2 g1 m3 e3 m4 e4 g2 oF oT, tmV j1 c1 j2 c2 g3] w fun e w' => e = .returned (.bool true) ∧ Below w.heap.size w w' := (QuadraticExtremes_s n1 d1 n2 d2 n3 d3 m1 e1 m2 e2 g1 m3 e3 m4 e4 g2 oF oT j1 c1 j2 c2 g3 h1 h2 h3 h4 h5 h6 h7 h8 h9).calls rfl rfl w hw
end Go.Proofs.YtlblfgbpogljoaaGreatDoor

end
