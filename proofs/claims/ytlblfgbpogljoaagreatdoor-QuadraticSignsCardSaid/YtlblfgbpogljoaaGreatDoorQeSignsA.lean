/- Part 1 of the proof; what it holds is said text by text. -/
import Derived.OwnWalk
import Derived.Deep.DeepCutAuto
import Derived.Deep.CutBlock
import Derived.Test.YtlblfgbpogljoaaGreatDoorQbL
set_option linter.unusedSimpArgs false
set_option linter.unusedVariables false
section
namespace Go.Proofs.YtlblfgbpogljoaaGreatDoor
open Go Go.RowKit
open Vi
theorem DT.num_lt {w : World} {v : Value} {x : Nat} (h : DT w v x) : x < 256 ^ nd 256 x := h.1
end Go.Proofs.YtlblfgbpogljoaaGreatDoor

end
section
/- Contracts for the reckoner: integers; digits as rows. -/
namespace Go.Proofs.YtlblfgbpogljoaaGreatDoor
open Go Go.RowKit Go.Sy
open Vi
section
variable {f : FuncId}
end
end Go.Proofs.YtlblfgbpogljoaaGreatDoor
namespace Go.Proofs.YtlblfgbpogljoaaGreatDoor
open Go Go.RowKit Go.Sy
open Vi
end Go.Proofs.YtlblfgbpogljoaaGreatDoor
namespace Go.Proofs.YtlblfgbpogljoaaGreatDoor
open Go Go.RowKit Go.Sy
open Vi
end Go.Proofs.YtlblfgbpogljoaaGreatDoor
namespace Go.Proofs.YtlblfgbpogljoaaGreatDoor
open Go Go.RowKit
open Vi
set_option maxHeartbeats 400000 in
theorem sIsInt_c (b : Bool) (s : ByteArray) (w : World) (hs : s.size ≤ 9223372036854775807) : Calls Tryz.prog 159 #[.agg #[.bool b, .string s]] w fun e w' => e = .returned (.bool (okInt b s)) ∧ Below w.heap.size w w' := by
 cases he : s.toList.isEmpty
 ·have hp : 0 < s.size := by
    rcases Nat.eq_zero_or_pos s.size with h | h
    ·rw [toList_data] at he
     have : s.data.toList.length = 0 := h
     rw [List.eq_nil_of_length_eq_zero this] at he; simp at he
    ·exact h
  have hc := can_first s hp
  by_cases h0 : (s[0]'hp).toNat = 0
  ·have e : okInt b s = false := by
     unfold okInt; rw [he]
     have h1 : ¬ Vi.Can s := fun h => (hc.1 h) h0
     unfold Vi.Can at h1
     have h2 : s.data.toList.head? = some 0 := Decidable.byContradiction h1
     rw [h2]; rfl
   rw [e]
   clear hc
   go_enter Tryz.func159, Tryz.ntmps159
   go_wp2
   go_ret
   exact ⟨rfl, by (exact belA)⟩
  ·have e : okInt b s = true := by
     unfold okInt; rw [he]
     have h1 : Vi.Can s := hc.2 h0
     unfold Vi.Can at h1
     simp [h1]
   rw [e]
   have hb : ((s[0].toNat : Int) != 0) = true := by simpa using h0
   clear hc
   go_enter Tryz.func159, Tryz.ntmps159
   go_wp2
   go_ret
   exact ⟨by simp [h0], by (exact belA)⟩
 ·have e : okInt b s = !b := by unfold okInt; rw [he]; rfl
  rw [e]
  have hz : s.size = 0 := by
   rw [toList_data] at he
   have h2 : s.data.toList = [] := by simpa using he
   have : s.data.toList.length = 0 := by rw [h2]; rfl
   exact this
  cases b
  all_goals
   go_enter Tryz.func159, Tryz.ntmps159
   go_wp2
   go_ret
   exact ⟨rfl, by (exact belA)⟩
end Go.Proofs.YtlblfgbpogljoaaGreatDoor
namespace Go.Proofs.YtlblfgbpogljoaaGreatDoor
open Go Go.RowKit Go.Sy
open Vi
theorem rIsInt (b : Bool) (s : ByteArray) (hs : s.size ≤ 9223372036854775807) : Sp Tryz.prog 159 [] [.agg #[.bool b, .string s]] (.bool (okInt b s)) [] := Sp.of (fun xs w => Tryz.call159 xs w) (by kernel_rfl) (by kernel_rfl) (fun w => sIsInt_c b s w hs)
theorem sgd_not (b : Bool) (x : Nat) : sgd (!(b == true)) x = -sgd b x := by
 unfold sgd
 cases b <;> simp
theorem rDiv (p q : Rat) (h0 : q ≠ 0) (hp : Fits p) (hq : Fits q) : Sp Tryz.prog 19 [] [rV p, rV q] (rV (p / q)) [] := by
 obtain ⟨p1, p2⟩ := hp
 obtain ⟨q1, q2⟩ := hq
 have h1 := nd_mul p.num.natAbs q.den
 have h2 := nd_mul p.den q.num.natAbs
 have hqn : q.num ≠ 0 := fun h => h0 (Rat.num_eq_zero.1 h)
 have hd : 0 < p.den * q.num.natAbs := Nat.mul_pos (by have := p.den_nz; omega) (by omega)
 have e : p / q = Rat.divInt (sgd (!(sg p.num == sg q.num)) (p.num.natAbs * q.den)) (p.den * q.num.natAbs : Nat) := by
  rw [div_of]
  rw [sgd_den p.num q.den]
  cases hs : sg q.num
  ·have h3 : ((p.den * q.num.natAbs : Nat) : Int) = (p.den : Int) * q.num := by
     have : 0 ≤ q.num := by unfold sg at hs; simpa using hs
     rw [Int.natCast_mul]; congr 1; omega
   rw [h3]
   congr 1
   cases sg p.num <;> rfl
  ·have h3 : ((p.den * q.num.natAbs : Nat) : Int) = -((p.den : Int) * q.num) := by
     have : q.num < 0 := by unfold sg at hs; simpa using hs
     rw [Int.natCast_mul, ← Int.mul_neg]; congr 1; omega
   rw [h3, sgd_not]
   exact (neg_of _ _).symm
 rw [e]
 exact walk (code := Tryz.f19.body.getD .skip) [cr (fOf p ⟨p1, p2⟩), cr (fOf q ⟨q1, q2⟩), cr (dTimes p.num.natAbs q.den (by omega) (by omega)), cr (dTimes p.den q.num.natAbs (by omega) (by omega)), cr (fCan (!(sg p.num == sg q.num)) (p.num.natAbs * q.den) (p.den * q.num.natAbs) hd (by omega) (by omega))] fol Tryz.func19 (by kernel_rfl) (fun xs w => Tryz.call19 xs w) (by kernel_rfl)
end Go.Proofs.YtlblfgbpogljoaaGreatDoor
namespace Go.Proofs.YtlblfgbpogljoaaGreatDoor
open Go Go.RowKit Go.Sy
open Vi
end Go.Proofs.YtlblfgbpogljoaaGreatDoor
namespace Go.Proofs.YtlblfgbpogljoaaGreatDoor
open Go Go.RowKit Go.Sy
open Vi
end Go.Proofs.YtlblfgbpogljoaaGreatDoor
namespace Go.Proofs.YtlblfgbpogljoaaGreatDoor
open Go Go.RowKit Go.Sy
open Vi
theorem isOne {s : ByteArray} (h : okInt false s = true) : (s.toList == (⟨#[1]⟩ : ByteArray).toList) = (num s == 1) := by
 obtain ⟨z, h1, rfl⟩ := okInt_num false s h
 rw [num_mg, ← mg1]
 have := int_beq z 1
 rw [← h1, show sg 1 = false by decide] at this
 simp only [BEq.rfl, Bool.true_and] at this
 rw [this]
 have : 0 ≤ z := by
  have h1 := h1.symm
  unfold sg at h1
  have : ¬ z < 0 := by simpa using h1
  omega
 rw [Bool.eq_iff_iff]
 simp
 omega
theorem rCheck (b1 : Bool) (s1 : ByteArray) (b2 : Bool) (s2 : ByteArray) (h1 : s1.size ≤ 131000) (h2 : s2.size ≤ 131000) : Sp Tryz.prog 121 [] [.agg #[.bool b1, .string s1, .bool b2, .string s2]] (.bool (okRat b1 s1 b2 s2)) [] := by
 have c1 := rIsInt b1 s1 (by omega)
 have c2 := rIsInt b2 s2 (by omega)
 unfold okRat
 cases k1 : okInt b1 s1 <;> rw [k1] at c1
 ·exact walk (code := Tryz.f121.body.getD .skip) [c c1] fol Tryz.func121 (by kernel_rfl) (fun xs w => Tryz.call121 xs w) (by kernel_rfl)
 cases k2 : okInt b2 s2 <;> rw [k2] at c2
 ·exact walk (code := Tryz.f121.body.getD .skip) [c c1, c c2] fol Tryz.func121 (by kernel_rfl) (fun xs w => Tryz.call121 xs w) (by kernel_rfl)
 cases b2
 case true => exact walk (code := Tryz.f121.body.getD .skip) [c c1, c c2] fol Tryz.func121 (by kernel_rfl) (fun xs w => Tryz.call121 xs w) (by kernel_rfl)
 cases k3 : (s2.toList == [])
 ·have n1 : nd 256 (num s1) ≤ 131000 := Nat.le_trans (nd_le 256 (by omega) _ s1.size (num_lt s1)) h1
  have n2 : nd 256 (num s2) ≤ 131000 := Nat.le_trans (nd_le 256 (by omega) _ s2.size (num_lt s2)) h2
  have k4 : s2.toList.isEmpty = false := by rw [← k3]; cases s2.toList <;> rfl
  have hi := isOne k2
  have hC := dCommon (num s1) (num s2) (by omega) (by omega)
  rw [k4, Nat.gcd_comm (num s1) (num s2)]
  obtain ⟨G, hG⟩ : ∃ G, G = Nat.gcd (num s2) (num s1) := ⟨_, rfl⟩
  rw [← hG] at hC ⊢
  have hd1 := dDigits b1 s1 (by omega)
  have hd2 := dDigits false s2 (by omega)
  cases k5 : (num s2 == 1)
  ·rw [show (num s2 != 1) = true by show (!(num s2 == 1)) = true; rw [k5]; rfl]
   have e5 : (!(s2.toList == (⟨#[1]⟩ : ByteArray).toList)) = true := by rw [hi, k5]; rfl
   by_cases k6 : nd 256 G = 1
   ·have g0 : 0 < G := by
      rcases Nat.eq_zero_or_pos G with h | h
      ·rw [h, nd_zero] at k6; omega
      ·exact h
    have g1 : G < 256 := by have := lt_pow_nd 256 (by omega) G; rw [k6] at this; simpa using this
    rw [k6, rD_small G g0 g1] at hC
    have e7 : ((true && true && !false && (false || true && G == 1)) : Bool) = decide ((G : Int) = 1) := by
     rw [Bool.eq_iff_iff]; simp; omega
    show Sp _ _ _ _ (.bool (true && true && !false && (false || true && G == 1))) _
    rw [e7]
    exact walk (code := Tryz.f121.body.getD .skip) [c c1, c c2, L, eb k3, cr hd1, cr hd2, cr hC, eb e5] fol Tryz.func121 (by kernel_rfl) (fun xs w => Tryz.call121 xs w) (by kernel_rfl)
   ·have e6 : decide ((nd 256 G : Int) = 1) = false := decide_eq_false (by omega)
    have e7 : (G == 1) = false := by
     have : G ≠ 1 := fun h => k6 (by rw [h]; exact nd_small 1 (by omega) (by omega))
     simpa using this
    rw [e7]
    exact walk (code := Tryz.f121.body.getD .skip) [c c1, c c2, L, eb k3, cr hd1, cr hd2, cr hC, eb e5, eb e6] fol Tryz.func121 (by kernel_rfl) (fun xs w => Tryz.call121 xs w) (by kernel_rfl)
  ·rw [show (num s2 != 1) = false by show (!(num s2 == 1)) = false; rw [k5]; rfl]
   have e5 : (!(s2.toList == (⟨#[1]⟩ : ByteArray).toList)) = false := by rw [hi, k5]; rfl
   exact walk (code := Tryz.f121.body.getD .skip) [c c1, c c2, L, eb k3, cr hd1, cr hd2, cr hC, eb e5] fol Tryz.func121 (by kernel_rfl) (fun xs w => Tryz.call121 xs w) (by kernel_rfl)
 ·have k4 : s2.toList.isEmpty = true := by rw [← k3]; cases s2.toList <;> rfl
  rw [k4]
  exact walk (code := Tryz.f121.body.getD .skip) [c c1, c c2, L, eb k3] fol Tryz.func121 (by kernel_rfl) (fun xs w => Tryz.call121 xs w) (by kernel_rfl)
theorem rCheckQ (q : Rat) (hq : Fits q) : Sp Tryz.prog 121 [] [rV q] (.bool true) [] := by
 have := rCheck (sg q.num) (mg q.num) (sg (dn q)) (mg (dn q)) hq.mn hq.md
 rw [okRat_of] at this
 exact this
end Go.Proofs.YtlblfgbpogljoaaGreatDoor
namespace Go.Proofs.YtlblfgbpogljoaaGreatDoor
open Go Go.RowKit Go.Sy
open Vi
end Go.Proofs.YtlblfgbpogljoaaGreatDoor
namespace Go.Proofs.YtlblfgbpogljoaaGreatDoor
open Go Go.RowKit Go.Sy
open Vi
end Go.Proofs.YtlblfgbpogljoaaGreatDoor

end
section
/- No program in sight: an interval divided at the roots of a function; which part has an instant. -/
namespace Go.Proofs.YtlblfgbpogljoaaGreatDoor
open Go Go.RowKit Go.Sy
open Vi RR
theorem Iv.has_full {i : Iv} {v : RR} (h : i.has v) : i.full := by
 obtain ⟨h1, h2⟩ := h
 rcases h1 with h1 | ⟨o1, h1⟩
 ·rcases h2 with h2 | ⟨o2, h2⟩
  ·exact .inl (lt_trans h1 h2)
  ·exact .inl (h2 ▸ h1)
 ·rcases h2 with h2 | ⟨o2, h2⟩
  ·exact .inl (h1 ▸ h2)
  ·exact .inr ⟨h1.trans h2, o1, o2⟩
noncomputable def found (v : RR) : List (Iv × Int) → Nat
 | [] => 0
 | p :: l => (open Classical in if p.1.has v then 1 else 0) + found v l
theorem found_app (v : RR) : ∀ a b : List (Iv × Int), found v (a ++ b) = found v a + found v b
 | [], b => by simp [found]
 | x :: a, b => by simp only [List.cons_append, found, found_app v a b]; omega
theorem found_parts (inn : Iv) (s : Rl → Rl → Int) (v : RR) : ∀ (rs : List Rl) (f : Rl) (o : Bool), (∀ r ∈ rs, inn.has r.val → f.val < r.val ∨ o = false ∧ f.val = r.val) → rs.Pairwise (fun x y => x.val < y.val) →
    found v (parts inn s rs f o) = (open Classical in if Iv.has ⟨f, inn.T, o, inn.oT⟩ v then 1 else 0)
 | [], f, o, _, _ => by
  unfold parts
  by_cases h : Iv.full ⟨f, inn.T, o, inn.oT⟩
  ·rw [if_pos h]; simp [found]
  ·rw [if_neg h, if_neg (fun g => h (Iv.has_full g))]; rfl
 | r :: rs, f, o, hlt, hs => by
  unfold parts
  have hs2 := List.pairwise_cons.1 hs
  by_cases hr : inn.has r.val
  ·rw [if_pos hr]
   have ih := found_parts inn s v rs r true (fun x hx _ => .inl (hs2.1 x hx)) hs2.2
   have hfr := hlt r (List.mem_cons_self ..) hr
   rw [found_app]
   simp only [found, ih]
   have e1 : Iv.has ⟨r, r, false, false⟩ v ↔ v = r.val := by
    constructor
    ·rintro ⟨h1, h2⟩
     rcases h1 with h1 | ⟨_, h1⟩
     ·rcases h2 with h2 | ⟨_, h2⟩
      ·exact absurd (lt_trans h1 h2) (lt_irrefl _)
      ·exact h2
     ·exact h1.symm
    ·rintro rfl
     exact ⟨.inr ⟨rfl, rfl⟩, .inr ⟨rfl, rfl⟩⟩
   have hT := hr.2
   rcases tri v r.val with hv | hv | hv
   ·
    have n1 : ¬ Iv.has ⟨r, r, false, false⟩ v := fun h => by rw [e1] at h; rw [h] at hv; exact lt_irrefl _ hv
    have n2 : ¬ Iv.has ⟨r, inn.T, true, inn.oT⟩ v := fun h => by
     rcases h.1 with h | ⟨h, _⟩
     ·exact lt_irrefl _ (lt_trans hv h)
     ·cases h
    rw [if_neg n1, if_neg n2]
    have hvT : v < inn.T.val := by
     rcases hT with h | ⟨_, h⟩
     ·exact lt_trans hv h
     ·rw [← h]; exact hv
    have e2 : Iv.has ⟨f, inn.T, o, inn.oT⟩ v ↔ (f.val < v ∨ o = false ∧ f.val = v) := ⟨fun h => h.1, fun h => ⟨h, .inl hvT⟩⟩
    have e3 : Iv.has ⟨f, r, o, true⟩ v ↔ (f.val < v ∨ o = false ∧ f.val = v) := ⟨fun h => h.1, fun h => ⟨h, .inl hv⟩⟩
    by_cases hf : f.val < r.val
    ·rw [if_pos hf]
     simp only [found]
     by_cases h : f.val < v ∨ o = false ∧ f.val = v
     ·rw [if_pos (e3.2 h), if_pos (e2.2 h)]
     ·rw [if_neg (fun g => h (e3.1 g)), if_neg (fun g => h (e2.1 g))]
    ·rw [if_neg hf, if_neg]
     ·simp only [found]
     ·intro g
      rcases e2.1 g with h | ⟨_, h⟩
      ·exact hf (lt_trans h hv)
      ·exact hf (h ▸ hv)
   ·
    subst hv
    rw [if_pos (e1.2 rfl), if_neg (show ¬ Iv.has ⟨r, inn.T, true, inn.oT⟩ r.val from fun h => by
     rcases h.1 with h | ⟨h, _⟩
     ·exact lt_irrefl _ h
     ·cases h), if_pos (show Iv.has ⟨f, inn.T, o, inn.oT⟩ r.val from ⟨hfr, hT⟩)]
    by_cases hf : f.val < r.val
    ·rw [if_pos hf]
     simp only [found]
     rw [if_neg (fun h => by
      rcases h.2 with h | ⟨h, _⟩
      ·exact lt_irrefl _ h
      ·cases h)]
    ·rw [if_neg hf]
     simp only [found]
   ·
    have n1 : ¬ Iv.has ⟨r, r, false, false⟩ v := fun h => by rw [e1] at h; rw [h] at hv; exact lt_irrefl _ hv
    rw [if_neg n1]
    have hfv : f.val < v := by
     rcases hfr with h | ⟨_, h⟩
     ·exact lt_trans h hv
     ·rw [h]; exact hv
    have e2 : Iv.has ⟨f, inn.T, o, inn.oT⟩ v ↔ Iv.has ⟨r, inn.T, true, inn.oT⟩ v := ⟨fun h => ⟨.inl hv, h.2⟩, fun h => ⟨.inl hfv, h.2⟩⟩
    have n3 : found v (open Classical in if f.val < r.val then [((⟨f, r, o, true⟩ : Iv), s f r)] else []) = 0 := by
     split
     ·simp only [found]
      rw [if_neg (fun h => by
       rcases h.2 with h | ⟨h, _⟩
       ·exact lt_irrefl _ (lt_trans hv h)
       ·cases h)]
     ·rfl
    rw [n3]
    by_cases h : Iv.has ⟨r, inn.T, true, inn.oT⟩ v
    ·rw [if_pos h, if_pos (e2.2 h)]
    ·rw [if_neg h, if_neg (fun g => h (e2.1 g))]
  ·rw [if_neg hr]
   exact found_parts inn s v rs f o (fun x hx => hlt x (List.mem_cons_of_mem _ hx)) hs2.2
end Go.Proofs.YtlblfgbpogljoaaGreatDoor

end
section
/- No program in sight: each part of an interval has the sign that the function has at each of its instants. -/
namespace Go.Proofs.YtlblfgbpogljoaaGreatDoor
open Go Go.RowKit Go.Sy
open Vi RR
theorem sign_parts {qv : RR → RR} {sc : Int} {all : List Rl} (S : Sgs qv sc all) (inn : Iv) : ∀ (rs : List Rl) (f : Rl) (o : Bool), Rest inn all rs f o → (∀ r ∈ rs, r ∈ all) → (∀ r ∈ rs, inn.has r.val → f.val < r.val ∨ o = false ∧ f.val = r.val) → rs.Pairwise (fun x y => x.val < y.val) →
    ∀ p ∈ parts inn (sBt qv sc) rs f o, ∀ v, p.1.has v → sgR (qv v) = p.2
 | [], f, o, hR, hall, _, _, p, hp, v, hv => by
  unfold parts at hp
  split at hp
  ·rename_i hfull
   obtain rfl := List.mem_singleton.1 hp
   have hn := hR.none_end
   unfold sBt
   have nf : o = false → (inn.T.val ≤ f.val → inn.oT = false ∧ f.val = inn.T.val) → sgR (qv f.val) ≠ 0 := fun ho hT e => by
    obtain ⟨x, hx, hxv⟩ := S.only _ e
    rcases hR.seen x hx with h1 | h1 | ⟨_, h1⟩ | h1 | ⟨h1, h2⟩
    ·cases h1
    ·rw [hxv] at h1; exact lt_irrefl _ h1
    ·rw [ho] at h1; cases h1
    ·rw [hxv] at h1
     have := (hT (le_of_lt h1)).2
     rw [this] at h1; exact lt_irrefl _ h1
    ·rw [hxv] at h1
     have := (hT (by rw [h1]; exact le_refl _)).1
     rw [this] at h2; cases h2
   rcases hv.1 with h1 | ⟨h1o, h1⟩
   ·rcases hv.2 with h2 | ⟨h2o, h2⟩
    ·exact S.mid _ _ _ h1 h2 hn
    ·
     have hfT : f.val < inn.T.val := h2 ▸ h1
     have nT : sgR (qv inn.T.val) ≠ 0 := fun e => by
      obtain ⟨x, hx, hxv⟩ := S.only _ e
      rcases hR.seen x hx with k | k | ⟨k, _⟩ | k | ⟨_, k⟩
      ·cases k
      ·rw [hxv] at k; exact lt_irrefl _ (lt_trans hfT k)
      ·rw [hxv] at k; rw [k] at hfT; exact lt_irrefl _ hfT
      ·rw [hxv] at k; exact lt_irrefl _ k
      ·have h2o : inn.oT = false := h2o
       rw [h2o] at k; cases k
     have h2 : v = inn.T.val := h2
     rw [h2]
     by_cases hF : sgR (qv f.val) = 0
     ·unfold btwS
      rw [if_neg (by simp [hF]), if_pos nT]
     ·rw [btwS_left hF]
      exact (S.ends _ _ hfT hn hF nT).symm
   ·
    have h1 : f.val = v := h1
    have h1o : o = false := h1o
    rw [← h1, btwS_left]
    refine nf h1o fun hT => ?_
    rcases hv.2 with h2 | ⟨h2o, h2⟩
    ·have h2 : v < inn.T.val := h2
     rw [← h1] at h2
     exact absurd (lt_of_lt_of_le h2 hT) (lt_irrefl _)
    ·exact ⟨h2o, h1.trans h2⟩
  ·cases hp
 | r :: rs, f, o, hR, hall, hlt, hs, p, hp, v, hv => by
  unfold parts at hp
  have hs2 := List.pairwise_cons.1 hs
  split at hp
  ·rename_i hr
   have hfr := hlt r (List.mem_cons_self ..) hr
   rcases List.mem_append.1 hp with hp | hp
   ·split at hp
    ·rename_i hf
     obtain rfl := List.mem_singleton.1 hp
     have hn := hR.none_before hs hr
     have h2 : v < r.val := by
      rcases hv.2 with h | ⟨h, _⟩
      ·exact h
      ·cases h
     unfold sBt
     rcases hv.1 with h1 | ⟨h1o, h1⟩
     ·exact S.mid _ _ _ h1 h2 hn
     ·have h1 : f.val = v := h1
      have h1o : o = false := h1o
      rw [← h1, btwS_left]
      intro e
      obtain ⟨x, hx, hxv⟩ := S.only _ e
      rcases hR.seen x hx with k | k | ⟨_, k⟩ | k | ⟨k, _⟩
      ·rcases List.mem_cons.1 k with rfl | k
       ·rw [hxv] at hf; exact lt_irrefl _ hf
       ·have := hs2.1 x k
        rw [hxv] at this; exact lt_irrefl _ (lt_trans hf this)
      ·rw [hxv] at k; exact lt_irrefl _ k
      ·rw [h1o] at k; cases k
      ·rw [hxv] at k; exact lt_irrefl _ (lt_of_lt_of_le (lt_trans k hf) (has_le hr).2)
      ·rw [hxv] at k; rw [k] at hf; exact lt_irrefl _ (lt_of_lt_of_le hf (has_le hr).2)
    ·cases hp
   ·rcases List.mem_cons.1 hp with rfl | hp
    ·have e : v = r.val := by
       rcases hv.1 with h1 | ⟨_, h1⟩
       ·rcases hv.2 with h2 | ⟨_, h2⟩
        ·exact absurd (lt_trans h1 h2) (lt_irrefl _)
        ·exact h2
       ·exact h1.symm
     rw [e]
     exact S.root r (hall r (List.mem_cons_self ..))
    ·exact sign_parts S inn rs r true (hR.take hr hfr) (fun x hx => hall x (List.mem_cons_of_mem _ hx)) (fun x hx _ => .inl (hs2.1 x hx)) hs2.2 p hp v hv
  ·rename_i hr
   exact sign_parts S inn rs f o (hR.skip hr) (fun x hx => hall x (List.mem_cons_of_mem _ hx)) (fun x hx => hlt x (List.mem_cons_of_mem _ hx)) hs2.2 p hp v hv
end Go.Proofs.YtlblfgbpogljoaaGreatDoor

end
section
/- No program in sight: the roots of a function with small coefficients have at most 8 bytes a fraction. -/
namespace Go.Proofs.YtlblfgbpogljoaaGreatDoor
open Go Go.RowKit Go.Sy
open Vi RR
abbrev Cof (a : Rat) : Prop := a.num.natAbs ≤ 32768 ∧ a.den ≤ 256
theorem small_any (n d : Int) (hd : d ≠ 0) : (Rat.divInt n d).num.natAbs ≤ n.natAbs ∧ (Rat.divInt n d).den ≤ d.natAbs := by
 rcases (by omega : 0 < d ∨ d < 0) with h | h
 ·have := divInt_small n d.toNat (by omega)
  rw [show ((d.toNat : Nat) : Int) = d by omega] at this
  omega
 ·have e : Rat.divInt n d = Rat.divInt (-n) (-d) := (Rat.divInt_eq_divInt_iff hd (by omega)).2 (by grind)
  have := divInt_small (-n) (-d).toNat (by omega)
  rw [show (((-d).toNat : Nat) : Int) = -d by omega] at this
  rw [e]
  omega
theorem as_divInt {x : Rat} {N D : Int} (hD : D ≠ 0) (h : x * (D : Rat) = (N : Rat)) : x = Rat.divInt N D := by
 rw [Rat.divInt_eq_div, ← h]
 have : (D : Rat) ≠ 0 := by exact_mod_cast hD
 exact (Rat.mul_div_cancel this).symm
theorem bnd {x : Rat} {N D : Int} {X Y : Nat} (hD : D ≠ 0) (h : x * (D : Rat) = (N : Rat)) (hN : N.natAbs ≤ X) (hY : D.natAbs ≤ Y) : x.num.natAbs ≤ X ∧ x.den ≤ Y := by
 have := small_any N D hD
 rw [← as_divInt hD h] at this
 omega
theorem ab {x y : Int} {X Y : Nat} (hx : x.natAbs ≤ X) (hy : y.natAbs ≤ Y) : (x * y).natAbs ≤ X * Y := by rw [Int.natAbs_mul]; exact Nat.mul_le_mul hx hy
theorem half_bnd {b c h : Rat} (hb : Cof b) (hc : Cof c) (h0 : c ≠ 0) (eh : h = b / (-2 * c)) : h.num.natAbs ≤ 8388608 ∧ h.den ≤ 16777216 := by
 have n1 := rat_mul_den b
 have n2 := rat_mul_den c
 have hcn : c.num ≠ 0 := fun e => h0 (Rat.num_eq_zero.1 e)
 have hbd := b.den_nz
 have e : h * (-2 * c) = b := by rw [eh]; exact Rat.div_mul_cancel (by intro e; rcases Rat.mul_eq_zero.1 e with h | h; exact absurd h (by decide +kernel); exact h0 h)
 refine bnd (N := b.num * (c.den : Int)) (D := -2 * ((b.den : Int) * c.num)) ?_ ?_ (ab hb.1 (by rw [Int.natAbs_natCast]; exact hc.2)) ?_
 ·have : (b.den : Int) * c.num ≠ 0 := Int.mul_ne_zero (by omega) hcn
  omega
 ·rw [Rat.intCast_mul, Rat.intCast_mul, Rat.intCast_mul, ← n1, ← n2]
  show h * ((-2 : Int) * ((b.den : Rat) * (c * (c.den : Rat)))) = b * (b.den : Rat) * (c.den : Rat)
  rw [show (((-2 : Int)) : Rat) = -2 from rfl]
  generalize (b.den : Rat) = x at *
  generalize (c.den : Rat) = y at *
  rw [← e]
  grind
 ·exact ab (X := 2) (by decide) (ab (X := 256) (Y := 32768) (by rw [Int.natAbs_natCast]; exact hb.2) hc.1)
theorem disc_bnd {a b c h d : Rat} (ha : Cof a) (hb : Cof b) (hc : Cof c) (h0 : c ≠ 0) (eh : h = b / (-2 * c)) (ed : d = h * h - a / c) : d.num.natAbs ≤ 144115188075855872 ∧ d.den ≤ 72057594037927936 := by
 have n1 := rat_mul_den b
 have n2 := rat_mul_den c
 have n3 := rat_mul_den a
 have hcn : c.num ≠ 0 := fun e => h0 (Rat.num_eq_zero.1 e)
 have hbd := b.den_nz
 have had := a.den_nz
 have e : h * (-2 * c) = b := by rw [eh]; exact Rat.div_mul_cancel (by intro e; rcases Rat.mul_eq_zero.1 e with h | h; exact absurd h (by decide +kernel); exact h0 h)
 obtain ⟨g, hg⟩ : ∃ g, g = a / c := ⟨_, rfl⟩
 have eg : g * c = a := by rw [hg]; exact Rat.div_mul_cancel h0
 rw [← hg] at ed
 have hbb : (b.num * (c.den : Int)).natAbs ≤ 8388608 := ab (X := 32768) (Y := 256) hb.1 (by rw [Int.natAbs_natCast]; exact hc.2)
 have hbc : ((b.den : Int) * c.num).natAbs ≤ 8388608 := ab (X := 256) (Y := 32768) (by rw [Int.natAbs_natCast]; exact hb.2) hc.1
 refine bnd (N := b.num * (c.den : Int) * (b.num * (c.den : Int)) * (a.den : Int) - 4 * (a.num * (c.den : Int) * ((b.den : Int) * ((b.den : Int) * c.num)))) (D := 4 * ((b.den : Int) * c.num * ((b.den : Int) * c.num) * (a.den : Int))) ?_ ?_ ?_ ?_
 ·have h1 : (b.den : Int) * c.num ≠ 0 := Int.mul_ne_zero (by omega) hcn
  have h2 := Int.mul_ne_zero (Int.mul_ne_zero h1 h1) (show (a.den : Int) ≠ 0 by omega)
  omega
 ·rw [Rat.intCast_sub]
  simp only [Rat.intCast_mul]
  rw [← n1, ← n2, ← n3]
  show d * (((4 : Int) : Rat) * ((b.den : Rat) * (c * (c.den : Rat)) * ((b.den : Rat) * (c * (c.den : Rat))) * (a.den : Rat))) = b * (b.den : Rat) * (c.den : Rat) * (b * (b.den : Rat) * (c.den : Rat)) * (a.den : Rat) - ((4 : Int) : Rat) * (a * (a.den : Rat) * (c.den : Rat) * ((b.den : Rat) * ((b.den : Rat) * (c * (c.den : Rat)))))
  rw [show (((4 : Int)) : Rat) = 4 from rfl]
  generalize (b.den : Rat) = x at *
  generalize (c.den : Rat) = y at *
  generalize (a.den : Rat) = z at *
  rw [ed, ← e, ← eg]
  grind
 ·have h1 := ab (ab hbb hbb) (show (a.den : Int).natAbs ≤ 256 by rw [Int.natAbs_natCast]; exact ha.2)
  have h2 := ab (ab (X := 32768) (Y := 256) ha.1 (show (c.den : Int).natAbs ≤ 256 by rw [Int.natAbs_natCast]; exact hc.2)) (ab (X := 256) (show (b.den : Int).natAbs ≤ 256 by rw [Int.natAbs_natCast]; exact hb.2) hbc)
  generalize b.num * (c.den : Int) * (b.num * (c.den : Int)) * (a.den : Int) = u at *
  generalize a.num * (c.den : Int) * ((b.den : Int) * ((b.den : Int) * c.num)) = v at *
  omega
 ·have h1 := ab (ab hbc hbc) (show (a.den : Int).natAbs ≤ 256 by rw [Int.natAbs_natCast]; exact ha.2)
  generalize (b.den : Int) * c.num * ((b.den : Int) * c.num) * (a.den : Int) = u at *
  omega
theorem sqr_parts (w : Rat) : (w * w).num.natAbs = w.num.natAbs * w.num.natAbs ∧ (w * w).den = w.den * w.den := by
 have hc : Nat.Coprime (w.num * w.num).natAbs (w.den * w.den) := by
  rw [Int.natAbs_mul]
  exact Nat.Coprime.mul_left (Nat.Coprime.mul_right w.reduced w.reduced) (Nat.Coprime.mul_right w.reduced w.reduced)
 have e : w * w = ⟨w.num * w.num, w.den * w.den, Nat.mul_ne_zero w.den_nz w.den_nz, hc⟩ := by
  rw [Rat.mul_def, ← Rat.mk_eq_normalize]
 rw [e]; exact ⟨Int.natAbs_mul .., rfl⟩
theorem lt_of_sq {x y : Nat} (h : x * x < y * y) : x < y := Nat.lt_of_not_le fun g => Nat.not_le.2 h (Nat.mul_le_mul g g)
theorem sz8 {x : Rat} {X Y : Nat} (h : x.num.natAbs ≤ X ∧ x.den ≤ Y) (hX : X < 18446744073709551616 := by decide) (hY : Y < 18446744073709551616 := by decide) : HasSz x 8 := by
 have e : (256 : Nat) ^ 8 = 18446744073709551616 := by decide
 exact ⟨by rw [e]; omega, by rw [e]; omega⟩
theorem add_bnd {h w : Rat} (h1 : h.num.natAbs ≤ 8388608 ∧ h.den ≤ 16777216) (w1 : w.num.natAbs < 536870912 ∧ w.den < 536870912) : HasSz (h + w) 8 := by
 have n1 := rat_mul_den h
 have n2 := rat_mul_den w
 have d1 := h.den_nz
 have d2 := w.den_nz
 refine sz8 (bnd (N := h.num * (w.den : Int) + w.num * (h.den : Int)) (D := (h.den : Int) * (w.den : Int)) (X := 8388608 * 536870912 + 536870912 * 16777216) (Y := 16777216 * 536870912) (Int.mul_ne_zero (by omega) (by omega)) ?_ ?_ ?_)
 ·rw [Rat.intCast_add, Rat.intCast_mul, Rat.intCast_mul, Rat.intCast_mul, ← n1, ← n2]
  show (h + w) * ((h.den : Rat) * (w.den : Rat)) = h * (h.den : Rat) * (w.den : Rat) + w * (w.den : Rat) * (h.den : Rat)
  grind
 ·have h2 := ab (x := h.num) (y := (w.den : Int)) (X := 8388608) (Y := 536870912) h1.1 (by rw [Int.natAbs_natCast]; omega)
  have h3 := ab (x := w.num) (y := (h.den : Int)) (X := 536870912) (Y := 16777216) (by omega) (by rw [Int.natAbs_natCast]; omega)
  generalize h.num * (w.den : Int) = u at *
  generalize w.num * (h.den : Int) = v at *
  omega
 ·exact ab (x := (h.den : Int)) (y := (w.den : Int)) (by rw [Int.natAbs_natCast]; omega) (by rw [Int.natAbs_natCast]; omega)
theorem mk_sizes {h d : Rat} (h1 : h.num.natAbs ≤ 8388608 ∧ h.den ≤ 16777216) (d1 : d.num.natAbs ≤ 144115188075855872 ∧ d.den ≤ 72057594037927936) (s : Rat) (hs : s = 1 ∨ s = -1) : HasSz (mkR h s d).p 8 ∧ HasSz (mkR h s d).r 8 := by
 by_cases hw : ∃ w : Rat, 0 ≤ w ∧ w * w = d
 ·obtain ⟨w, w0, rfl⟩ := hw
  rw [mkR_sq _ _ _ w w0 rfl]
  obtain ⟨p1, p2⟩ := sqr_parts w
  rw [p1, p2] at d1
  have w1 : w.num.natAbs < 536870912 := lt_of_sq (by omega)
  have w2 : w.den < 536870912 := lt_of_sq (by omega)
  refine ⟨?_, hs_mono hz0 (by omega)⟩
  rcases hs with rfl | rfl
  ·show HasSz (h + 1 * w) 8
   rw [Rat.one_mul]; exact add_bnd h1 ⟨w1, w2⟩
  ·show HasSz (h + -1 * w) 8
   rw [show -1 * w = -w by grind]
   exact add_bnd h1 ⟨by rw [Rat.neg_num, Int.natAbs_neg]; exact w1, by rw [Rat.neg_den]; exact w2⟩
 ·unfold mkR
  rw [dif_neg hw]
  refine ⟨sz8 h1, ?_⟩
  show HasSz (s * s * d) 8
  rw [show s * s * d = d by rcases hs with rfl | rfl <;> grind]
  exact sz8 d1
theorem IsRoots.sizes {a b c : Rat} {l : List Rl} (h : IsRoots a b c l) (ha : Cof a) (hb : Cof b) (hc : Cof c) : ∀ x ∈ l, HasSz x.p 8 ∧ HasSz x.r 8 := by
 cases h with
 | const h => intro x hx; cases hx
 | lin h =>
  intro x hx
  rw [List.mem_singleton.1 hx]
  refine ⟨?_, hs_mono hz0 (by omega)⟩
  show HasSz (-(a / b)) 8
  haveI : HasSz a 2 := ⟨by have := ha.1; have e : (256 : Nat) ^ 2 = 65536 := by decide
                           omega, by have := ha.2; have e : (256 : Nat) ^ 2 = 65536 := by decide
                                     omega⟩
  haveI : HasSz b 2 := ⟨by have := hb.1; have e : (256 : Nat) ^ 2 = 65536 := by decide
                           omega, by have := hb.2; have e : (256 : Nat) ^ 2 = 65536 := by decide
                                     omega⟩
  haveI := hs_div a b 2 2 h
  exact hs_mono (⟨this.sz.neg⟩ : HasSz (-(a / b)) 4) (by omega)
 | no hc0 eh ed hd => intro x hx; cases hx
 | one hc0 eh ed hd =>
  intro x hx
  rw [List.mem_singleton.1 hx]
  exact ⟨sz8 (half_bnd hb hc hc0 eh), hs_mono hz0 (by omega)⟩
 | two hc0 eh ed hd =>
  intro x hx
  have h1 := half_bnd hb hc hc0 eh
  have d1 := disc_bnd ha hb hc hc0 eh ed
  simp only [List.mem_cons, List.not_mem_nil, or_false] at hx
  rcases hx with rfl | rfl
  ·exact mk_sizes h1 d1 _ (.inr rfl)
  ·exact mk_sizes h1 d1 _ (.inl rfl)
end Go.Proofs.YtlblfgbpogljoaaGreatDoor

end
section
/- Equality of structs, field by field; of bounds. -/
namespace Go.Sy
open Go Go.RowKit
section
variable {P : Program}
end
end Go.Sy
namespace Go.Proofs.YtlblfgbpogljoaaGreatDoor
open Go Go.RowKit Go.Sy
open Vi
theorem binS' {T : TypeId} {xs ys : Array Value} {q : Bool} (h : ∀ w, (Op.equalIn 10000 T (.agg xs) (.agg ys)).run Tryz.prog w = .ok q w) (hg : Tryz.prog.eqGuardType Tryz.prog.depth T = false) : Bin .neq T (.agg xs) (.agg ys) (.bool (!q)) := fun ox oy w => by
 rw [Sem.run_bind, run_eqGuard_agg _ _ _ _ _ _ _ hg, Result.andThen_ok, run_neq_struct, h]
 rfl
end Go.Proofs.YtlblfgbpogljoaaGreatDoor
namespace Go.Proofs.YtlblfgbpogljoaaGreatDoor
open Go Go.RowKit Go.Sy
open Vi
end Go.Proofs.YtlblfgbpogljoaaGreatDoor
namespace Go.Proofs.YtlblfgbpogljoaaGreatDoor
open Go Go.RowKit Go.Sy
open Vi
end Go.Proofs.YtlblfgbpogljoaaGreatDoor
namespace Go.Proofs.YtlblfgbpogljoaaGreatDoor
open Go Go.RowKit Go.Sy
open Vi
end Go.Proofs.YtlblfgbpogljoaaGreatDoor
namespace Go.Proofs.YtlblfgbpogljoaaGreatDoor
open Go Go.RowKit Go.Sy
open Vi
end Go.Proofs.YtlblfgbpogljoaaGreatDoor
namespace Go.Proofs.YtlblfgbpogljoaaGreatDoor
open Go Go.RowKit Go.Sy
open Vi
end Go.Proofs.YtlblfgbpogljoaaGreatDoor
namespace Go.Proofs.YtlblfgbpogljoaaGreatDoor
open Go Go.RowKit Go.Sy
open Vi
end Go.Proofs.YtlblfgbpogljoaaGreatDoor
namespace Go.Proofs.YtlblfgbpogljoaaGreatDoor
open Go Go.RowKit Go.Sy
open Vi
end Go.Proofs.YtlblfgbpogljoaaGreatDoor
namespace Go.Proofs.YtlblfgbpogljoaaGreatDoor
open Go Go.RowKit Go.Sy
open Vi
end Go.Proofs.YtlblfgbpogljoaaGreatDoor

end
section
/- The program's Check of fractions. -/
namespace Go.Proofs.YtlblfgbpogljoaaGreatDoor
open Go Go.RowKit Go.Sy
open Vi
end Go.Proofs.YtlblfgbpogljoaaGreatDoor
namespace Go.Proofs.YtlblfgbpogljoaaGreatDoor
open Go Go.RowKit Go.Sy
open Vi
end Go.Proofs.YtlblfgbpogljoaaGreatDoor
namespace Go.Proofs.YtlblfgbpogljoaaGreatDoor
open Go Go.RowKit Go.Sy
open Vi
def qZ : Value := .agg #[.bool false, .string ⟨#[]⟩, .bool false, .string ⟨#[]⟩, .bool false, .string ⟨#[]⟩, .bool false, .string ⟨#[]⟩, .bool false, .string ⟨#[]⟩, .bool false, .string ⟨#[]⟩]
theorem qV0 : qV 0 0 0 = qZ := by
 unfold qV qZ
 rw [show (0 : Rat).num = 0 from rfl, show dn 0 = 0 from rfl, sg0, mg0]
end Go.Proofs.YtlblfgbpogljoaaGreatDoor
namespace Go.Proofs.YtlblfgbpogljoaaGreatDoor
open Go Go.RowKit Go.Sy
open Vi
theorem rlC_rat (q : Rat) : rlC (Rl.rat q) = [.bool (sg q.num), .string (mg q.num), .bool (sg (dn q)), .string (mg (dn q)), .bool false, .string ⟨#[]⟩, .bool false, .string ⟨#[]⟩, .bool false] := by
 unfold rlC Rl.rat
 rw [show (0 : Rat).num = 0 from rfl, show dn 0 = 0 from rfl, sg0, mg0]
theorem qRoots0 : Sp Tryz.prog 108 [] [qZ] (.tuple #[.slice none 0 0, nV 6]) [] := by
 have B := binR0 0 (b := true) (by simp)
 rw [rV0] at B
 exact walk (code := Tryz.f108.body.getD .skip) [x2 B, x2 B, x2 B] fol Tryz.func108 (by kernel_rfl) (fun xs w => Tryz.call108 xs w) (by kernel_rfl)
end Go.Proofs.YtlblfgbpogljoaaGreatDoor
namespace Go.Proofs.YtlblfgbpogljoaaGreatDoor
open Go Go.RowKit Go.Sy
open Vi
end Go.Proofs.YtlblfgbpogljoaaGreatDoor
namespace Go.Proofs.YtlblfgbpogljoaaGreatDoor
open Go Go.RowKit Go.Sy
open Vi
end Go.Proofs.YtlblfgbpogljoaaGreatDoor
namespace Go.Proofs.YtlblfgbpogljoaaGreatDoor
open Go Go.RowKit Go.Sy
open Vi
end Go.Proofs.YtlblfgbpogljoaaGreatDoor

end
section
/- Reference 04: numbers with a root, functions and their values. -/
namespace Go.Proofs.YtlblfgbpogljoaaGreatDoor
open Go Go.RowKit Go.Sy
open Vi
theorem vDegree (a b c : Rat) : Sp Tryz.prog 40 [] [qV a b c] (nV (dgQ a b c)) [] := by
 unfold dgQ
 have S1 := rSgn c
 have S2 := rSgn b
 have S3 := rSgn a
 have e1 := sgQ_ne0 c
 have e2 := sgQ_ne0 b
 have e3 := sgQ_ne0 a
 generalize sgQ c = z1 at *
 generalize sgQ b = z2 at *
 generalize sgQ a = z3 at *
 by_cases h1 : c = 0
 ·rw [decide_eq_false (by simp [h1])] at e1
  rw [if_neg (by simp [h1])]
  by_cases h2 : b = 0
  ·rw [decide_eq_false (by simp [h2])] at e2
   rw [if_neg (by simp [h2])]
   by_cases h3 : a = 0
   ·rw [decide_eq_false (by simp [h3])] at e3
    rw [if_neg (by simp [h3])]
    clear h1 h2 h3
    exact walk (code := Tryz.f40.body.getD .skip) [Sy.c S1, eb e1, Sy.c S2, eb e2, Sy.c S3, eb e3] fol Tryz.func40 (by kernel_rfl) (fun xs w => Tryz.call40 xs w) (by kernel_rfl)
   ·rw [decide_eq_true h3] at e3
    rw [if_pos h3]
    clear h1 h2 h3
    exact walk (code := Tryz.f40.body.getD .skip) [Sy.c S1, eb e1, Sy.c S2, eb e2, Sy.c S3, eb e3] fol Tryz.func40 (by kernel_rfl) (fun xs w => Tryz.call40 xs w) (by kernel_rfl)
  ·rw [decide_eq_true h2] at e2
   rw [if_pos h2]
   clear h1 h2
   exact walk (code := Tryz.f40.body.getD .skip) [Sy.c S1, eb e1, Sy.c S2, eb e2] fol Tryz.func40 (by kernel_rfl) (fun xs w => Tryz.call40 xs w) (by kernel_rfl)
 ·rw [decide_eq_true h1] at e1
  rw [if_pos h1]
  clear h1
  exact walk (code := Tryz.f40.body.getD .skip) [Sy.c S1, eb e1] fol Tryz.func40 (by kernel_rfl) (fun xs w => Tryz.call40 xs w) (by kernel_rfl)
end Go.Proofs.YtlblfgbpogljoaaGreatDoor

end
section
/- Reference 04: intervals, roots. -/
namespace Go.Proofs.YtlblfgbpogljoaaGreatDoor
open Go Go.RowKit Go.Sy
open Vi
theorem vContains (F T t : Rl) (oF oT : Bool) {i j k l m n : Nat} [HasSz F.p i] [HasSz F.r j] [HasSz T.p k] [HasSz T.r l] [HasSz t.p m] [HasSz t.r n] (hF : 0 ≤ F.r) (hT : 0 ≤ T.r) (ht : 0 ≤ t.r) (hs : i + j + k + l + m + n ≤ 900 := by first | omega | decide) :
    Sp Tryz.prog 47 [] [ivV F T oF oT, rlV t] (.bool (inC (Rl.cmp F t) (Rl.cmp t T) oF oT)) [] := by
 have A := vCompare F t hF ht
 have B := vCompare t T ht hT
 obtain ⟨a1, a2⟩ : -1 ≤ Rl.cmp F t ∧ Rl.cmp F t ≤ 1 := sgR_in _
 obtain ⟨b1, b2⟩ : -1 ≤ Rl.cmp t T ∧ Rl.cmp t T ≤ 1 := sgR_in _
 generalize Rl.cmp F t = a at *
 generalize Rl.cmp t T = b at *
 clear hs hF hT ht
 obtain ⟨Fp, Fr, Fn⟩ := F
 obtain ⟨Tp, Tr, Tn⟩ := T
 obtain ⟨tp, tr, tn⟩ := t
 dsimp only at *
 rcases (by omega : a = -1 ∨ a = 0 ∨ a = 1) with rfl | rfl | rfl
 ·rcases (by omega : b = -1 ∨ b = 0 ∨ b = 1) with rfl | rfl | rfl
  ·clear a1 a2 b1 b2
   exact walk (code := Tryz.f47.body.getD .skip) [c A, c B] fol Tryz.func47 (by kernel_rfl) (fun xs w => Tryz.call47 xs w) (by kernel_rfl)
  ·clear a1 a2 b1 b2
   cases oT
   ·exact walk (code := Tryz.f47.body.getD .skip) [c A, c B] fol Tryz.func47 (by kernel_rfl) (fun xs w => Tryz.call47 xs w) (by kernel_rfl)
   ·exact walk (code := Tryz.f47.body.getD .skip) [c A, c B] fol Tryz.func47 (by kernel_rfl) (fun xs w => Tryz.call47 xs w) (by kernel_rfl)
  ·clear a1 a2 b1 b2
   exact walk (code := Tryz.f47.body.getD .skip) [c A, c B] fol Tryz.func47 (by kernel_rfl) (fun xs w => Tryz.call47 xs w) (by kernel_rfl)
 ·cases oF
  ·rcases (by omega : b = -1 ∨ b = 0 ∨ b = 1) with rfl | rfl | rfl
   ·clear a1 a2 b1 b2
    exact walk (code := Tryz.f47.body.getD .skip) [c A, c B] fol Tryz.func47 (by kernel_rfl) (fun xs w => Tryz.call47 xs w) (by kernel_rfl)
   ·clear a1 a2 b1 b2
    cases oT
    ·exact walk (code := Tryz.f47.body.getD .skip) [c A, c B] fol Tryz.func47 (by kernel_rfl) (fun xs w => Tryz.call47 xs w) (by kernel_rfl)
    ·exact walk (code := Tryz.f47.body.getD .skip) [c A, c B] fol Tryz.func47 (by kernel_rfl) (fun xs w => Tryz.call47 xs w) (by kernel_rfl)
   ·clear a1 a2 b1 b2
    exact walk (code := Tryz.f47.body.getD .skip) [c A, c B] fol Tryz.func47 (by kernel_rfl) (fun xs w => Tryz.call47 xs w) (by kernel_rfl)
  ·rcases (by omega : b = -1 ∨ b = 0 ∨ b = 1) with rfl | rfl | rfl
   ·clear a1 a2 b1 b2
    exact walk (code := Tryz.f47.body.getD .skip) [c A, c B] fol Tryz.func47 (by kernel_rfl) (fun xs w => Tryz.call47 xs w) (by kernel_rfl)
   ·clear a1 a2 b1 b2
    cases oT
    ·exact walk (code := Tryz.f47.body.getD .skip) [c A, c B] fol Tryz.func47 (by kernel_rfl) (fun xs w => Tryz.call47 xs w) (by kernel_rfl)
    ·exact walk (code := Tryz.f47.body.getD .skip) [c A, c B] fol Tryz.func47 (by kernel_rfl) (fun xs w => Tryz.call47 xs w) (by kernel_rfl)
   ·clear a1 a2 b1 b2
    exact walk (code := Tryz.f47.body.getD .skip) [c A, c B] fol Tryz.func47 (by kernel_rfl) (fun xs w => Tryz.call47 xs w) (by kernel_rfl)
 ·rcases (by omega : b = -1 ∨ b = 0 ∨ b = 1) with rfl | rfl | rfl
  ·clear a1 a2 b1 b2
   exact walk (code := Tryz.f47.body.getD .skip) [c A, c B] fol Tryz.func47 (by kernel_rfl) (fun xs w => Tryz.call47 xs w) (by kernel_rfl)
  ·clear a1 a2 b1 b2
   cases oT
   ·exact walk (code := Tryz.f47.body.getD .skip) [c A, c B] fol Tryz.func47 (by kernel_rfl) (fun xs w => Tryz.call47 xs w) (by kernel_rfl)
   ·exact walk (code := Tryz.f47.body.getD .skip) [c A, c B] fol Tryz.func47 (by kernel_rfl) (fun xs w => Tryz.call47 xs w) (by kernel_rfl)
  ·clear a1 a2 b1 b2
   exact walk (code := Tryz.f47.body.getD .skip) [c A, c B] fol Tryz.func47 (by kernel_rfl) (fun xs w => Tryz.call47 xs w) (by kernel_rfl)
end Go.Proofs.YtlblfgbpogljoaaGreatDoor

end
section
/- Reference 04: what is valid; an interval's fault. -/
namespace Go.Proofs.YtlblfgbpogljoaaGreatDoor
open Go Go.RowKit Go.Sy
open Vi
theorem vValid (x : Rl) (hx : x.Ok) (h1 : Fits x.p) (h2 : Fits x.r) : Sp Tryz.prog 112 [] [rlV x] (.bool true) [] := by
 have A := rCheckQ x.p h1
 have B := rCheckQ x.r h2
 have S := rSgn x.r
 rcases hx with ⟨r0, n0⟩ | ⟨rp, irr⟩
 ·obtain ⟨p, r, neg⟩ := x
  dsimp only at *
  subst r0 n0
  rw [show sgQ 0 = 0 from rfl] at S
  clear h1 h2
  generalize (0 : Rat) = z at *
  exact walk (code := Tryz.f112.body.getD .skip) [c A, c B, c S, c S] fol Tryz.func112 (by kernel_rfl) (fun xs w => Tryz.call112 xs w) (by kernel_rfl)
 ·rw [show sgQ x.r = 1 by unfold sgQ; rw [if_neg (by grind), if_neg (by grind)]] at S
  rcases rRoot x.r h2 with ⟨w, _, hw, R⟩ | ⟨_, R⟩
  ·exact absurd hw (irr w)
  ·obtain ⟨p, r, neg⟩ := x
   dsimp only at *
   clear h1 h2 rp irr
   exact walk (code := Tryz.f112.body.getD .skip) [c A, c B, c S, c S, c R] fol Tryz.func112 (by kernel_rfl) (fun xs w => Tryz.call112 xs w) (by kernel_rfl)
theorem vFault (F T : Rl) (oF oT : Bool) {i j k l : Nat} [HasSz F.p i] [HasSz F.r j] [HasSz T.p k] [HasSz T.r l] (hF : F.Ok) (hT : T.Ok) (hs : i + j + k + l ≤ 900 := by first | omega | decide) :
    Sp Tryz.prog 45 [] [ivV F T oF oT] (nV (faC (Rl.cmp F T) oF oT)) [] := by
 have K1 := vValid F hF fz fz
 have K2 := vValid T hT fz fz
 have A := vCompare F T hF.nonneg hT.nonneg
 obtain ⟨a1, a2⟩ : -1 ≤ Rl.cmp F T ∧ Rl.cmp F T ≤ 1 := sgR_in _
 generalize Rl.cmp F T = a at *
 clear hs hF hT
 obtain ⟨Fp, Fr, Fn⟩ := F
 obtain ⟨Tp, Tr, Tn⟩ := T
 dsimp only at *
 rcases (by omega : a = -1 ∨ a = 0 ∨ a = 1) with rfl | rfl | rfl
 ·clear a1 a2
  exact walk (code := Tryz.f45.body.getD .skip) [c K1, c K2, c A] fol Tryz.func45 (by kernel_rfl) (fun xs w => Tryz.call45 xs w) (by kernel_rfl)
 ·clear a1 a2
  cases oF
  ·cases oT
   ·exact walk (code := Tryz.f45.body.getD .skip) [c K1, c K2, c A] fol Tryz.func45 (by kernel_rfl) (fun xs w => Tryz.call45 xs w) (by kernel_rfl)
   ·exact walk (code := Tryz.f45.body.getD .skip) [c K1, c K2, c A] fol Tryz.func45 (by kernel_rfl) (fun xs w => Tryz.call45 xs w) (by kernel_rfl)
  ·exact walk (code := Tryz.f45.body.getD .skip) [c K1, c K2, c A] fol Tryz.func45 (by kernel_rfl) (fun xs w => Tryz.call45 xs w) (by kernel_rfl)
 ·clear a1 a2
  exact walk (code := Tryz.f45.body.getD .skip) [c K1, c K2, c A] fol Tryz.func45 (by kernel_rfl) (fun xs w => Tryz.call45 xs w) (by kernel_rfl)
end Go.Proofs.YtlblfgbpogljoaaGreatDoor

end
section
/- No program in sight: the parts' shapes; parts joined. -/
namespace Go.Proofs.YtlblfgbpogljoaaGreatDoor
open Go Go.RowKit Go.Sy
open Vi RR
theorem parts_good (inn : Iv) (s : Rl → Rl → Int) (hT : Gd inn.T) : ∀ (rs : List Rl) (f : Rl) (o : Bool), Gd f → (∀ r ∈ rs, Gd r) → ∀ p ∈ parts inn s rs f o, Gd p.1.F ∧ Gd p.1.T
 | [], f, o, hf, _, p, hp => by
  unfold parts at hp
  split at hp
  ·obtain rfl := List.mem_singleton.1 hp
   exact ⟨hf, hT⟩
  ·cases hp
 | r :: rs, f, o, hf, hr, p, hp => by
  have h1 := hr r (List.mem_cons_self ..)
  have h2 : ∀ x ∈ rs, Gd x := fun x hx => hr x (List.mem_cons_of_mem _ hx)
  unfold parts at hp
  split at hp
  ·rcases List.mem_append.1 hp with hp | hp
   ·split at hp
    ·obtain rfl := List.mem_singleton.1 hp
     exact ⟨hf, h1⟩
    ·cases hp
   ·rcases List.mem_cons.1 hp with rfl | hp
    ·exact ⟨h1, h1⟩
    ·exact parts_good inn s hT rs r true h1 h2 p hp
  ·exact parts_good inn s hT rs f o hf h2 p hp
theorem parts_len {a b c : Rat} {l : List Rl} (hl : IsRoots a b c l) (inn : Iv) (hi : inn.full) : 1 ≤ (parts inn (sBt (qval a b c) (sgQ c)) l inn.F inn.oF).length ∧ (parts inn (sBt (qval a b c) (sgQ c)) l inn.F inn.oF).length ≤ 5 := by
 refine parts_cases hl inn hi (Φ := fun L => 1 ≤ L.length ∧ L.length ≤ 5) ?_ ?_ ?_ ?_ ?_ ?_ ?_ ?_ ?_ <;> intros <;> simp
end Go.Proofs.YtlblfgbpogljoaaGreatDoor

end
section
/- The package quadratic: roots, parts of an interval. -/
namespace Go.Proofs.YtlblfgbpogljoaaGreatDoor
open Go Go.RowKit Go.Sy
open Vi
theorem uRoots0 : Sp Tryz.prog 39 [] [qZ] (.tuple #[.slice none 0 0, nV 6]) [] := by
 have R := qRoots0
 exact walk (code := Tryz.f39.body.getD .skip) [c R] fol Tryz.func39 (by kernel_rfl) (fun xs w => Tryz.call39 xs w) (by kernel_rfl)
theorem isRoots_ex (a b c : Rat) : (a = 0 ∧ b = 0 ∧ c = 0) ∨ ∃ l, IsRoots a b c l := by
 by_cases hc : c = 0
 ·subst hc
  by_cases hb : b = 0
  ·subst hb
   by_cases ha : a = 0
   ·exact .inl ⟨ha, rfl, rfl⟩
   ·exact .inr ⟨_, .const ha⟩
  ·exact .inr ⟨_, .lin hb⟩
 ·refine .inr ?_
  rcases (by grind : (b / (-2 * c)) * (b / (-2 * c)) - a / c < 0 ∨ (b / (-2 * c)) * (b / (-2 * c)) - a / c = 0 ∨ 0 < (b / (-2 * c)) * (b / (-2 * c)) - a / c) with h | h | h
  ·exact ⟨_, .no hc rfl rfl h⟩
  ·exact ⟨_, .one hc rfl rfl h⟩
  ·exact ⟨_, .two hc rfl rfl h⟩
end Go.Proofs.YtlblfgbpogljoaaGreatDoor

end
section
/- Reference 04: the sign between two instants; roots. -/
namespace Go.Proofs.YtlblfgbpogljoaaGreatDoor
open Go Go.RowKit Go.Sy
open Vi
theorem vbetween (a b c : Rat) (A B : Rl) {i j k l m n o : Nat} [HasSz a i] [HasSz b j] [HasSz c k] [HasSz A.p l] [HasSz A.r m] [HasSz B.p n] [HasSz B.r o] (hA : A.Ok) (hB : B.Ok) (hs : i + j + k + l + m + n + o ≤ 300 := by first | omega | decide) :
    Sp Tryz.prog 113 [] [qV a b c, rlV A, rlV B] (nV (sBt (qval a b c) (sgQ c) A B)) [] := by
 have SA := vSignAt a b c A hA
 have SB := vSignAt a b c B hB
 rw [atQ_val hA] at SA
 rw [atQ_val hB] at SB
 have SC := rSgn c
 obtain ⟨c1, c2⟩ := sgQ_in c
 unfold sBt btwS
 obtain ⟨w, hw⟩ : ∃ w, w = 0 - sgQ c := ⟨_, rfl⟩
 have w1 : IntKind.i64.wrap (0 - sgQ c) = w := by rw [hw]; exact w64 (by omega) (by omega)
 rw [← hw]
 generalize sgQ c = sc at *
 generalize sgR (qval a b c A.val) = sA at *
 generalize sgR (qval a b c B.val) = sB at *
 clear hs hA hB c1 c2 hw
 obtain ⟨Ap, Ar, An⟩ := A
 obtain ⟨Bp, Br, Bn⟩ := B
 dsimp only at *
 by_cases h1 : sA = 0
 ·rw [if_neg (by simp [h1])]
  have e1 : (sA != 0) = false := by simp [h1]
  by_cases h2 : sB = 0
  ·rw [if_neg (by simp [h2])]
   have e2 : (sB != 0) = false := by simp [h2]
   clear h1 h2
   exact walk (code := Tryz.f113.body.getD .skip) [Sy.c SA, eb e1, Sy.c SB, eb e2, Sy.c SC, Go.Sy.e (congrArg (Value.int IntKind.i64) w1)] fol Tryz.func113 (by kernel_rfl) (fun xs w => Tryz.call113 xs w) (by kernel_rfl)
  ·rw [if_pos h2]
   have e2 : (sB != 0) = true := by simp [h2]
   clear h1 h2 w1
   exact walk (code := Tryz.f113.body.getD .skip) [Sy.c SA, eb e1, Sy.c SB, eb e2] fol Tryz.func113 (by kernel_rfl) (fun xs w => Tryz.call113 xs w) (by kernel_rfl)
 ·rw [if_pos h1]
  have e1 : (sA != 0) = true := by simp [h1]
  clear h1 w1
  exact walk (code := Tryz.f113.body.getD .skip) [Sy.c SA, eb e1] fol Tryz.func113 (by kernel_rfl) (fun xs w => Tryz.call113 xs w) (by kernel_rfl)
def RRootsSp (a b c : Rat) : List Rl → Prop
 | [] => Sp Tryz.prog 41 [] [qV a b c] (.slice none 0 0) []
 | l => Sp Tryz.prog 41 [] [qV a b c] (row 0 l.length) [(l.length, rlsC l)]
theorem vRootsC (a : Rat) (h : a ≠ 0) : Sp Tryz.prog 41 [] [qV a 0 0] (.slice none 0 0) [] := by
 have D := vDegree a 0 0
 rw [show dgQ a 0 0 = 0 by unfold dgQ; simp [h]] at D
 clear h
 exact walk (code := Tryz.f41.body.getD .skip) [c D] fol Tryz.func41 (by kernel_rfl) (fun xs w => Tryz.call41 xs w) (by kernel_rfl)
theorem vRootsL (a b : Rat) (hb : b ≠ 0) {i j : Nat} [HasSz a i] [HasSz b j] (hs : i + j ≤ 300 := by first | omega | decide) : Sp Tryz.prog 41 [] [qV a b 0] (row 0 1) [(1, rlsC [Rl.rat (-(a / b))])] := by
 have D := vDegree a b 0
 rw [show dgQ a b 0 = 1 by unfold dgQ; simp [hb]] at D
 have Q := rDiv a b hb fz fz
 have N := rNeg (a / b)
 unfold rlsC rlsC
 rw [rlC_rat]
 clear hb hs
 generalize -(a / b) = t at *
 generalize a / b = u at *
 generalize (0 : Rat) = z at *
 exact walk (code := Tryz.f41.body.getD .skip) [c D, c Q, c N] fol Tryz.func41 (by kernel_rfl) (fun xs w => Tryz.call41 xs w) (by kernel_rfl)
theorem half2 {b c : Rat} (hc : c ≠ 0) : -(b / (2 * c)) = b / (-2 * c) := by
 have h2 : (2 : Rat) * c ≠ 0 := fun e => by rcases Rat.mul_eq_zero.1 e with h | h; exact absurd h (by decide +kernel); exact hc h
 obtain ⟨t, ht⟩ : ∃ t, t = b / (2 * c) := ⟨_, rfl⟩
 have e : b = t * (2 * c) := by rw [ht]; exact (Rat.div_mul_cancel h2).symm
 obtain ⟨u, hu⟩ : ∃ u, u = b / (-2 * c) := ⟨_, rfl⟩
 have e2 : b = u * (-2 * c) := by rw [hu]; exact (Rat.div_mul_cancel (m2_ne hc)).symm
 rw [← ht, ← hu]
 have e3 : (t + u) * c = 0 := by grind
 rcases Rat.mul_eq_zero.1 e3 with h | h
 ·grind
 ·exact absurd h hc
theorem vRootsQ (a b c h d : Rat) (hc : c ≠ 0) (eh : h = b / (-2 * c)) (ed : d = h * h - a / c) {i j k : Nat} [HasSz a i] [HasSz b j] [HasSz c k] (hs : i + j + k ≤ 300 := by first | omega | decide) :
    (d < 0 → Sp Tryz.prog 41 [] [qV a b c] (.slice none 0 0) []) ∧
    (d = 0 → Sp Tryz.prog 41 [] [qV a b c] (row 0 1) [(1, rlsC [Rl.rat h])]) ∧
    (0 < d → Sp Tryz.prog 41 [] [qV a b c] (row 0 2) [(2, rlsC [mkR h (-1) d, mkR h 1 d])]) := by
 have D := vDegree a b c
 rw [show dgQ a b c = 2 by unfold dgQ; simp [hc]] at D
 have T := rdV 2 1 2 (by decide +kernel) (by omega) (by omega) (by omega) (by omega) (by omega)
 have M := rMul 2 c fz fz
 have h2 : (2 : Rat) * c ≠ 0 := fun e => by rcases Rat.mul_eq_zero.1 e with h | h; exact absurd h (by decide +kernel); exact hc h
 have Q := rDiv b (2 * c) h2 fz fz
 haveI z0 := hs_div b (2 * c) _ _ h2
 have N := rNeg (b / (2 * c))
 have eh2 : -(b / (2 * c)) = h := by rw [eh]; exact half2 hc
 haveI z1 : HasSz h _ := eh2 ▸ (inferInstance : HasSz (-(b / (2 * c))) _)
 rw [eh2] at N
 have S := rMul h h fz fz
 haveI z2 := hs_div a c _ _ hc
 have Q2 := rDiv a c hc fz fz
 have U := rSub (h * h) (a / c) fz fz
 haveI z3 : HasSz d _ := ed ▸ (inferInstance : HasSz (h * h - a / c) _)
 rw [← ed] at U
 have G := rSgn d
 refine ⟨fun h0 => ?_, fun h0 => ?_, fun h0 => ?_⟩
 ·rw [sgQ_neg h0] at G
  clear z0 z1 z2 z3 hc eh ed h0 hs h2 eh2
  generalize b / (2 * c) = t0 at *
  generalize 2 * c = t1 at *
  generalize h * h = t2 at *
  generalize a / c = t3 at *
  generalize (2 : Rat) = t4 at *
  exact walk (code := Tryz.f41.body.getD .skip) [Sy.c D, Sy.c T, Sy.c M, Sy.c Q, Sy.c N, Sy.c S, Sy.c Q2, Sy.c U, Sy.c G] fol Tryz.func41 (by kernel_rfl) (fun xs w => Tryz.call41 xs w) (by kernel_rfl)
 ·subst h0
  rw [show sgQ 0 = 0 from rfl] at G
  unfold rlsC rlsC
  rw [rlC_rat]
  clear z0 z1 z2 z3 hc eh ed hs h2 eh2
  generalize b / (2 * c) = t0 at *
  generalize 2 * c = t1 at *
  generalize h * h = t2 at *
  generalize a / c = t3 at *
  generalize (2 : Rat) = t4 at *
  generalize (0 : Rat) = t5 at *
  exact walk (code := Tryz.f41.body.getD .skip) [Sy.c D, Sy.c T, Sy.c M, Sy.c Q, Sy.c N, Sy.c S, Sy.c Q2, Sy.c U, Sy.c G, Sy.c G] fol Tryz.func41 (by kernel_rfl) (fun xs w => Tryz.call41 xs w) (by kernel_rfl)
 ·rw [show sgQ d = 1 by unfold sgQ; rw [if_neg (by grind), if_neg (by grind)]] at G
  have K1 := vOfR h d true
  have K2 := vOfR h d false
  rw [show ofR h d true = mkR h (-1) d from rfl] at K1
  rw [show ofR h d false = mkR h 1 d from rfl] at K2
  clear z0 z1 z2 z3 hc eh ed h0 hs h2 eh2
  generalize mkR h (-1) d = y1 at *
  generalize mkR h 1 d = y2 at *
  generalize b / (2 * c) = t0 at *
  generalize 2 * c = t1 at *
  generalize h * h = t2 at *
  generalize a / c = t3 at *
  generalize (2 : Rat) = t4 at *
  obtain ⟨y1p, y1r, y1n⟩ := y1
  obtain ⟨y2p, y2r, y2n⟩ := y2
  exact walk (code := Tryz.f41.body.getD .skip) [Sy.c D, Sy.c T, Sy.c M, Sy.c Q, Sy.c N, Sy.c S, Sy.c Q2, Sy.c U, Sy.c G, Sy.c G, Sy.c K1, Sy.c K2] fol Tryz.func41 (by kernel_rfl) (fun xs w => Tryz.call41 xs w) (by kernel_rfl)
theorem vRoots (a b c : Rat) (l : List Rl) (h : IsRoots a b c l) {i j k : Nat} [HasSz a i] [HasSz b j] [HasSz c k] (hs : i + j + k ≤ 300 := by first | omega | decide) : RRootsSp a b c l := by
 cases h with
 | const h => exact vRootsC a h
 | lin h => exact vRootsL a b h (by omega)
 | no hc eh ed hd => exact (vRootsQ a b c _ _ hc eh ed hs).1 hd
 | one hc eh ed hd => exact (vRootsQ a b c _ _ hc eh ed hs).2.1 hd
 | two hc eh ed hd => exact (vRootsQ a b c _ _ hc eh ed hs).2.2 hd
end Go.Proofs.YtlblfgbpogljoaaGreatDoor

end
section
/- Reference 04: the walks of Parts. -/
namespace Go.Proofs.YtlblfgbpogljoaaGreatDoor
open Go Go.RowKit Go.Sy
open Vi
section
variable (a b c : Rat) (F T : Rl) (oF oT : Bool) (d : Int) (D : Sp Tryz.prog 40 [] [qV a b c] (nV d) []) (ed : decide (d < 0) = false)
include D ed
section
variable (R : Sp Tryz.prog 41 [] [qV a b c] (.slice none 0 0) [])
include R
theorem pt_0f (se ke : Int)
    (E : Sp Tryz.prog 42 [] [rlV F, rlV T] (nV ke) []) (ee : decide (ke < 0) = true)
    (PE : Sp Tryz.prog 113 [] [qV a b c, rlV F, rlV T] (nV se) []) :
    Sp Tryz.prog 46 [] [qV a b c, ivV F T oF oT] (row 0 1) [(1, pcs [(⟨F, T, oF, oT⟩, se)])] := by
 obtain ⟨Fp, Fr, Fn⟩ := F
 obtain ⟨Tp, Tr, Tn⟩ := T
 exact walk (code := Tryz.f46.body.getD .skip) [Sy.c D, eb ed, Sy.c R, Sy.c E, eb ee, Sy.c PE] fol Tryz.func46 (by kernel_rfl) (fun xs w => Tryz.call46 xs w) (by kernel_rfl)
theorem pt_0g (se : Int)
    (E : Sp Tryz.prog 42 [] [rlV F, rlV T] (nV 0) []) (o1 : oF = false) (o2 : oT = false)
    (PE : Sp Tryz.prog 113 [] [qV a b c, rlV F, rlV T] (nV se) []) :
    Sp Tryz.prog 46 [] [qV a b c, ivV F T oF oT] (row 0 1) [(1, pcs [(⟨F, T, oF, oT⟩, se)])] := by
 subst o1 o2
 obtain ⟨Fp, Fr, Fn⟩ := F
 obtain ⟨Tp, Tr, Tn⟩ := T
 exact walk (code := Tryz.f46.body.getD .skip) [Sy.c D, eb ed, Sy.c R, Sy.c E, Sy.c PE] fol Tryz.func46 (by kernel_rfl) (fun xs w => Tryz.call46 xs w) (by kernel_rfl)
end
section
variable (r1 : Rl) (R : Sp Tryz.prog 41 [] [qV a b c] (row 0 1) [(1, rlsC [r1])])
include R
theorem pt_1nf (se ke : Int)
    (C1 : Sp Tryz.prog 47 [] [ivV F T oF oT, rlV r1] (.bool false) [])
    (E : Sp Tryz.prog 42 [] [rlV F, rlV T] (nV ke) []) (ee : decide (ke < 0) = true)
    (PE : Sp Tryz.prog 113 [] [qV a b c, rlV F, rlV T] (nV se) []) :
    Sp Tryz.prog 46 [] [qV a b c, ivV F T oF oT] (row 0 1) [(1, pcs [(⟨F, T, oF, oT⟩, se)])] := by
 obtain ⟨Fp, Fr, Fn⟩ := F
 obtain ⟨Tp, Tr, Tn⟩ := T
 obtain ⟨r1p, r1r, r1n⟩ := r1
 exact walk (code := Tryz.f46.body.getD .skip) [Sy.c D, eb ed, cr R, Sy.c C1, Sy.c E, eb ee, Sy.c PE] fol Tryz.func46 (by kernel_rfl) (fun xs w => Tryz.call46 xs w) (by kernel_rfl)
theorem pt_1lf (s1 se k1 ke : Int)
    (C1 : Sp Tryz.prog 47 [] [ivV F T oF oT, rlV r1] (.bool true) [])
    (K1 : Sp Tryz.prog 42 [] [rlV F, rlV r1] (nV k1) []) (e1 : decide (k1 < 0) = true)
    (P1 : Sp Tryz.prog 113 [] [qV a b c, rlV F, rlV r1] (nV s1) [])
    (E : Sp Tryz.prog 42 [] [rlV r1, rlV T] (nV ke) []) (ee : decide (ke < 0) = true)
    (PE : Sp Tryz.prog 113 [] [qV a b c, rlV r1, rlV T] (nV se) []) :
    Sp Tryz.prog 46 [] [qV a b c, ivV F T oF oT] (row 0 3) [(3, pcs [(⟨F, r1, oF, true⟩, s1), (⟨r1, r1, false, false⟩, 0), (⟨r1, T, true, oT⟩, se)])] := by
 obtain ⟨Fp, Fr, Fn⟩ := F
 obtain ⟨Tp, Tr, Tn⟩ := T
 obtain ⟨r1p, r1r, r1n⟩ := r1
 exact walk (code := Tryz.f46.body.getD .skip) [Sy.c D, eb ed, cr R, Sy.c C1, Sy.c K1, eb e1, Sy.c P1, Sy.c E, eb ee, Sy.c PE] fol Tryz.func46 (by kernel_rfl) (fun xs w => Tryz.call46 xs w) (by kernel_rfl)
theorem pt_1lx (s1 k1 : Int)
    (C1 : Sp Tryz.prog 47 [] [ivV F T oF oT, rlV r1] (.bool true) [])
    (K1 : Sp Tryz.prog 42 [] [rlV F, rlV r1] (nV k1) []) (e1 : decide (k1 < 0) = true)
    (P1 : Sp Tryz.prog 113 [] [qV a b c, rlV F, rlV r1] (nV s1) [])
    (E : Sp Tryz.prog 42 [] [rlV r1, rlV T] (nV 0) []) :
    Sp Tryz.prog 46 [] [qV a b c, ivV F T oF oT] (row 0 2) [(2, pcs [(⟨F, r1, oF, true⟩, s1), (⟨r1, r1, false, false⟩, 0)])] := by
 obtain ⟨Fp, Fr, Fn⟩ := F
 obtain ⟨Tp, Tr, Tn⟩ := T
 obtain ⟨r1p, r1r, r1n⟩ := r1
 exact walk (code := Tryz.f46.body.getD .skip) [Sy.c D, eb ed, cr R, Sy.c C1, Sy.c K1, eb e1, Sy.c P1, Sy.c E] fol Tryz.func46 (by kernel_rfl) (fun xs w => Tryz.call46 xs w) (by kernel_rfl)
theorem pt_1ef (se k1 ke : Int)
    (C1 : Sp Tryz.prog 47 [] [ivV F T oF oT, rlV r1] (.bool true) [])
    (K1 : Sp Tryz.prog 42 [] [rlV F, rlV r1] (nV k1) []) (e1 : decide (k1 < 0) = false)
    (E : Sp Tryz.prog 42 [] [rlV r1, rlV T] (nV ke) []) (ee : decide (ke < 0) = true)
    (PE : Sp Tryz.prog 113 [] [qV a b c, rlV r1, rlV T] (nV se) []) :
    Sp Tryz.prog 46 [] [qV a b c, ivV F T oF oT] (row 0 2) [(2, pcs [(⟨r1, r1, false, false⟩, 0), (⟨r1, T, true, oT⟩, se)])] := by
 obtain ⟨Fp, Fr, Fn⟩ := F
 obtain ⟨Tp, Tr, Tn⟩ := T
 obtain ⟨r1p, r1r, r1n⟩ := r1
 exact walk (code := Tryz.f46.body.getD .skip) [Sy.c D, eb ed, cr R, Sy.c C1, Sy.c K1, eb e1, Sy.c E, eb ee, Sy.c PE] fol Tryz.func46 (by kernel_rfl) (fun xs w => Tryz.call46 xs w) (by kernel_rfl)
theorem pt_1ex (k1 : Int)
    (C1 : Sp Tryz.prog 47 [] [ivV F T oF oT, rlV r1] (.bool true) [])
    (K1 : Sp Tryz.prog 42 [] [rlV F, rlV r1] (nV k1) []) (e1 : decide (k1 < 0) = false)
    (E : Sp Tryz.prog 42 [] [rlV r1, rlV T] (nV 0) []) :
    Sp Tryz.prog 46 [] [qV a b c, ivV F T oF oT] (row 0 1) [(1, pcs [(⟨r1, r1, false, false⟩, 0)])] := by
 obtain ⟨Fp, Fr, Fn⟩ := F
 obtain ⟨Tp, Tr, Tn⟩ := T
 obtain ⟨r1p, r1r, r1n⟩ := r1
 exact walk (code := Tryz.f46.body.getD .skip) [Sy.c D, eb ed, cr R, Sy.c C1, Sy.c K1, eb e1, Sy.c E] fol Tryz.func46 (by kernel_rfl) (fun xs w => Tryz.call46 xs w) (by kernel_rfl)
theorem pt_1ng (se : Int)
    (C1 : Sp Tryz.prog 47 [] [ivV F T oF oT, rlV r1] (.bool false) [])
    (E : Sp Tryz.prog 42 [] [rlV F, rlV T] (nV 0) []) (o1 : oF = false) (o2 : oT = false)
    (PE : Sp Tryz.prog 113 [] [qV a b c, rlV F, rlV T] (nV se) []) :
    Sp Tryz.prog 46 [] [qV a b c, ivV F T oF oT] (row 0 1) [(1, pcs [(⟨F, T, oF, oT⟩, se)])] := by
 subst o1 o2
 obtain ⟨Fp, Fr, Fn⟩ := F
 obtain ⟨Tp, Tr, Tn⟩ := T
 obtain ⟨r1p, r1r, r1n⟩ := r1
 exact walk (code := Tryz.f46.body.getD .skip) [Sy.c D, eb ed, cr R, Sy.c C1, Sy.c E, Sy.c PE] fol Tryz.func46 (by kernel_rfl) (fun xs w => Tryz.call46 xs w) (by kernel_rfl)
end
section
variable (r1 r2 : Rl) (R : Sp Tryz.prog 41 [] [qV a b c] (row 0 2) [(2, rlsC [r1, r2])])
include R
theorem pt_2nnf (se ke : Int)
    (C1 : Sp Tryz.prog 47 [] [ivV F T oF oT, rlV r1] (.bool false) [])
    (C2 : Sp Tryz.prog 47 [] [ivV F T oF oT, rlV r2] (.bool false) [])
    (E : Sp Tryz.prog 42 [] [rlV F, rlV T] (nV ke) []) (ee : decide (ke < 0) = true)
    (PE : Sp Tryz.prog 113 [] [qV a b c, rlV F, rlV T] (nV se) []) :
    Sp Tryz.prog 46 [] [qV a b c, ivV F T oF oT] (row 0 1) [(1, pcs [(⟨F, T, oF, oT⟩, se)])] := by
 obtain ⟨Fp, Fr, Fn⟩ := F
 obtain ⟨Tp, Tr, Tn⟩ := T
 obtain ⟨r1p, r1r, r1n⟩ := r1
 obtain ⟨r2p, r2r, r2n⟩ := r2
 exact walk (code := Tryz.f46.body.getD .skip) [Sy.c D, eb ed, cr R, Sy.c C1, Sy.c C2, Sy.c E, eb ee, Sy.c PE] fol Tryz.func46 (by kernel_rfl) (fun xs w => Tryz.call46 xs w) (by kernel_rfl)
theorem pt_2nlf (s2 se k2 ke : Int)
    (C1 : Sp Tryz.prog 47 [] [ivV F T oF oT, rlV r1] (.bool false) [])
    (C2 : Sp Tryz.prog 47 [] [ivV F T oF oT, rlV r2] (.bool true) [])
    (K2 : Sp Tryz.prog 42 [] [rlV F, rlV r2] (nV k2) []) (e2 : decide (k2 < 0) = true)
    (P2 : Sp Tryz.prog 113 [] [qV a b c, rlV F, rlV r2] (nV s2) [])
    (E : Sp Tryz.prog 42 [] [rlV r2, rlV T] (nV ke) []) (ee : decide (ke < 0) = true)
    (PE : Sp Tryz.prog 113 [] [qV a b c, rlV r2, rlV T] (nV se) []) :
    Sp Tryz.prog 46 [] [qV a b c, ivV F T oF oT] (row 0 3) [(3, pcs [(⟨F, r2, oF, true⟩, s2), (⟨r2, r2, false, false⟩, 0), (⟨r2, T, true, oT⟩, se)])] := by
 obtain ⟨Fp, Fr, Fn⟩ := F
 obtain ⟨Tp, Tr, Tn⟩ := T
 obtain ⟨r1p, r1r, r1n⟩ := r1
 obtain ⟨r2p, r2r, r2n⟩ := r2
 exact walk (code := Tryz.f46.body.getD .skip) [Sy.c D, eb ed, cr R, Sy.c C1, Sy.c C2, Sy.c K2, eb e2, Sy.c P2, Sy.c E, eb ee, Sy.c PE] fol Tryz.func46 (by kernel_rfl) (fun xs w => Tryz.call46 xs w) (by kernel_rfl)
theorem pt_2nlx (s2 k2 : Int)
    (C1 : Sp Tryz.prog 47 [] [ivV F T oF oT, rlV r1] (.bool false) [])
    (C2 : Sp Tryz.prog 47 [] [ivV F T oF oT, rlV r2] (.bool true) [])
    (K2 : Sp Tryz.prog 42 [] [rlV F, rlV r2] (nV k2) []) (e2 : decide (k2 < 0) = true)
    (P2 : Sp Tryz.prog 113 [] [qV a b c, rlV F, rlV r2] (nV s2) [])
    (E : Sp Tryz.prog 42 [] [rlV r2, rlV T] (nV 0) []) :
    Sp Tryz.prog 46 [] [qV a b c, ivV F T oF oT] (row 0 2) [(2, pcs [(⟨F, r2, oF, true⟩, s2), (⟨r2, r2, false, false⟩, 0)])] := by
 obtain ⟨Fp, Fr, Fn⟩ := F
 obtain ⟨Tp, Tr, Tn⟩ := T
 obtain ⟨r1p, r1r, r1n⟩ := r1
 obtain ⟨r2p, r2r, r2n⟩ := r2
 exact walk (code := Tryz.f46.body.getD .skip) [Sy.c D, eb ed, cr R, Sy.c C1, Sy.c C2, Sy.c K2, eb e2, Sy.c P2, Sy.c E] fol Tryz.func46 (by kernel_rfl) (fun xs w => Tryz.call46 xs w) (by kernel_rfl)
theorem pt_2nef (se k2 ke : Int)
    (C1 : Sp Tryz.prog 47 [] [ivV F T oF oT, rlV r1] (.bool false) [])
    (C2 : Sp Tryz.prog 47 [] [ivV F T oF oT, rlV r2] (.bool true) [])
    (K2 : Sp Tryz.prog 42 [] [rlV F, rlV r2] (nV k2) []) (e2 : decide (k2 < 0) = false)
    (E : Sp Tryz.prog 42 [] [rlV r2, rlV T] (nV ke) []) (ee : decide (ke < 0) = true)
    (PE : Sp Tryz.prog 113 [] [qV a b c, rlV r2, rlV T] (nV se) []) :
    Sp Tryz.prog 46 [] [qV a b c, ivV F T oF oT] (row 0 2) [(2, pcs [(⟨r2, r2, false, false⟩, 0), (⟨r2, T, true, oT⟩, se)])] := by
 obtain ⟨Fp, Fr, Fn⟩ := F
 obtain ⟨Tp, Tr, Tn⟩ := T
 obtain ⟨r1p, r1r, r1n⟩ := r1
 obtain ⟨r2p, r2r, r2n⟩ := r2
 exact walk (code := Tryz.f46.body.getD .skip) [Sy.c D, eb ed, cr R, Sy.c C1, Sy.c C2, Sy.c K2, eb e2, Sy.c E, eb ee, Sy.c PE] fol Tryz.func46 (by kernel_rfl) (fun xs w => Tryz.call46 xs w) (by kernel_rfl)
theorem pt_2nex (k2 : Int)
    (C1 : Sp Tryz.prog 47 [] [ivV F T oF oT, rlV r1] (.bool false) [])
    (C2 : Sp Tryz.prog 47 [] [ivV F T oF oT, rlV r2] (.bool true) [])
    (K2 : Sp Tryz.prog 42 [] [rlV F, rlV r2] (nV k2) []) (e2 : decide (k2 < 0) = false)
    (E : Sp Tryz.prog 42 [] [rlV r2, rlV T] (nV 0) []) :
    Sp Tryz.prog 46 [] [qV a b c, ivV F T oF oT] (row 0 1) [(1, pcs [(⟨r2, r2, false, false⟩, 0)])] := by
 obtain ⟨Fp, Fr, Fn⟩ := F
 obtain ⟨Tp, Tr, Tn⟩ := T
 obtain ⟨r1p, r1r, r1n⟩ := r1
 obtain ⟨r2p, r2r, r2n⟩ := r2
 exact walk (code := Tryz.f46.body.getD .skip) [Sy.c D, eb ed, cr R, Sy.c C1, Sy.c C2, Sy.c K2, eb e2, Sy.c E] fol Tryz.func46 (by kernel_rfl) (fun xs w => Tryz.call46 xs w) (by kernel_rfl)
theorem pt_2lnf (s1 se k1 ke : Int)
    (C1 : Sp Tryz.prog 47 [] [ivV F T oF oT, rlV r1] (.bool true) [])
    (K1 : Sp Tryz.prog 42 [] [rlV F, rlV r1] (nV k1) []) (e1 : decide (k1 < 0) = true)
    (P1 : Sp Tryz.prog 113 [] [qV a b c, rlV F, rlV r1] (nV s1) [])
    (C2 : Sp Tryz.prog 47 [] [ivV F T oF oT, rlV r2] (.bool false) [])
    (E : Sp Tryz.prog 42 [] [rlV r1, rlV T] (nV ke) []) (ee : decide (ke < 0) = true)
    (PE : Sp Tryz.prog 113 [] [qV a b c, rlV r1, rlV T] (nV se) []) :
    Sp Tryz.prog 46 [] [qV a b c, ivV F T oF oT] (row 0 3) [(3, pcs [(⟨F, r1, oF, true⟩, s1), (⟨r1, r1, false, false⟩, 0), (⟨r1, T, true, oT⟩, se)])] := by
 obtain ⟨Fp, Fr, Fn⟩ := F
 obtain ⟨Tp, Tr, Tn⟩ := T
 obtain ⟨r1p, r1r, r1n⟩ := r1
 obtain ⟨r2p, r2r, r2n⟩ := r2
 exact walk (code := Tryz.f46.body.getD .skip) [Sy.c D, eb ed, cr R, Sy.c C1, Sy.c K1, eb e1, Sy.c P1, Sy.c C2, Sy.c E, eb ee, Sy.c PE] fol Tryz.func46 (by kernel_rfl) (fun xs w => Tryz.call46 xs w) (by kernel_rfl)
theorem pt_2lnx (s1 k1 : Int)
    (C1 : Sp Tryz.prog 47 [] [ivV F T oF oT, rlV r1] (.bool true) [])
    (K1 : Sp Tryz.prog 42 [] [rlV F, rlV r1] (nV k1) []) (e1 : decide (k1 < 0) = true)
    (P1 : Sp Tryz.prog 113 [] [qV a b c, rlV F, rlV r1] (nV s1) [])
    (C2 : Sp Tryz.prog 47 [] [ivV F T oF oT, rlV r2] (.bool false) [])
    (E : Sp Tryz.prog 42 [] [rlV r1, rlV T] (nV 0) []) :
    Sp Tryz.prog 46 [] [qV a b c, ivV F T oF oT] (row 0 2) [(2, pcs [(⟨F, r1, oF, true⟩, s1), (⟨r1, r1, false, false⟩, 0)])] := by
 obtain ⟨Fp, Fr, Fn⟩ := F
 obtain ⟨Tp, Tr, Tn⟩ := T
 obtain ⟨r1p, r1r, r1n⟩ := r1
 obtain ⟨r2p, r2r, r2n⟩ := r2
 exact walk (code := Tryz.f46.body.getD .skip) [Sy.c D, eb ed, cr R, Sy.c C1, Sy.c K1, eb e1, Sy.c P1, Sy.c C2, Sy.c E] fol Tryz.func46 (by kernel_rfl) (fun xs w => Tryz.call46 xs w) (by kernel_rfl)
theorem pt_2llf (s1 s2 se k1 k2 ke : Int)
    (C1 : Sp Tryz.prog 47 [] [ivV F T oF oT, rlV r1] (.bool true) [])
    (K1 : Sp Tryz.prog 42 [] [rlV F, rlV r1] (nV k1) []) (e1 : decide (k1 < 0) = true)
    (P1 : Sp Tryz.prog 113 [] [qV a b c, rlV F, rlV r1] (nV s1) [])
    (C2 : Sp Tryz.prog 47 [] [ivV F T oF oT, rlV r2] (.bool true) [])
    (K2 : Sp Tryz.prog 42 [] [rlV r1, rlV r2] (nV k2) []) (e2 : decide (k2 < 0) = true)
    (P2 : Sp Tryz.prog 113 [] [qV a b c, rlV r1, rlV r2] (nV s2) [])
    (E : Sp Tryz.prog 42 [] [rlV r2, rlV T] (nV ke) []) (ee : decide (ke < 0) = true)
    (PE : Sp Tryz.prog 113 [] [qV a b c, rlV r2, rlV T] (nV se) []) :
    Sp Tryz.prog 46 [] [qV a b c, ivV F T oF oT] (row 0 5) [(5, pcs [(⟨F, r1, oF, true⟩, s1), (⟨r1, r1, false, false⟩, 0), (⟨r1, r2, true, true⟩, s2), (⟨r2, r2, false, false⟩, 0), (⟨r2, T, true, oT⟩, se)])] := by
 obtain ⟨Fp, Fr, Fn⟩ := F
 obtain ⟨Tp, Tr, Tn⟩ := T
 obtain ⟨r1p, r1r, r1n⟩ := r1
 obtain ⟨r2p, r2r, r2n⟩ := r2
 exact walk (code := Tryz.f46.body.getD .skip) [Sy.c D, eb ed, cr R, Sy.c C1, Sy.c K1, eb e1, Sy.c P1, Sy.c C2, Sy.c K2, eb e2, Sy.c P2, Sy.c E, eb ee, Sy.c PE] fol Tryz.func46 (by kernel_rfl) (fun xs w => Tryz.call46 xs w) (by kernel_rfl)
theorem pt_2llx (s1 s2 k1 k2 : Int)
    (C1 : Sp Tryz.prog 47 [] [ivV F T oF oT, rlV r1] (.bool true) [])
    (K1 : Sp Tryz.prog 42 [] [rlV F, rlV r1] (nV k1) []) (e1 : decide (k1 < 0) = true)
    (P1 : Sp Tryz.prog 113 [] [qV a b c, rlV F, rlV r1] (nV s1) [])
    (C2 : Sp Tryz.prog 47 [] [ivV F T oF oT, rlV r2] (.bool true) [])
    (K2 : Sp Tryz.prog 42 [] [rlV r1, rlV r2] (nV k2) []) (e2 : decide (k2 < 0) = true)
    (P2 : Sp Tryz.prog 113 [] [qV a b c, rlV r1, rlV r2] (nV s2) [])
    (E : Sp Tryz.prog 42 [] [rlV r2, rlV T] (nV 0) []) :
    Sp Tryz.prog 46 [] [qV a b c, ivV F T oF oT] (row 0 4) [(4, pcs [(⟨F, r1, oF, true⟩, s1), (⟨r1, r1, false, false⟩, 0), (⟨r1, r2, true, true⟩, s2), (⟨r2, r2, false, false⟩, 0)])] := by
 obtain ⟨Fp, Fr, Fn⟩ := F
 obtain ⟨Tp, Tr, Tn⟩ := T
 obtain ⟨r1p, r1r, r1n⟩ := r1
 obtain ⟨r2p, r2r, r2n⟩ := r2
 exact walk (code := Tryz.f46.body.getD .skip) [Sy.c D, eb ed, cr R, Sy.c C1, Sy.c K1, eb e1, Sy.c P1, Sy.c C2, Sy.c K2, eb e2, Sy.c P2, Sy.c E] fol Tryz.func46 (by kernel_rfl) (fun xs w => Tryz.call46 xs w) (by kernel_rfl)
theorem pt_2enf (se k1 ke : Int)
    (C1 : Sp Tryz.prog 47 [] [ivV F T oF oT, rlV r1] (.bool true) [])
    (K1 : Sp Tryz.prog 42 [] [rlV F, rlV r1] (nV k1) []) (e1 : decide (k1 < 0) = false)
    (C2 : Sp Tryz.prog 47 [] [ivV F T oF oT, rlV r2] (.bool false) [])
    (E : Sp Tryz.prog 42 [] [rlV r1, rlV T] (nV ke) []) (ee : decide (ke < 0) = true)
    (PE : Sp Tryz.prog 113 [] [qV a b c, rlV r1, rlV T] (nV se) []) :
    Sp Tryz.prog 46 [] [qV a b c, ivV F T oF oT] (row 0 2) [(2, pcs [(⟨r1, r1, false, false⟩, 0), (⟨r1, T, true, oT⟩, se)])] := by
 obtain ⟨Fp, Fr, Fn⟩ := F
 obtain ⟨Tp, Tr, Tn⟩ := T
 obtain ⟨r1p, r1r, r1n⟩ := r1
 obtain ⟨r2p, r2r, r2n⟩ := r2
 exact walk (code := Tryz.f46.body.getD .skip) [Sy.c D, eb ed, cr R, Sy.c C1, Sy.c K1, eb e1, Sy.c C2, Sy.c E, eb ee, Sy.c PE] fol Tryz.func46 (by kernel_rfl) (fun xs w => Tryz.call46 xs w) (by kernel_rfl)
theorem pt_2enx (k1 : Int)
    (C1 : Sp Tryz.prog 47 [] [ivV F T oF oT, rlV r1] (.bool true) [])
    (K1 : Sp Tryz.prog 42 [] [rlV F, rlV r1] (nV k1) []) (e1 : decide (k1 < 0) = false)
    (C2 : Sp Tryz.prog 47 [] [ivV F T oF oT, rlV r2] (.bool false) [])
    (E : Sp Tryz.prog 42 [] [rlV r1, rlV T] (nV 0) []) :
    Sp Tryz.prog 46 [] [qV a b c, ivV F T oF oT] (row 0 1) [(1, pcs [(⟨r1, r1, false, false⟩, 0)])] := by
 obtain ⟨Fp, Fr, Fn⟩ := F
 obtain ⟨Tp, Tr, Tn⟩ := T
 obtain ⟨r1p, r1r, r1n⟩ := r1
 obtain ⟨r2p, r2r, r2n⟩ := r2
 exact walk (code := Tryz.f46.body.getD .skip) [Sy.c D, eb ed, cr R, Sy.c C1, Sy.c K1, eb e1, Sy.c C2, Sy.c E] fol Tryz.func46 (by kernel_rfl) (fun xs w => Tryz.call46 xs w) (by kernel_rfl)
theorem pt_2elf (s2 se k1 k2 ke : Int)
    (C1 : Sp Tryz.prog 47 [] [ivV F T oF oT, rlV r1] (.bool true) [])
    (K1 : Sp Tryz.prog 42 [] [rlV F, rlV r1] (nV k1) []) (e1 : decide (k1 < 0) = false)
    (C2 : Sp Tryz.prog 47 [] [ivV F T oF oT, rlV r2] (.bool true) [])
    (K2 : Sp Tryz.prog 42 [] [rlV r1, rlV r2] (nV k2) []) (e2 : decide (k2 < 0) = true)
    (P2 : Sp Tryz.prog 113 [] [qV a b c, rlV r1, rlV r2] (nV s2) [])
    (E : Sp Tryz.prog 42 [] [rlV r2, rlV T] (nV ke) []) (ee : decide (ke < 0) = true)
    (PE : Sp Tryz.prog 113 [] [qV a b c, rlV r2, rlV T] (nV se) []) :
    Sp Tryz.prog 46 [] [qV a b c, ivV F T oF oT] (row 0 4) [(4, pcs [(⟨r1, r1, false, false⟩, 0), (⟨r1, r2, true, true⟩, s2), (⟨r2, r2, false, false⟩, 0), (⟨r2, T, true, oT⟩, se)])] := by
 obtain ⟨Fp, Fr, Fn⟩ := F
 obtain ⟨Tp, Tr, Tn⟩ := T
 obtain ⟨r1p, r1r, r1n⟩ := r1
 obtain ⟨r2p, r2r, r2n⟩ := r2
 exact walk (code := Tryz.f46.body.getD .skip) [Sy.c D, eb ed, cr R, Sy.c C1, Sy.c K1, eb e1, Sy.c C2, Sy.c K2, eb e2, Sy.c P2, Sy.c E, eb ee, Sy.c PE] fol Tryz.func46 (by kernel_rfl) (fun xs w => Tryz.call46 xs w) (by kernel_rfl)
theorem pt_2elx (s2 k1 k2 : Int)
    (C1 : Sp Tryz.prog 47 [] [ivV F T oF oT, rlV r1] (.bool true) [])
    (K1 : Sp Tryz.prog 42 [] [rlV F, rlV r1] (nV k1) []) (e1 : decide (k1 < 0) = false)
    (C2 : Sp Tryz.prog 47 [] [ivV F T oF oT, rlV r2] (.bool true) [])
    (K2 : Sp Tryz.prog 42 [] [rlV r1, rlV r2] (nV k2) []) (e2 : decide (k2 < 0) = true)
    (P2 : Sp Tryz.prog 113 [] [qV a b c, rlV r1, rlV r2] (nV s2) [])
    (E : Sp Tryz.prog 42 [] [rlV r2, rlV T] (nV 0) []) :
    Sp Tryz.prog 46 [] [qV a b c, ivV F T oF oT] (row 0 3) [(3, pcs [(⟨r1, r1, false, false⟩, 0), (⟨r1, r2, true, true⟩, s2), (⟨r2, r2, false, false⟩, 0)])] := by
 obtain ⟨Fp, Fr, Fn⟩ := F
 obtain ⟨Tp, Tr, Tn⟩ := T
 obtain ⟨r1p, r1r, r1n⟩ := r1
 obtain ⟨r2p, r2r, r2n⟩ := r2
 exact walk (code := Tryz.f46.body.getD .skip) [Sy.c D, eb ed, cr R, Sy.c C1, Sy.c K1, eb e1, Sy.c C2, Sy.c K2, eb e2, Sy.c P2, Sy.c E] fol Tryz.func46 (by kernel_rfl) (fun xs w => Tryz.call46 xs w) (by kernel_rfl)
theorem pt_2nng (se : Int)
    (C1 : Sp Tryz.prog 47 [] [ivV F T oF oT, rlV r1] (.bool false) [])
    (C2 : Sp Tryz.prog 47 [] [ivV F T oF oT, rlV r2] (.bool false) [])
    (E : Sp Tryz.prog 42 [] [rlV F, rlV T] (nV 0) []) (o1 : oF = false) (o2 : oT = false)
    (PE : Sp Tryz.prog 113 [] [qV a b c, rlV F, rlV T] (nV se) []) :
    Sp Tryz.prog 46 [] [qV a b c, ivV F T oF oT] (row 0 1) [(1, pcs [(⟨F, T, oF, oT⟩, se)])] := by
 subst o1 o2
 obtain ⟨Fp, Fr, Fn⟩ := F
 obtain ⟨Tp, Tr, Tn⟩ := T
 obtain ⟨r1p, r1r, r1n⟩ := r1
 obtain ⟨r2p, r2r, r2n⟩ := r2
 exact walk (code := Tryz.f46.body.getD .skip) [Sy.c D, eb ed, cr R, Sy.c C1, Sy.c C2, Sy.c E, Sy.c PE] fol Tryz.func46 (by kernel_rfl) (fun xs w => Tryz.call46 xs w) (by kernel_rfl)
end
end
end Go.Proofs.YtlblfgbpogljoaaGreatDoor

end
section
/- Signs and the reference's Parts give the parts. -/
namespace Go.Proofs.YtlblfgbpogljoaaGreatDoor
open Go Go.RowKit Go.Sy
open Vi
theorem IsRoots.deg {a b c : Rat} {l : List Rl} (h : IsRoots a b c l) : decide (dgQ a b c < 0) = false := by
 unfold dgQ
 cases h with
 | const h => simp [h]
 | lin h => simp [h]
 | no h => simp [h]
 | one h => simp [h]
 | two h => simp [h]
theorem full_no {f T : Rl} {oT : Bool} (h : f.val < T.val ∨ oT = false ∧ f.val = T.val) (g : ¬ Iv.full ⟨f, T, true, oT⟩) : f.val = T.val := by
 rcases h with h | ⟨_, h⟩
 ·exact absurd (.inl h) g
 ·exact h
theorem vParts {a b c : Rat} {l : List Rl} (hl : IsRoots a b c l) [ha : HasSz a 2] [hb : HasSz b 2] [hc : HasSz c 2] (hz : ∀ x ∈ l, HasSz x.p 8 ∧ HasSz x.r 8) (inn : Iv) [h1 : HasSz inn.F.p 8] [h2 : HasSz inn.F.r 8] [h3 : HasSz inn.T.p 8] [h4 : HasSz inn.T.r 8] (hF : inn.F.Ok) (hT : inn.T.Ok) (hi : inn.full) :
    Sp Tryz.prog 46 [] [qV a b c, ivV inn.F inn.T inn.oF inn.oT] (row 0 (parts inn (sBt (qval a b c) (sgQ c)) l inn.F inn.oF).length) [((parts inn (sBt (qval a b c) (sgQ c)) l inn.F inn.oF).length, pcs (parts inn (sBt (qval a b c) (sgQ c)) l inn.F inn.oF))] := by
 have ok := hl.ok
 have so := hl.sorted
 have R0 := Rest.start inn l
 have D := vDegree a b c
 have ed := hl.deg
 have R := vRoots a b c l hl
 have hlen := hl.len
 rcases l with _ | ⟨r1, _ | ⟨r2, _ | ⟨r3, l⟩⟩⟩
 ·clear hlen
  have hx : Iv.full ⟨inn.F, inn.T, inn.oF, inn.oT⟩ := hi
  have PE := vbetween a b c inn.F inn.T hF hT
  have E := vCompare inn.F inn.T hF.nonneg hT.nonneg
  rcases hi with hlt | ⟨he, o1, o2⟩
  ·have ee := (cmp_lss inn.F inn.T).2 hlt
   rw [parts_f hx]
   exact pt_0f (oF := inn.oF) (oT := inn.oT) (R := R) (D := D) (ed := ed) (E := E) (ee := ee) (PE := PE)
  ·rw [(Rl.cmp_eq0 hF hT).2 (Rl.inj hF hT he)] at E
   rw [parts_f hx]
   exact pt_0g (oF := inn.oF) (oT := inn.oT) (R := R) (D := D) (ed := ed) (E := E) (o1 := o1) (o2 := o2) (PE := PE)
 ·clear hlen
  have ok1 := ok r1 (by simp)
  obtain ⟨z1, y1⟩ := hz r1 (by simp)
  have C1 := vContains inn.F inn.T r1 inn.oF inn.oT hF.nonneg hT.nonneg ok1.nonneg
  by_cases g1 : inn.has r1.val
  ·rw [inC_yes hF hT ok1 g1] at C1
   have K1 := vCompare inn.F r1 hF.nonneg ok1.nonneg
   have R1 := R0.take g1 g1.1
   by_cases m1 : inn.F.val < r1.val
   ·have e1 := (cmp_lss inn.F r1).2 m1
    have P1 := vbetween a b c inn.F r1 hF ok1
    by_cases hx : Iv.full ⟨r1, inn.T, true, inn.oT⟩
    ·have E := vCompare r1 inn.T ok1.nonneg hT.nonneg
     have ee := (cmp_lss r1 inn.T).2 (hx.resolve_right fun h => by cases h.2.1)
     have PE := vbetween a b c r1 inn.T ok1 hT
     rw [parts_l g1 m1, parts_f hx]
     exact pt_1lf (oF := inn.oF) (oT := inn.oT) (R := R) (D := D) (ed := ed) (C1 := C1) (K1 := K1) (e1 := e1) (P1 := P1) (E := E) (ee := ee) (PE := PE)
    ·have E := vCompare r1 inn.T ok1.nonneg hT.nonneg
     rw [(Rl.cmp_eq0 ok1 hT).2 (Rl.inj ok1 hT (full_no g1.2 hx))] at E
     rw [parts_l g1 m1, parts_x hx]
     exact pt_1lx (oF := inn.oF) (oT := inn.oT) (R := R) (D := D) (ed := ed) (C1 := C1) (K1 := K1) (e1 := e1) (P1 := P1) (E := E)
   ·have e1 := cmp_lssF m1
    by_cases hx : Iv.full ⟨r1, inn.T, true, inn.oT⟩
    ·have E := vCompare r1 inn.T ok1.nonneg hT.nonneg
     have ee := (cmp_lss r1 inn.T).2 (hx.resolve_right fun h => by cases h.2.1)
     have PE := vbetween a b c r1 inn.T ok1 hT
     rw [parts_e g1 m1, parts_f hx]
     exact pt_1ef (oF := inn.oF) (oT := inn.oT) (R := R) (D := D) (ed := ed) (C1 := C1) (K1 := K1) (e1 := e1) (E := E) (ee := ee) (PE := PE)
    ·have E := vCompare r1 inn.T ok1.nonneg hT.nonneg
     rw [(Rl.cmp_eq0 ok1 hT).2 (Rl.inj ok1 hT (full_no g1.2 hx))] at E
     rw [parts_e g1 m1, parts_x hx]
     exact pt_1ex (oF := inn.oF) (oT := inn.oT) (R := R) (D := D) (ed := ed) (C1 := C1) (K1 := K1) (e1 := e1) (E := E)
  ·rw [inC_no hF hT ok1 g1] at C1
   have R1 := R0.skip g1
   have hx : Iv.full ⟨inn.F, inn.T, inn.oF, inn.oT⟩ := hi
   have PE := vbetween a b c inn.F inn.T hF hT
   have E := vCompare inn.F inn.T hF.nonneg hT.nonneg
   rcases hi with hlt | ⟨he, o1, o2⟩
   ·have ee := (cmp_lss inn.F inn.T).2 hlt
    rw [parts_n g1, parts_f hx]
    exact pt_1nf (oF := inn.oF) (oT := inn.oT) (R := R) (D := D) (ed := ed) (C1 := C1) (E := E) (ee := ee) (PE := PE)
   ·rw [(Rl.cmp_eq0 hF hT).2 (Rl.inj hF hT he)] at E
    rw [parts_n g1, parts_f hx]
    exact pt_1ng (oF := inn.oF) (oT := inn.oT) (R := R) (D := D) (ed := ed) (C1 := C1) (E := E) (o1 := o1) (o2 := o2) (PE := PE)
 ·clear hlen
  have ok1 := ok r1 (by simp)
  obtain ⟨z1, y1⟩ := hz r1 (by simp)
  have ok2 := ok r2 (by simp)
  obtain ⟨z2, y2⟩ := hz r2 (by simp)
  have C1 := vContains inn.F inn.T r1 inn.oF inn.oT hF.nonneg hT.nonneg ok1.nonneg
  by_cases g1 : inn.has r1.val
  ·rw [inC_yes hF hT ok1 g1] at C1
   have K1 := vCompare inn.F r1 hF.nonneg ok1.nonneg
   have R1 := R0.take g1 g1.1
   by_cases m1 : inn.F.val < r1.val
   ·have e1 := (cmp_lss inn.F r1).2 m1
    have P1 := vbetween a b c inn.F r1 hF ok1
    have C2 := vContains inn.F inn.T r2 inn.oF inn.oT hF.nonneg hT.nonneg ok2.nonneg
    by_cases g2 : inn.has r2.val
    ·rw [inC_yes hF hT ok2 g2] at C2
     have K2 := vCompare r1 r2 ok1.nonneg ok2.nonneg
     have m2 : r1.val < r2.val := (List.pairwise_cons.1 so).1 r2 (by simp)
     have R2 := R1.take g2 (.inl m2)
     have e2 := (cmp_lss r1 r2).2 m2
     have P2 := vbetween a b c r1 r2 ok1 ok2
     by_cases hx : Iv.full ⟨r2, inn.T, true, inn.oT⟩
     ·have E := vCompare r2 inn.T ok2.nonneg hT.nonneg
      have ee := (cmp_lss r2 inn.T).2 (hx.resolve_right fun h => by cases h.2.1)
      have PE := vbetween a b c r2 inn.T ok2 hT
      rw [parts_l g1 m1, parts_l g2 m2, parts_f hx]
      exact pt_2llf (oF := inn.oF) (oT := inn.oT) (R := R) (D := D) (ed := ed) (C1 := C1) (K1 := K1) (e1 := e1) (P1 := P1) (C2 := C2) (K2 := K2) (e2 := e2) (P2 := P2) (E := E) (ee := ee) (PE := PE)
     ·have E := vCompare r2 inn.T ok2.nonneg hT.nonneg
      rw [(Rl.cmp_eq0 ok2 hT).2 (Rl.inj ok2 hT (full_no g2.2 hx))] at E
      rw [parts_l g1 m1, parts_l g2 m2, parts_x hx]
      exact pt_2llx (oF := inn.oF) (oT := inn.oT) (R := R) (D := D) (ed := ed) (C1 := C1) (K1 := K1) (e1 := e1) (P1 := P1) (C2 := C2) (K2 := K2) (e2 := e2) (P2 := P2) (E := E)
    ·rw [inC_no hF hT ok2 g2] at C2
     have R2 := R1.skip g2
     by_cases hx : Iv.full ⟨r1, inn.T, true, inn.oT⟩
     ·have E := vCompare r1 inn.T ok1.nonneg hT.nonneg
      have ee := (cmp_lss r1 inn.T).2 (hx.resolve_right fun h => by cases h.2.1)
      have PE := vbetween a b c r1 inn.T ok1 hT
      rw [parts_l g1 m1, parts_n g2, parts_f hx]
      exact pt_2lnf (oF := inn.oF) (oT := inn.oT) (R := R) (D := D) (ed := ed) (C1 := C1) (K1 := K1) (e1 := e1) (P1 := P1) (C2 := C2) (E := E) (ee := ee) (PE := PE)
     ·have E := vCompare r1 inn.T ok1.nonneg hT.nonneg
      rw [(Rl.cmp_eq0 ok1 hT).2 (Rl.inj ok1 hT (full_no g1.2 hx))] at E
      rw [parts_l g1 m1, parts_n g2, parts_x hx]
      exact pt_2lnx (oF := inn.oF) (oT := inn.oT) (R := R) (D := D) (ed := ed) (C1 := C1) (K1 := K1) (e1 := e1) (P1 := P1) (C2 := C2) (E := E)
   ·have e1 := cmp_lssF m1
    have C2 := vContains inn.F inn.T r2 inn.oF inn.oT hF.nonneg hT.nonneg ok2.nonneg
    by_cases g2 : inn.has r2.val
    ·rw [inC_yes hF hT ok2 g2] at C2
     have K2 := vCompare r1 r2 ok1.nonneg ok2.nonneg
     have m2 : r1.val < r2.val := (List.pairwise_cons.1 so).1 r2 (by simp)
     have R2 := R1.take g2 (.inl m2)
     have e2 := (cmp_lss r1 r2).2 m2
     have P2 := vbetween a b c r1 r2 ok1 ok2
     by_cases hx : Iv.full ⟨r2, inn.T, true, inn.oT⟩
     ·have E := vCompare r2 inn.T ok2.nonneg hT.nonneg
      have ee := (cmp_lss r2 inn.T).2 (hx.resolve_right fun h => by cases h.2.1)
      have PE := vbetween a b c r2 inn.T ok2 hT
      rw [parts_e g1 m1, parts_l g2 m2, parts_f hx]
      exact pt_2elf (oF := inn.oF) (oT := inn.oT) (R := R) (D := D) (ed := ed) (C1 := C1) (K1 := K1) (e1 := e1) (C2 := C2) (K2 := K2) (e2 := e2) (P2 := P2) (E := E) (ee := ee) (PE := PE)
     ·have E := vCompare r2 inn.T ok2.nonneg hT.nonneg
      rw [(Rl.cmp_eq0 ok2 hT).2 (Rl.inj ok2 hT (full_no g2.2 hx))] at E
      rw [parts_e g1 m1, parts_l g2 m2, parts_x hx]
      exact pt_2elx (oF := inn.oF) (oT := inn.oT) (R := R) (D := D) (ed := ed) (C1 := C1) (K1 := K1) (e1 := e1) (C2 := C2) (K2 := K2) (e2 := e2) (P2 := P2) (E := E)
    ·rw [inC_no hF hT ok2 g2] at C2
     have R2 := R1.skip g2
     by_cases hx : Iv.full ⟨r1, inn.T, true, inn.oT⟩
     ·have E := vCompare r1 inn.T ok1.nonneg hT.nonneg
      have ee := (cmp_lss r1 inn.T).2 (hx.resolve_right fun h => by cases h.2.1)
      have PE := vbetween a b c r1 inn.T ok1 hT
      rw [parts_e g1 m1, parts_n g2, parts_f hx]
      exact pt_2enf (oF := inn.oF) (oT := inn.oT) (R := R) (D := D) (ed := ed) (C1 := C1) (K1 := K1) (e1 := e1) (C2 := C2) (E := E) (ee := ee) (PE := PE)
     ·have E := vCompare r1 inn.T ok1.nonneg hT.nonneg
      rw [(Rl.cmp_eq0 ok1 hT).2 (Rl.inj ok1 hT (full_no g1.2 hx))] at E
      rw [parts_e g1 m1, parts_n g2, parts_x hx]
      exact pt_2enx (oF := inn.oF) (oT := inn.oT) (R := R) (D := D) (ed := ed) (C1 := C1) (K1 := K1) (e1 := e1) (C2 := C2) (E := E)
  ·rw [inC_no hF hT ok1 g1] at C1
   have R1 := R0.skip g1
   have C2 := vContains inn.F inn.T r2 inn.oF inn.oT hF.nonneg hT.nonneg ok2.nonneg
   by_cases g2 : inn.has r2.val
   ·rw [inC_yes hF hT ok2 g2] at C2
    have K2 := vCompare inn.F r2 hF.nonneg ok2.nonneg
    have R2 := R1.take g2 g2.1
    by_cases m2 : inn.F.val < r2.val
    ·have e2 := (cmp_lss inn.F r2).2 m2
     have P2 := vbetween a b c inn.F r2 hF ok2
     by_cases hx : Iv.full ⟨r2, inn.T, true, inn.oT⟩
     ·have E := vCompare r2 inn.T ok2.nonneg hT.nonneg
      have ee := (cmp_lss r2 inn.T).2 (hx.resolve_right fun h => by cases h.2.1)
      have PE := vbetween a b c r2 inn.T ok2 hT
      rw [parts_n g1, parts_l g2 m2, parts_f hx]
      exact pt_2nlf (oF := inn.oF) (oT := inn.oT) (R := R) (D := D) (ed := ed) (C1 := C1) (C2 := C2) (K2 := K2) (e2 := e2) (P2 := P2) (E := E) (ee := ee) (PE := PE)
     ·have E := vCompare r2 inn.T ok2.nonneg hT.nonneg
      rw [(Rl.cmp_eq0 ok2 hT).2 (Rl.inj ok2 hT (full_no g2.2 hx))] at E
      rw [parts_n g1, parts_l g2 m2, parts_x hx]
      exact pt_2nlx (oF := inn.oF) (oT := inn.oT) (R := R) (D := D) (ed := ed) (C1 := C1) (C2 := C2) (K2 := K2) (e2 := e2) (P2 := P2) (E := E)
    ·have e2 := cmp_lssF m2
     by_cases hx : Iv.full ⟨r2, inn.T, true, inn.oT⟩
     ·have E := vCompare r2 inn.T ok2.nonneg hT.nonneg
      have ee := (cmp_lss r2 inn.T).2 (hx.resolve_right fun h => by cases h.2.1)
      have PE := vbetween a b c r2 inn.T ok2 hT
      rw [parts_n g1, parts_e g2 m2, parts_f hx]
      exact pt_2nef (oF := inn.oF) (oT := inn.oT) (R := R) (D := D) (ed := ed) (C1 := C1) (C2 := C2) (K2 := K2) (e2 := e2) (E := E) (ee := ee) (PE := PE)
     ·have E := vCompare r2 inn.T ok2.nonneg hT.nonneg
      rw [(Rl.cmp_eq0 ok2 hT).2 (Rl.inj ok2 hT (full_no g2.2 hx))] at E
      rw [parts_n g1, parts_e g2 m2, parts_x hx]
      exact pt_2nex (oF := inn.oF) (oT := inn.oT) (R := R) (D := D) (ed := ed) (C1 := C1) (C2 := C2) (K2 := K2) (e2 := e2) (E := E)
   ·rw [inC_no hF hT ok2 g2] at C2
    have R2 := R1.skip g2
    have hx : Iv.full ⟨inn.F, inn.T, inn.oF, inn.oT⟩ := hi
    have PE := vbetween a b c inn.F inn.T hF hT
    have E := vCompare inn.F inn.T hF.nonneg hT.nonneg
    rcases hi with hlt | ⟨he, o1, o2⟩
    ·have ee := (cmp_lss inn.F inn.T).2 hlt
     rw [parts_n g1, parts_n g2, parts_f hx]
     exact pt_2nnf (oF := inn.oF) (oT := inn.oT) (R := R) (D := D) (ed := ed) (C1 := C1) (C2 := C2) (E := E) (ee := ee) (PE := PE)
    ·rw [(Rl.cmp_eq0 hF hT).2 (Rl.inj hF hT he)] at E
     rw [parts_n g1, parts_n g2, parts_f hx]
     exact pt_2nng (oF := inn.oF) (oT := inn.oT) (R := R) (D := D) (ed := ed) (C1 := C1) (C2 := C2) (E := E) (o1 := o1) (o2 := o2) (PE := PE)
 ·simp only [List.length_cons] at hlen
  omega
end Go.Proofs.YtlblfgbpogljoaaGreatDoor

end
section
/- Chapter 4: intervals of the laws; equality of intervals; Signs of what is 0 everywhere, or of no interval. -/
namespace Go.Proofs.YtlblfgbpogljoaaGreatDoor
open Go Go.RowKit Go.Sy
open Vi
abbrev spV (n1 d1 n2 d2 : Int) (neg : Bool) (n3 d3 n4 d4 : Int) (neg2 oF oT : Bool) : Value := .agg #[.int .i16 n1, .int .u8 d1, .int .i16 n2, .int .u8 d2, .bool neg, .int .i16 n3, .int .u8 d3, .int .i16 n4, .int .u8 d4, .bool neg2, .bool oF, .bool oT]
theorem wInterval (n1 d1 n2 d2 : Int) (neg : Bool) (n3 d3 n4 d4 : Int) (neg2 oF oT : Bool) (h1 : Cn n1 d1) (h2 : Cn n2 d2) (h3 : Cn n3 d3) (h4 : Cn n4 d4) :
    Sp Tryz.prog 43 [] [spV n1 d1 n2 d2 neg n3 d3 n4 d4 neg2 oF oT] (ivV (tmR n1 d1 n2 d2 neg) (tmR n3 d3 n4 d4 neg2) oF oT) [] := by
 have A := wReal n1 d1 n2 d2 neg h1 h2
 have B := wReal n3 d3 n4 d4 neg2 h3 h4
 clear h1 h2 h3 h4
 generalize tmR n1 d1 n2 d2 neg = F at *
 generalize tmR n3 d3 n4 d4 neg2 = T at *
 obtain ⟨Fp, Fr, Fn⟩ := F
 obtain ⟨Tp, Tr, Tn⟩ := T
 exact walk (code := Tryz.f43.body.getD .skip) [c A, c B] fol Tryz.func43 (by kernel_rfl) (fun xs w => Tryz.call43 xs w) (by kernel_rfl)
theorem sameI' (F T : Rl) (a b : Bool) : Bin .neq 32 (ivV F T a b) (ivV F T a b) (.bool false) := by
 have h := binS' (T := 32) (fun w => eqIv_run 9995 F T F T a b a b w) (by kernel_rfl)
 simp at h
 exact h
theorem uSignsNo (a b c : Rat) (F T : Rl) (oF oT : Bool) (H : Sp Tryz.prog 109 [] [ivV F T oF oT] (nV 10) []) : Sp Tryz.prog 44 [] [qV a b c, ivV F T oF oT] (.tuple #[.slice none 0 0, nV 10]) [] := by
 obtain ⟨Fp, Fr, Fn⟩ := F
 obtain ⟨Tp, Tr, Tn⟩ := T
 exact walk (code := Tryz.f44.body.getD .skip) [Sy.c H] fol Tryz.func44 (by kernel_rfl) (fun xs w => Tryz.call44 xs w) (by kernel_rfl)
theorem sgZ (F T : Rl) (oF oT : Bool) (H : Sp Tryz.prog 109 [] [ivV F T oF oT] (nV 0) []) (PE : Sp Tryz.prog 111 [] [qZ, ivV F T oF oT] (pcV (⟨F, T, oF, oT⟩, 0)) []) :
    Sp Tryz.prog 44 [] [qZ, ivV F T oF oT] (.tuple #[row 0 1, nV 0]) [(1, pcs [(⟨F, T, oF, oT⟩, 0)])] := by
 have R := uRoots0
 obtain ⟨Fp, Fr, Fn⟩ := F
 obtain ⟨Tp, Tr, Tn⟩ := T
 exact walk (code := Tryz.f44.body.getD .skip) [c H, c R, c H, c PE] fol Tryz.func44 (by kernel_rfl) (fun xs w => Tryz.call44 xs w) (by kernel_rfl)
theorem qval0 (v : RR) : qval 0 0 0 v = 0 := by
 unfold qval
 exact RR.ring [v] (by decide +kernel)
theorem uSignsZ (inn : Iv) [h1 : HasSz inn.F.p 8] [h2 : HasSz inn.F.r 8] [h3 : HasSz inn.T.p 8] [h4 : HasSz inn.T.r 8] (hF : inn.F.Ok) (hT : inn.T.Ok) (hi : inn.full) :
    Sp Tryz.prog 44 [] [qZ, ivV inn.F inn.T inn.oF inn.oT] (.tuple #[row 0 1, nV 0]) [(1, pcs [(inn, 0)])] := by
 have H := ucheck inn.F inn.T inn.oF inn.oT hF hT
 rw [(faC_iff hF hT).1 hi] at H
 haveI z0 : HasSz (0 : Rat) 2 := hs_mono hz0 (by omega)
 have s0 : ∀ v, sgR (qval 0 0 0 v) = 0 := fun v => by rw [qval0]; exact RR.sg_zero rfl
 refine sgZ inn.F inn.T inn.oF inn.oT H ?_
 rw [← qV0]
 rcases hi with hlt | ⟨he, _, _⟩
 ·exact upart_lt 0 0 0 inn.F inn.T inn.oF inn.oT 0 hF hT hlt fun M _ _ => s0 M
 ·have := upart_eq 0 0 0 inn.F inn.T inn.oF inn.oT hF hT he
  rw [s0] at this
  exact this
theorem vPartsZ (F T : Rl) (oF oT : Bool) : Sp Tryz.prog 46 [] [qZ, ivV F T oF oT] (row 0 1) [(1, pcs [(⟨F, T, oF, oT⟩, 0)])] := by
 have D := vDegree 0 0 0
 rw [qV0, show dgQ 0 0 0 = -1 by unfold dgQ; simp] at D
 obtain ⟨Fp, Fr, Fn⟩ := F
 obtain ⟨Tp, Tr, Tn⟩ := T
 exact walk (code := Tryz.f46.body.getD .skip) [c D] fol Tryz.func46 (by kernel_rfl) (fun xs w => Tryz.call46 xs w) (by kernel_rfl)
end Go.Proofs.YtlblfgbpogljoaaGreatDoor

end
section
/- Chapter 4: the walks of the law Signs. -/
namespace Go.Proofs.YtlblfgbpogljoaaGreatDoor
open Go Go.RowKit Go.Sy
open Vi
section
variable (n1 d1 n2 d2 n3 d3 : Int) (m1 e1 m2 e2 : Int) (g1 : Bool) (m3 e3 m4 e4 : Int) (g2 : Bool) (j1 c1 j2 c2 : Int) (g3 : Bool) (oF oT : Bool) (a b c : Rat) (F T x : Rl) (K : Sp Tryz.prog 32 [] [] (.bool true) [])
    (Q : Sp Tryz.prog 29 [] [fnV n1 d1 n2 d2 n3 d3] (qV a b c) []) (I : Sp Tryz.prog 43 [] [spV m1 e1 m2 e2 g1 m3 e3 m4 e4 g2 oF oT] (ivV F T oF oT) []) (X : Sp Tryz.prog 31 [] [tmV j1 c1 j2 c2 g3] (rlV x) [])
include K Q I X
theorem sl_10 (i1 : Iv) (s1 : Int)
    (S : Sp Tryz.prog 44 [] [qV a b c, ivV F T oF oT] (.tuple #[row 0 1, nV 0]) [(1, pcs [(i1, s1)])])
    (Fa : Sp Tryz.prog 45 [] [ivV F T oF oT] (nV 0) [])
    (Pa : Sp Tryz.prog 46 [] [qV a b c, ivV F T oF oT] (row 0 1) [(1, pcs [(i1, s1)])])
    (C1 : Sp Tryz.prog 47 [] [ivV i1.F i1.T i1.oF i1.oT, rlV x] (.bool false) [])
    (CI : Sp Tryz.prog 47 [] [ivV F T oF oT, rlV x] (.bool false) []) :
    Sp Tryz.prog 7 [] [fnV n1 d1 n2 d2 n3 d3, spV m1 e1 m2 e2 g1 m3 e3 m4 e4 g2 oF oT, tmV j1 c1 j2 c2 g3] (.bool true) [] := by
 have b1 := sameI' i1.F i1.T i1.oF i1.oT
 have f1 : (s1 != s1) = false := by simp
 obtain ⟨Fp, Fr, Fn⟩ := F
 obtain ⟨Tp, Tr, Tn⟩ := T
 obtain ⟨xp, xr, xn⟩ := x
 obtain ⟨⟨p1, q1, w1⟩, ⟨u1, v1, y1⟩, z1, t1⟩ := i1
 dsimp only at *
 exact walk (code := Tryz.f7.body.getD .skip) [Sy.c Q, Sy.c I, Sy.c X, cr S, Sy.c K, Sy.c Fa, cr Pa, L, L, L, x2 b1, eb f1, Sy.c C1, Sy.c CI] fol Tryz.func7 (by kernel_rfl) (fun xs w => Tryz.call7 xs w) (by kernel_rfl)
theorem sl_11 (i1 : Iv) (s1 : Int)
    (S : Sp Tryz.prog 44 [] [qV a b c, ivV F T oF oT] (.tuple #[row 0 1, nV 0]) [(1, pcs [(i1, s1)])])
    (Fa : Sp Tryz.prog 45 [] [ivV F T oF oT] (nV 0) [])
    (Pa : Sp Tryz.prog 46 [] [qV a b c, ivV F T oF oT] (row 0 1) [(1, pcs [(i1, s1)])])
    (C1 : Sp Tryz.prog 47 [] [ivV i1.F i1.T i1.oF i1.oT, rlV x] (.bool true) [])
    (SA : Sp Tryz.prog 38 [] [qV a b c, rlV x] (nV s1) [])
    (CI : Sp Tryz.prog 47 [] [ivV F T oF oT, rlV x] (.bool true) []) :
    Sp Tryz.prog 7 [] [fnV n1 d1 n2 d2 n3 d3, spV m1 e1 m2 e2 g1 m3 e3 m4 e4 g2 oF oT, tmV j1 c1 j2 c2 g3] (.bool true) [] := by
 have b1 := sameI' i1.F i1.T i1.oF i1.oT
 have f1 : (s1 != s1) = false := by simp
 obtain ⟨Fp, Fr, Fn⟩ := F
 obtain ⟨Tp, Tr, Tn⟩ := T
 obtain ⟨xp, xr, xn⟩ := x
 obtain ⟨⟨p1, q1, w1⟩, ⟨u1, v1, y1⟩, z1, t1⟩ := i1
 dsimp only at *
 exact walk (code := Tryz.f7.body.getD .skip) [Sy.c Q, Sy.c I, Sy.c X, cr S, Sy.c K, Sy.c Fa, cr Pa, L, L, L, x2 b1, eb f1, Sy.c C1, Sy.c SA, eb f1, Sy.c CI] fol Tryz.func7 (by kernel_rfl) (fun xs w => Tryz.call7 xs w) (by kernel_rfl)
theorem sl_20 (i1 i2 : Iv) (s1 s2 : Int)
    (S : Sp Tryz.prog 44 [] [qV a b c, ivV F T oF oT] (.tuple #[row 0 2, nV 0]) [(2, pcs [(i1, s1), (i2, s2)])])
    (Fa : Sp Tryz.prog 45 [] [ivV F T oF oT] (nV 0) [])
    (Pa : Sp Tryz.prog 46 [] [qV a b c, ivV F T oF oT] (row 0 2) [(2, pcs [(i1, s1), (i2, s2)])])
    (C1 : Sp Tryz.prog 47 [] [ivV i1.F i1.T i1.oF i1.oT, rlV x] (.bool false) [])
    (C2 : Sp Tryz.prog 47 [] [ivV i2.F i2.T i2.oF i2.oT, rlV x] (.bool false) [])
    (CI : Sp Tryz.prog 47 [] [ivV F T oF oT, rlV x] (.bool false) []) :
    Sp Tryz.prog 7 [] [fnV n1 d1 n2 d2 n3 d3, spV m1 e1 m2 e2 g1 m3 e3 m4 e4 g2 oF oT, tmV j1 c1 j2 c2 g3] (.bool true) [] := by
 have b1 := sameI' i1.F i1.T i1.oF i1.oT
 have f1 : (s1 != s1) = false := by simp
 have b2 := sameI' i2.F i2.T i2.oF i2.oT
 have f2 : (s2 != s2) = false := by simp
 obtain ⟨Fp, Fr, Fn⟩ := F
 obtain ⟨Tp, Tr, Tn⟩ := T
 obtain ⟨xp, xr, xn⟩ := x
 obtain ⟨⟨p1, q1, w1⟩, ⟨u1, v1, y1⟩, z1, t1⟩ := i1
 obtain ⟨⟨p2, q2, w2⟩, ⟨u2, v2, y2⟩, z2, t2⟩ := i2
 dsimp only at *
 exact walk (code := Tryz.f7.body.getD .skip) [Sy.c Q, Sy.c I, Sy.c X, cr S, Sy.c K, Sy.c Fa, cr Pa, L, L, L, x2 b1, eb f1, Sy.c C1, L, L, x2 b2, eb f2, Sy.c C2, Sy.c CI] fol Tryz.func7 (by kernel_rfl) (fun xs w => Tryz.call7 xs w) (by kernel_rfl)
theorem sl_21 (i1 i2 : Iv) (s1 s2 : Int)
    (S : Sp Tryz.prog 44 [] [qV a b c, ivV F T oF oT] (.tuple #[row 0 2, nV 0]) [(2, pcs [(i1, s1), (i2, s2)])])
    (Fa : Sp Tryz.prog 45 [] [ivV F T oF oT] (nV 0) [])
    (Pa : Sp Tryz.prog 46 [] [qV a b c, ivV F T oF oT] (row 0 2) [(2, pcs [(i1, s1), (i2, s2)])])
    (C1 : Sp Tryz.prog 47 [] [ivV i1.F i1.T i1.oF i1.oT, rlV x] (.bool true) [])
    (C2 : Sp Tryz.prog 47 [] [ivV i2.F i2.T i2.oF i2.oT, rlV x] (.bool false) [])
    (SA : Sp Tryz.prog 38 [] [qV a b c, rlV x] (nV s1) [])
    (CI : Sp Tryz.prog 47 [] [ivV F T oF oT, rlV x] (.bool true) []) :
    Sp Tryz.prog 7 [] [fnV n1 d1 n2 d2 n3 d3, spV m1 e1 m2 e2 g1 m3 e3 m4 e4 g2 oF oT, tmV j1 c1 j2 c2 g3] (.bool true) [] := by
 have b1 := sameI' i1.F i1.T i1.oF i1.oT
 have f1 : (s1 != s1) = false := by simp
 have b2 := sameI' i2.F i2.T i2.oF i2.oT
 have f2 : (s2 != s2) = false := by simp
 obtain ⟨Fp, Fr, Fn⟩ := F
 obtain ⟨Tp, Tr, Tn⟩ := T
 obtain ⟨xp, xr, xn⟩ := x
 obtain ⟨⟨p1, q1, w1⟩, ⟨u1, v1, y1⟩, z1, t1⟩ := i1
 obtain ⟨⟨p2, q2, w2⟩, ⟨u2, v2, y2⟩, z2, t2⟩ := i2
 dsimp only at *
 exact walk (code := Tryz.f7.body.getD .skip) [Sy.c Q, Sy.c I, Sy.c X, cr S, Sy.c K, Sy.c Fa, cr Pa, L, L, L, x2 b1, eb f1, Sy.c C1, Sy.c SA, eb f1, L, L, x2 b2, eb f2, Sy.c C2, Sy.c CI] fol Tryz.func7 (by kernel_rfl) (fun xs w => Tryz.call7 xs w) (by kernel_rfl)
theorem sl_22 (i1 i2 : Iv) (s1 s2 : Int)
    (S : Sp Tryz.prog 44 [] [qV a b c, ivV F T oF oT] (.tuple #[row 0 2, nV 0]) [(2, pcs [(i1, s1), (i2, s2)])])
    (Fa : Sp Tryz.prog 45 [] [ivV F T oF oT] (nV 0) [])
    (Pa : Sp Tryz.prog 46 [] [qV a b c, ivV F T oF oT] (row 0 2) [(2, pcs [(i1, s1), (i2, s2)])])
    (C1 : Sp Tryz.prog 47 [] [ivV i1.F i1.T i1.oF i1.oT, rlV x] (.bool false) [])
    (C2 : Sp Tryz.prog 47 [] [ivV i2.F i2.T i2.oF i2.oT, rlV x] (.bool true) [])
    (SA : Sp Tryz.prog 38 [] [qV a b c, rlV x] (nV s2) [])
    (CI : Sp Tryz.prog 47 [] [ivV F T oF oT, rlV x] (.bool true) []) :
    Sp Tryz.prog 7 [] [fnV n1 d1 n2 d2 n3 d3, spV m1 e1 m2 e2 g1 m3 e3 m4 e4 g2 oF oT, tmV j1 c1 j2 c2 g3] (.bool true) [] := by
 have b1 := sameI' i1.F i1.T i1.oF i1.oT
 have f1 : (s1 != s1) = false := by simp
 have b2 := sameI' i2.F i2.T i2.oF i2.oT
 have f2 : (s2 != s2) = false := by simp
 obtain ⟨Fp, Fr, Fn⟩ := F
 obtain ⟨Tp, Tr, Tn⟩ := T
 obtain ⟨xp, xr, xn⟩ := x
 obtain ⟨⟨p1, q1, w1⟩, ⟨u1, v1, y1⟩, z1, t1⟩ := i1
 obtain ⟨⟨p2, q2, w2⟩, ⟨u2, v2, y2⟩, z2, t2⟩ := i2
 dsimp only at *
 exact walk (code := Tryz.f7.body.getD .skip) [Sy.c Q, Sy.c I, Sy.c X, cr S, Sy.c K, Sy.c Fa, cr Pa, L, L, L, x2 b1, eb f1, Sy.c C1, L, L, x2 b2, eb f2, Sy.c C2, Sy.c SA, eb f2, Sy.c CI] fol Tryz.func7 (by kernel_rfl) (fun xs w => Tryz.call7 xs w) (by kernel_rfl)
theorem sl_30 (i1 i2 i3 : Iv) (s1 s2 s3 : Int)
    (S : Sp Tryz.prog 44 [] [qV a b c, ivV F T oF oT] (.tuple #[row 0 3, nV 0]) [(3, pcs [(i1, s1), (i2, s2), (i3, s3)])])
    (Fa : Sp Tryz.prog 45 [] [ivV F T oF oT] (nV 0) [])
    (Pa : Sp Tryz.prog 46 [] [qV a b c, ivV F T oF oT] (row 0 3) [(3, pcs [(i1, s1), (i2, s2), (i3, s3)])])
    (C1 : Sp Tryz.prog 47 [] [ivV i1.F i1.T i1.oF i1.oT, rlV x] (.bool false) [])
    (C2 : Sp Tryz.prog 47 [] [ivV i2.F i2.T i2.oF i2.oT, rlV x] (.bool false) [])
    (C3 : Sp Tryz.prog 47 [] [ivV i3.F i3.T i3.oF i3.oT, rlV x] (.bool false) [])
    (CI : Sp Tryz.prog 47 [] [ivV F T oF oT, rlV x] (.bool false) []) :
    Sp Tryz.prog 7 [] [fnV n1 d1 n2 d2 n3 d3, spV m1 e1 m2 e2 g1 m3 e3 m4 e4 g2 oF oT, tmV j1 c1 j2 c2 g3] (.bool true) [] := by
 have b1 := sameI' i1.F i1.T i1.oF i1.oT
 have f1 : (s1 != s1) = false := by simp
 have b2 := sameI' i2.F i2.T i2.oF i2.oT
 have f2 : (s2 != s2) = false := by simp
 have b3 := sameI' i3.F i3.T i3.oF i3.oT
 have f3 : (s3 != s3) = false := by simp
 obtain ⟨Fp, Fr, Fn⟩ := F
 obtain ⟨Tp, Tr, Tn⟩ := T
 obtain ⟨xp, xr, xn⟩ := x
 obtain ⟨⟨p1, q1, w1⟩, ⟨u1, v1, y1⟩, z1, t1⟩ := i1
 obtain ⟨⟨p2, q2, w2⟩, ⟨u2, v2, y2⟩, z2, t2⟩ := i2
 obtain ⟨⟨p3, q3, w3⟩, ⟨u3, v3, y3⟩, z3, t3⟩ := i3
 dsimp only at *
 exact walk (code := Tryz.f7.body.getD .skip) [Sy.c Q, Sy.c I, Sy.c X, cr S, Sy.c K, Sy.c Fa, cr Pa, L, L, L, x2 b1, eb f1, Sy.c C1, L, L, x2 b2, eb f2, Sy.c C2, L, L, x2 b3, eb f3, Sy.c C3, Sy.c CI] fol Tryz.func7 (by kernel_rfl) (fun xs w => Tryz.call7 xs w) (by kernel_rfl)
theorem sl_31 (i1 i2 i3 : Iv) (s1 s2 s3 : Int)
    (S : Sp Tryz.prog 44 [] [qV a b c, ivV F T oF oT] (.tuple #[row 0 3, nV 0]) [(3, pcs [(i1, s1), (i2, s2), (i3, s3)])])
    (Fa : Sp Tryz.prog 45 [] [ivV F T oF oT] (nV 0) [])
    (Pa : Sp Tryz.prog 46 [] [qV a b c, ivV F T oF oT] (row 0 3) [(3, pcs [(i1, s1), (i2, s2), (i3, s3)])])
    (C1 : Sp Tryz.prog 47 [] [ivV i1.F i1.T i1.oF i1.oT, rlV x] (.bool true) [])
    (C2 : Sp Tryz.prog 47 [] [ivV i2.F i2.T i2.oF i2.oT, rlV x] (.bool false) [])
    (C3 : Sp Tryz.prog 47 [] [ivV i3.F i3.T i3.oF i3.oT, rlV x] (.bool false) [])
    (SA : Sp Tryz.prog 38 [] [qV a b c, rlV x] (nV s1) [])
    (CI : Sp Tryz.prog 47 [] [ivV F T oF oT, rlV x] (.bool true) []) :
    Sp Tryz.prog 7 [] [fnV n1 d1 n2 d2 n3 d3, spV m1 e1 m2 e2 g1 m3 e3 m4 e4 g2 oF oT, tmV j1 c1 j2 c2 g3] (.bool true) [] := by
 have b1 := sameI' i1.F i1.T i1.oF i1.oT
 have f1 : (s1 != s1) = false := by simp
 have b2 := sameI' i2.F i2.T i2.oF i2.oT
 have f2 : (s2 != s2) = false := by simp
 have b3 := sameI' i3.F i3.T i3.oF i3.oT
 have f3 : (s3 != s3) = false := by simp
 obtain ⟨Fp, Fr, Fn⟩ := F
 obtain ⟨Tp, Tr, Tn⟩ := T
 obtain ⟨xp, xr, xn⟩ := x
 obtain ⟨⟨p1, q1, w1⟩, ⟨u1, v1, y1⟩, z1, t1⟩ := i1
 obtain ⟨⟨p2, q2, w2⟩, ⟨u2, v2, y2⟩, z2, t2⟩ := i2
 obtain ⟨⟨p3, q3, w3⟩, ⟨u3, v3, y3⟩, z3, t3⟩ := i3
 dsimp only at *
 exact walk (code := Tryz.f7.body.getD .skip) [Sy.c Q, Sy.c I, Sy.c X, cr S, Sy.c K, Sy.c Fa, cr Pa, L, L, L, x2 b1, eb f1, Sy.c C1, Sy.c SA, eb f1, L, L, x2 b2, eb f2, Sy.c C2, L, L, x2 b3, eb f3, Sy.c C3, Sy.c CI] fol Tryz.func7 (by kernel_rfl) (fun xs w => Tryz.call7 xs w) (by kernel_rfl)
theorem sl_32 (i1 i2 i3 : Iv) (s1 s2 s3 : Int)
    (S : Sp Tryz.prog 44 [] [qV a b c, ivV F T oF oT] (.tuple #[row 0 3, nV 0]) [(3, pcs [(i1, s1), (i2, s2), (i3, s3)])])
    (Fa : Sp Tryz.prog 45 [] [ivV F T oF oT] (nV 0) [])
    (Pa : Sp Tryz.prog 46 [] [qV a b c, ivV F T oF oT] (row 0 3) [(3, pcs [(i1, s1), (i2, s2), (i3, s3)])])
    (C1 : Sp Tryz.prog 47 [] [ivV i1.F i1.T i1.oF i1.oT, rlV x] (.bool false) [])
    (C2 : Sp Tryz.prog 47 [] [ivV i2.F i2.T i2.oF i2.oT, rlV x] (.bool true) [])
    (C3 : Sp Tryz.prog 47 [] [ivV i3.F i3.T i3.oF i3.oT, rlV x] (.bool false) [])
    (SA : Sp Tryz.prog 38 [] [qV a b c, rlV x] (nV s2) [])
    (CI : Sp Tryz.prog 47 [] [ivV F T oF oT, rlV x] (.bool true) []) :
    Sp Tryz.prog 7 [] [fnV n1 d1 n2 d2 n3 d3, spV m1 e1 m2 e2 g1 m3 e3 m4 e4 g2 oF oT, tmV j1 c1 j2 c2 g3] (.bool true) [] := by
 have b1 := sameI' i1.F i1.T i1.oF i1.oT
 have f1 : (s1 != s1) = false := by simp
 have b2 := sameI' i2.F i2.T i2.oF i2.oT
 have f2 : (s2 != s2) = false := by simp
 have b3 := sameI' i3.F i3.T i3.oF i3.oT
 have f3 : (s3 != s3) = false := by simp
 obtain ⟨Fp, Fr, Fn⟩ := F
 obtain ⟨Tp, Tr, Tn⟩ := T
 obtain ⟨xp, xr, xn⟩ := x
 obtain ⟨⟨p1, q1, w1⟩, ⟨u1, v1, y1⟩, z1, t1⟩ := i1
 obtain ⟨⟨p2, q2, w2⟩, ⟨u2, v2, y2⟩, z2, t2⟩ := i2
 obtain ⟨⟨p3, q3, w3⟩, ⟨u3, v3, y3⟩, z3, t3⟩ := i3
 dsimp only at *
 exact walk (code := Tryz.f7.body.getD .skip) [Sy.c Q, Sy.c I, Sy.c X, cr S, Sy.c K, Sy.c Fa, cr Pa, L, L, L, x2 b1, eb f1, Sy.c C1, L, L, x2 b2, eb f2, Sy.c C2, Sy.c SA, eb f2, L, L, x2 b3, eb f3, Sy.c C3, Sy.c CI] fol Tryz.func7 (by kernel_rfl) (fun xs w => Tryz.call7 xs w) (by kernel_rfl)
theorem sl_33 (i1 i2 i3 : Iv) (s1 s2 s3 : Int)
    (S : Sp Tryz.prog 44 [] [qV a b c, ivV F T oF oT] (.tuple #[row 0 3, nV 0]) [(3, pcs [(i1, s1), (i2, s2), (i3, s3)])])
    (Fa : Sp Tryz.prog 45 [] [ivV F T oF oT] (nV 0) [])
    (Pa : Sp Tryz.prog 46 [] [qV a b c, ivV F T oF oT] (row 0 3) [(3, pcs [(i1, s1), (i2, s2), (i3, s3)])])
    (C1 : Sp Tryz.prog 47 [] [ivV i1.F i1.T i1.oF i1.oT, rlV x] (.bool false) [])
    (C2 : Sp Tryz.prog 47 [] [ivV i2.F i2.T i2.oF i2.oT, rlV x] (.bool false) [])
    (C3 : Sp Tryz.prog 47 [] [ivV i3.F i3.T i3.oF i3.oT, rlV x] (.bool true) [])
    (SA : Sp Tryz.prog 38 [] [qV a b c, rlV x] (nV s3) [])
    (CI : Sp Tryz.prog 47 [] [ivV F T oF oT, rlV x] (.bool true) []) :
    Sp Tryz.prog 7 [] [fnV n1 d1 n2 d2 n3 d3, spV m1 e1 m2 e2 g1 m3 e3 m4 e4 g2 oF oT, tmV j1 c1 j2 c2 g3] (.bool true) [] := by
 have b1 := sameI' i1.F i1.T i1.oF i1.oT
 have f1 : (s1 != s1) = false := by simp
 have b2 := sameI' i2.F i2.T i2.oF i2.oT
 have f2 : (s2 != s2) = false := by simp
 have b3 := sameI' i3.F i3.T i3.oF i3.oT
 have f3 : (s3 != s3) = false := by simp
 obtain ⟨Fp, Fr, Fn⟩ := F
 obtain ⟨Tp, Tr, Tn⟩ := T
 obtain ⟨xp, xr, xn⟩ := x
 obtain ⟨⟨p1, q1, w1⟩, ⟨u1, v1, y1⟩, z1, t1⟩ := i1
 obtain ⟨⟨p2, q2, w2⟩, ⟨u2, v2, y2⟩, z2, t2⟩ := i2
 obtain ⟨⟨p3, q3, w3⟩, ⟨u3, v3, y3⟩, z3, t3⟩ := i3
 dsimp only at *
 exact walk (code := Tryz.f7.body.getD .skip) [Sy.c Q, Sy.c I, Sy.c X, cr S, Sy.c K, Sy.c Fa, cr Pa, L, L, L, x2 b1, eb f1, Sy.c C1, L, L, x2 b2, eb f2, Sy.c C2, L, L, x2 b3, eb f3, Sy.c C3, Sy.c SA, eb f3, Sy.c CI] fol Tryz.func7 (by kernel_rfl) (fun xs w => Tryz.call7 xs w) (by kernel_rfl)
theorem sl_40 (i1 i2 i3 i4 : Iv) (s1 s2 s3 s4 : Int)
    (S : Sp Tryz.prog 44 [] [qV a b c, ivV F T oF oT] (.tuple #[row 0 4, nV 0]) [(4, pcs [(i1, s1), (i2, s2), (i3, s3), (i4, s4)])])
    (Fa : Sp Tryz.prog 45 [] [ivV F T oF oT] (nV 0) [])
    (Pa : Sp Tryz.prog 46 [] [qV a b c, ivV F T oF oT] (row 0 4) [(4, pcs [(i1, s1), (i2, s2), (i3, s3), (i4, s4)])])
    (C1 : Sp Tryz.prog 47 [] [ivV i1.F i1.T i1.oF i1.oT, rlV x] (.bool false) [])
    (C2 : Sp Tryz.prog 47 [] [ivV i2.F i2.T i2.oF i2.oT, rlV x] (.bool false) [])
    (C3 : Sp Tryz.prog 47 [] [ivV i3.F i3.T i3.oF i3.oT, rlV x] (.bool false) [])
    (C4 : Sp Tryz.prog 47 [] [ivV i4.F i4.T i4.oF i4.oT, rlV x] (.bool false) [])
    (CI : Sp Tryz.prog 47 [] [ivV F T oF oT, rlV x] (.bool false) []) :
    Sp Tryz.prog 7 [] [fnV n1 d1 n2 d2 n3 d3, spV m1 e1 m2 e2 g1 m3 e3 m4 e4 g2 oF oT, tmV j1 c1 j2 c2 g3] (.bool true) [] := by
 have b1 := sameI' i1.F i1.T i1.oF i1.oT
 have f1 : (s1 != s1) = false := by simp
 have b2 := sameI' i2.F i2.T i2.oF i2.oT
 have f2 : (s2 != s2) = false := by simp
 have b3 := sameI' i3.F i3.T i3.oF i3.oT
 have f3 : (s3 != s3) = false := by simp
 have b4 := sameI' i4.F i4.T i4.oF i4.oT
 have f4 : (s4 != s4) = false := by simp
 obtain ⟨Fp, Fr, Fn⟩ := F
 obtain ⟨Tp, Tr, Tn⟩ := T
 obtain ⟨xp, xr, xn⟩ := x
 obtain ⟨⟨p1, q1, w1⟩, ⟨u1, v1, y1⟩, z1, t1⟩ := i1
 obtain ⟨⟨p2, q2, w2⟩, ⟨u2, v2, y2⟩, z2, t2⟩ := i2
 obtain ⟨⟨p3, q3, w3⟩, ⟨u3, v3, y3⟩, z3, t3⟩ := i3
 obtain ⟨⟨p4, q4, w4⟩, ⟨u4, v4, y4⟩, z4, t4⟩ := i4
 dsimp only at *
 exact walk (code := Tryz.f7.body.getD .skip) [Sy.c Q, Sy.c I, Sy.c X, cr S, Sy.c K, Sy.c Fa, cr Pa, L, L, L, x2 b1, eb f1, Sy.c C1, L, L, x2 b2, eb f2, Sy.c C2, L, L, x2 b3, eb f3, Sy.c C3, L, L, x2 b4, eb f4, Sy.c C4, Sy.c CI] fol Tryz.func7 (by kernel_rfl) (fun xs w => Tryz.call7 xs w) (by kernel_rfl)
theorem sl_41 (i1 i2 i3 i4 : Iv) (s1 s2 s3 s4 : Int)
    (S : Sp Tryz.prog 44 [] [qV a b c, ivV F T oF oT] (.tuple #[row 0 4, nV 0]) [(4, pcs [(i1, s1), (i2, s2), (i3, s3), (i4, s4)])])
    (Fa : Sp Tryz.prog 45 [] [ivV F T oF oT] (nV 0) [])
    (Pa : Sp Tryz.prog 46 [] [qV a b c, ivV F T oF oT] (row 0 4) [(4, pcs [(i1, s1), (i2, s2), (i3, s3), (i4, s4)])])
    (C1 : Sp Tryz.prog 47 [] [ivV i1.F i1.T i1.oF i1.oT, rlV x] (.bool true) [])
    (C2 : Sp Tryz.prog 47 [] [ivV i2.F i2.T i2.oF i2.oT, rlV x] (.bool false) [])
    (C3 : Sp Tryz.prog 47 [] [ivV i3.F i3.T i3.oF i3.oT, rlV x] (.bool false) [])
    (C4 : Sp Tryz.prog 47 [] [ivV i4.F i4.T i4.oF i4.oT, rlV x] (.bool false) [])
    (SA : Sp Tryz.prog 38 [] [qV a b c, rlV x] (nV s1) [])
    (CI : Sp Tryz.prog 47 [] [ivV F T oF oT, rlV x] (.bool true) []) :
    Sp Tryz.prog 7 [] [fnV n1 d1 n2 d2 n3 d3, spV m1 e1 m2 e2 g1 m3 e3 m4 e4 g2 oF oT, tmV j1 c1 j2 c2 g3] (.bool true) [] := by
 have b1 := sameI' i1.F i1.T i1.oF i1.oT
 have f1 : (s1 != s1) = false := by simp
 have b2 := sameI' i2.F i2.T i2.oF i2.oT
 have f2 : (s2 != s2) = false := by simp
 have b3 := sameI' i3.F i3.T i3.oF i3.oT
 have f3 : (s3 != s3) = false := by simp
 have b4 := sameI' i4.F i4.T i4.oF i4.oT
 have f4 : (s4 != s4) = false := by simp
 obtain ⟨Fp, Fr, Fn⟩ := F
 obtain ⟨Tp, Tr, Tn⟩ := T
 obtain ⟨xp, xr, xn⟩ := x
 obtain ⟨⟨p1, q1, w1⟩, ⟨u1, v1, y1⟩, z1, t1⟩ := i1
 obtain ⟨⟨p2, q2, w2⟩, ⟨u2, v2, y2⟩, z2, t2⟩ := i2
 obtain ⟨⟨p3, q3, w3⟩, ⟨u3, v3, y3⟩, z3, t3⟩ := i3
 obtain ⟨⟨p4, q4, w4⟩, ⟨u4, v4, y4⟩, z4, t4⟩ := i4
 dsimp only at *
 exact walk (code := Tryz.f7.body.getD .skip) [Sy.c Q, Sy.c I, Sy.c X, cr S, Sy.c K, Sy.c Fa, cr Pa, L, L, L, x2 b1, eb f1, Sy.c C1, Sy.c SA, eb f1, L, L, x2 b2, eb f2, Sy.c C2, L, L, x2 b3, eb f3, Sy.c C3, L, L, x2 b4, eb f4, Sy.c C4, Sy.c CI] fol Tryz.func7 (by kernel_rfl) (fun xs w => Tryz.call7 xs w) (by kernel_rfl)
theorem sl_42 (i1 i2 i3 i4 : Iv) (s1 s2 s3 s4 : Int)
    (S : Sp Tryz.prog 44 [] [qV a b c, ivV F T oF oT] (.tuple #[row 0 4, nV 0]) [(4, pcs [(i1, s1), (i2, s2), (i3, s3), (i4, s4)])])
    (Fa : Sp Tryz.prog 45 [] [ivV F T oF oT] (nV 0) [])
    (Pa : Sp Tryz.prog 46 [] [qV a b c, ivV F T oF oT] (row 0 4) [(4, pcs [(i1, s1), (i2, s2), (i3, s3), (i4, s4)])])
    (C1 : Sp Tryz.prog 47 [] [ivV i1.F i1.T i1.oF i1.oT, rlV x] (.bool false) [])
    (C2 : Sp Tryz.prog 47 [] [ivV i2.F i2.T i2.oF i2.oT, rlV x] (.bool true) [])
    (C3 : Sp Tryz.prog 47 [] [ivV i3.F i3.T i3.oF i3.oT, rlV x] (.bool false) [])
    (C4 : Sp Tryz.prog 47 [] [ivV i4.F i4.T i4.oF i4.oT, rlV x] (.bool false) [])
    (SA : Sp Tryz.prog 38 [] [qV a b c, rlV x] (nV s2) [])
    (CI : Sp Tryz.prog 47 [] [ivV F T oF oT, rlV x] (.bool true) []) :
    Sp Tryz.prog 7 [] [fnV n1 d1 n2 d2 n3 d3, spV m1 e1 m2 e2 g1 m3 e3 m4 e4 g2 oF oT, tmV j1 c1 j2 c2 g3] (.bool true) [] := by
 have b1 := sameI' i1.F i1.T i1.oF i1.oT
 have f1 : (s1 != s1) = false := by simp
 have b2 := sameI' i2.F i2.T i2.oF i2.oT
 have f2 : (s2 != s2) = false := by simp
 have b3 := sameI' i3.F i3.T i3.oF i3.oT
 have f3 : (s3 != s3) = false := by simp
 have b4 := sameI' i4.F i4.T i4.oF i4.oT
 have f4 : (s4 != s4) = false := by simp
 obtain ⟨Fp, Fr, Fn⟩ := F
 obtain ⟨Tp, Tr, Tn⟩ := T
 obtain ⟨xp, xr, xn⟩ := x
 obtain ⟨⟨p1, q1, w1⟩, ⟨u1, v1, y1⟩, z1, t1⟩ := i1
 obtain ⟨⟨p2, q2, w2⟩, ⟨u2, v2, y2⟩, z2, t2⟩ := i2
 obtain ⟨⟨p3, q3, w3⟩, ⟨u3, v3, y3⟩, z3, t3⟩ := i3
 obtain ⟨⟨p4, q4, w4⟩, ⟨u4, v4, y4⟩, z4, t4⟩ := i4
 dsimp only at *
 exact walk (code := Tryz.f7.body.getD .skip) [Sy.c Q, Sy.c I, Sy.c X, cr S, Sy.c K, Sy.c Fa, cr Pa, L, L, L, x2 b1, eb f1, Sy.c C1, L, L, x2 b2, eb f2, Sy.c C2, Sy.c SA, eb f2, L, L, x2 b3, eb f3, Sy.c C3, L, L, x2 b4, eb f4, Sy.c C4, Sy.c CI] fol Tryz.func7 (by kernel_rfl) (fun xs w => Tryz.call7 xs w) (by kernel_rfl)
theorem sl_43 (i1 i2 i3 i4 : Iv) (s1 s2 s3 s4 : Int)
    (S : Sp Tryz.prog 44 [] [qV a b c, ivV F T oF oT] (.tuple #[row 0 4, nV 0]) [(4, pcs [(i1, s1), (i2, s2), (i3, s3), (i4, s4)])])
    (Fa : Sp Tryz.prog 45 [] [ivV F T oF oT] (nV 0) [])
    (Pa : Sp Tryz.prog 46 [] [qV a b c, ivV F T oF oT] (row 0 4) [(4, pcs [(i1, s1), (i2, s2), (i3, s3), (i4, s4)])])
    (C1 : Sp Tryz.prog 47 [] [ivV i1.F i1.T i1.oF i1.oT, rlV x] (.bool false) [])
    (C2 : Sp Tryz.prog 47 [] [ivV i2.F i2.T i2.oF i2.oT, rlV x] (.bool false) [])
    (C3 : Sp Tryz.prog 47 [] [ivV i3.F i3.T i3.oF i3.oT, rlV x] (.bool true) [])
    (C4 : Sp Tryz.prog 47 [] [ivV i4.F i4.T i4.oF i4.oT, rlV x] (.bool false) [])
    (SA : Sp Tryz.prog 38 [] [qV a b c, rlV x] (nV s3) [])
    (CI : Sp Tryz.prog 47 [] [ivV F T oF oT, rlV x] (.bool true) []) :
    Sp Tryz.prog 7 [] [fnV n1 d1 n2 d2 n3 d3, spV m1 e1 m2 e2 g1 m3 e3 m4 e4 g2 oF oT, tmV j1 c1 j2 c2 g3] (.bool true) [] := by
 have b1 := sameI' i1.F i1.T i1.oF i1.oT
 have f1 : (s1 != s1) = false := by simp
 have b2 := sameI' i2.F i2.T i2.oF i2.oT
 have f2 : (s2 != s2) = false := by simp
 have b3 := sameI' i3.F i3.T i3.oF i3.oT
 have f3 : (s3 != s3) = false := by simp
 have b4 := sameI' i4.F i4.T i4.oF i4.oT
 have f4 : (s4 != s4) = false := by simp
 obtain ⟨Fp, Fr, Fn⟩ := F
 obtain ⟨Tp, Tr, Tn⟩ := T
 obtain ⟨xp, xr, xn⟩ := x
 obtain ⟨⟨p1, q1, w1⟩, ⟨u1, v1, y1⟩, z1, t1⟩ := i1
 obtain ⟨⟨p2, q2, w2⟩, ⟨u2, v2, y2⟩, z2, t2⟩ := i2
 obtain ⟨⟨p3, q3, w3⟩, ⟨u3, v3, y3⟩, z3, t3⟩ := i3
 obtain ⟨⟨p4, q4, w4⟩, ⟨u4, v4, y4⟩, z4, t4⟩ := i4
 dsimp only at *
 exact walk (code := Tryz.f7.body.getD .skip) [Sy.c Q, Sy.c I, Sy.c X, cr S, Sy.c K, Sy.c Fa, cr Pa, L, L, L, x2 b1, eb f1, Sy.c C1, L, L, x2 b2, eb f2, Sy.c C2, L, L, x2 b3, eb f3, Sy.c C3, Sy.c SA, eb f3, L, L, x2 b4, eb f4, Sy.c C4, Sy.c CI] fol Tryz.func7 (by kernel_rfl) (fun xs w => Tryz.call7 xs w) (by kernel_rfl)
theorem sl_44 (i1 i2 i3 i4 : Iv) (s1 s2 s3 s4 : Int)
    (S : Sp Tryz.prog 44 [] [qV a b c, ivV F T oF oT] (.tuple #[row 0 4, nV 0]) [(4, pcs [(i1, s1), (i2, s2), (i3, s3), (i4, s4)])])
    (Fa : Sp Tryz.prog 45 [] [ivV F T oF oT] (nV 0) [])
    (Pa : Sp Tryz.prog 46 [] [qV a b c, ivV F T oF oT] (row 0 4) [(4, pcs [(i1, s1), (i2, s2), (i3, s3), (i4, s4)])])
    (C1 : Sp Tryz.prog 47 [] [ivV i1.F i1.T i1.oF i1.oT, rlV x] (.bool false) [])
    (C2 : Sp Tryz.prog 47 [] [ivV i2.F i2.T i2.oF i2.oT, rlV x] (.bool false) [])
    (C3 : Sp Tryz.prog 47 [] [ivV i3.F i3.T i3.oF i3.oT, rlV x] (.bool false) [])
    (C4 : Sp Tryz.prog 47 [] [ivV i4.F i4.T i4.oF i4.oT, rlV x] (.bool true) [])
    (SA : Sp Tryz.prog 38 [] [qV a b c, rlV x] (nV s4) [])
    (CI : Sp Tryz.prog 47 [] [ivV F T oF oT, rlV x] (.bool true) []) :
    Sp Tryz.prog 7 [] [fnV n1 d1 n2 d2 n3 d3, spV m1 e1 m2 e2 g1 m3 e3 m4 e4 g2 oF oT, tmV j1 c1 j2 c2 g3] (.bool true) [] := by
 have b1 := sameI' i1.F i1.T i1.oF i1.oT
 have f1 : (s1 != s1) = false := by simp
 have b2 := sameI' i2.F i2.T i2.oF i2.oT
 have f2 : (s2 != s2) = false := by simp
 have b3 := sameI' i3.F i3.T i3.oF i3.oT
 have f3 : (s3 != s3) = false := by simp
 have b4 := sameI' i4.F i4.T i4.oF i4.oT
 have f4 : (s4 != s4) = false := by simp
 obtain ⟨Fp, Fr, Fn⟩ := F
 obtain ⟨Tp, Tr, Tn⟩ := T
 obtain ⟨xp, xr, xn⟩ := x
 obtain ⟨⟨p1, q1, w1⟩, ⟨u1, v1, y1⟩, z1, t1⟩ := i1
 obtain ⟨⟨p2, q2, w2⟩, ⟨u2, v2, y2⟩, z2, t2⟩ := i2
 obtain ⟨⟨p3, q3, w3⟩, ⟨u3, v3, y3⟩, z3, t3⟩ := i3
 obtain ⟨⟨p4, q4, w4⟩, ⟨u4, v4, y4⟩, z4, t4⟩ := i4
 dsimp only at *
 exact walk (code := Tryz.f7.body.getD .skip) [Sy.c Q, Sy.c I, Sy.c X, cr S, Sy.c K, Sy.c Fa, cr Pa, L, L, L, x2 b1, eb f1, Sy.c C1, L, L, x2 b2, eb f2, Sy.c C2, L, L, x2 b3, eb f3, Sy.c C3, L, L, x2 b4, eb f4, Sy.c C4, Sy.c SA, eb f4, Sy.c CI] fol Tryz.func7 (by kernel_rfl) (fun xs w => Tryz.call7 xs w) (by kernel_rfl)
theorem sl_50 (i1 i2 i3 i4 i5 : Iv) (s1 s2 s3 s4 s5 : Int)
    (S : Sp Tryz.prog 44 [] [qV a b c, ivV F T oF oT] (.tuple #[row 0 5, nV 0]) [(5, pcs [(i1, s1), (i2, s2), (i3, s3), (i4, s4), (i5, s5)])])
    (Fa : Sp Tryz.prog 45 [] [ivV F T oF oT] (nV 0) [])
    (Pa : Sp Tryz.prog 46 [] [qV a b c, ivV F T oF oT] (row 0 5) [(5, pcs [(i1, s1), (i2, s2), (i3, s3), (i4, s4), (i5, s5)])])
    (C1 : Sp Tryz.prog 47 [] [ivV i1.F i1.T i1.oF i1.oT, rlV x] (.bool false) [])
    (C2 : Sp Tryz.prog 47 [] [ivV i2.F i2.T i2.oF i2.oT, rlV x] (.bool false) [])
    (C3 : Sp Tryz.prog 47 [] [ivV i3.F i3.T i3.oF i3.oT, rlV x] (.bool false) [])
    (C4 : Sp Tryz.prog 47 [] [ivV i4.F i4.T i4.oF i4.oT, rlV x] (.bool false) [])
    (C5 : Sp Tryz.prog 47 [] [ivV i5.F i5.T i5.oF i5.oT, rlV x] (.bool false) [])
    (CI : Sp Tryz.prog 47 [] [ivV F T oF oT, rlV x] (.bool false) []) :
    Sp Tryz.prog 7 [] [fnV n1 d1 n2 d2 n3 d3, spV m1 e1 m2 e2 g1 m3 e3 m4 e4 g2 oF oT, tmV j1 c1 j2 c2 g3] (.bool true) [] := by
 have b1 := sameI' i1.F i1.T i1.oF i1.oT
 have f1 : (s1 != s1) = false := by simp
 have b2 := sameI' i2.F i2.T i2.oF i2.oT
 have f2 : (s2 != s2) = false := by simp
 have b3 := sameI' i3.F i3.T i3.oF i3.oT
 have f3 : (s3 != s3) = false := by simp
 have b4 := sameI' i4.F i4.T i4.oF i4.oT
 have f4 : (s4 != s4) = false := by simp
 have b5 := sameI' i5.F i5.T i5.oF i5.oT
 have f5 : (s5 != s5) = false := by simp
 obtain ⟨Fp, Fr, Fn⟩ := F
 obtain ⟨Tp, Tr, Tn⟩ := T
 obtain ⟨xp, xr, xn⟩ := x
 obtain ⟨⟨p1, q1, w1⟩, ⟨u1, v1, y1⟩, z1, t1⟩ := i1
 obtain ⟨⟨p2, q2, w2⟩, ⟨u2, v2, y2⟩, z2, t2⟩ := i2
 obtain ⟨⟨p3, q3, w3⟩, ⟨u3, v3, y3⟩, z3, t3⟩ := i3
 obtain ⟨⟨p4, q4, w4⟩, ⟨u4, v4, y4⟩, z4, t4⟩ := i4
 obtain ⟨⟨p5, q5, w5⟩, ⟨u5, v5, y5⟩, z5, t5⟩ := i5
 dsimp only at *
 exact walk (code := Tryz.f7.body.getD .skip) [Sy.c Q, Sy.c I, Sy.c X, cr S, Sy.c K, Sy.c Fa, cr Pa, L, L, L, x2 b1, eb f1, Sy.c C1, L, L, x2 b2, eb f2, Sy.c C2, L, L, x2 b3, eb f3, Sy.c C3, L, L, x2 b4, eb f4, Sy.c C4, L, L, x2 b5, eb f5, Sy.c C5, Sy.c CI] fol Tryz.func7 (by kernel_rfl) (fun xs w => Tryz.call7 xs w) (by kernel_rfl)
theorem sl_51 (i1 i2 i3 i4 i5 : Iv) (s1 s2 s3 s4 s5 : Int)
    (S : Sp Tryz.prog 44 [] [qV a b c, ivV F T oF oT] (.tuple #[row 0 5, nV 0]) [(5, pcs [(i1, s1), (i2, s2), (i3, s3), (i4, s4), (i5, s5)])])
    (Fa : Sp Tryz.prog 45 [] [ivV F T oF oT] (nV 0) [])
    (Pa : Sp Tryz.prog 46 [] [qV a b c, ivV F T oF oT] (row 0 5) [(5, pcs [(i1, s1), (i2, s2), (i3, s3), (i4, s4), (i5, s5)])])
    (C1 : Sp Tryz.prog 47 [] [ivV i1.F i1.T i1.oF i1.oT, rlV x] (.bool true) [])
    (C2 : Sp Tryz.prog 47 [] [ivV i2.F i2.T i2.oF i2.oT, rlV x] (.bool false) [])
    (C3 : Sp Tryz.prog 47 [] [ivV i3.F i3.T i3.oF i3.oT, rlV x] (.bool false) [])
    (C4 : Sp Tryz.prog 47 [] [ivV i4.F i4.T i4.oF i4.oT, rlV x] (.bool false) [])
    (C5 : Sp Tryz.prog 47 [] [ivV i5.F i5.T i5.oF i5.oT, rlV x] (.bool false) [])
    (SA : Sp Tryz.prog 38 [] [qV a b c, rlV x] (nV s1) [])
    (CI : Sp Tryz.prog 47 [] [ivV F T oF oT, rlV x] (.bool true) []) :
    Sp Tryz.prog 7 [] [fnV n1 d1 n2 d2 n3 d3, spV m1 e1 m2 e2 g1 m3 e3 m4 e4 g2 oF oT, tmV j1 c1 j2 c2 g3] (.bool true) [] := by
 have b1 := sameI' i1.F i1.T i1.oF i1.oT
 have f1 : (s1 != s1) = false := by simp
 have b2 := sameI' i2.F i2.T i2.oF i2.oT
 have f2 : (s2 != s2) = false := by simp
 have b3 := sameI' i3.F i3.T i3.oF i3.oT
 have f3 : (s3 != s3) = false := by simp
 have b4 := sameI' i4.F i4.T i4.oF i4.oT
 have f4 : (s4 != s4) = false := by simp
 have b5 := sameI' i5.F i5.T i5.oF i5.oT
 have f5 : (s5 != s5) = false := by simp
 obtain ⟨Fp, Fr, Fn⟩ := F
 obtain ⟨Tp, Tr, Tn⟩ := T
 obtain ⟨xp, xr, xn⟩ := x
 obtain ⟨⟨p1, q1, w1⟩, ⟨u1, v1, y1⟩, z1, t1⟩ := i1
 obtain ⟨⟨p2, q2, w2⟩, ⟨u2, v2, y2⟩, z2, t2⟩ := i2
 obtain ⟨⟨p3, q3, w3⟩, ⟨u3, v3, y3⟩, z3, t3⟩ := i3
 obtain ⟨⟨p4, q4, w4⟩, ⟨u4, v4, y4⟩, z4, t4⟩ := i4
 obtain ⟨⟨p5, q5, w5⟩, ⟨u5, v5, y5⟩, z5, t5⟩ := i5
 dsimp only at *
 exact walk (code := Tryz.f7.body.getD .skip) [Sy.c Q, Sy.c I, Sy.c X, cr S, Sy.c K, Sy.c Fa, cr Pa, L, L, L, x2 b1, eb f1, Sy.c C1, Sy.c SA, eb f1, L, L, x2 b2, eb f2, Sy.c C2, L, L, x2 b3, eb f3, Sy.c C3, L, L, x2 b4, eb f4, Sy.c C4, L, L, x2 b5, eb f5, Sy.c C5, Sy.c CI] fol Tryz.func7 (by kernel_rfl) (fun xs w => Tryz.call7 xs w) (by kernel_rfl)
theorem sl_52 (i1 i2 i3 i4 i5 : Iv) (s1 s2 s3 s4 s5 : Int)
    (S : Sp Tryz.prog 44 [] [qV a b c, ivV F T oF oT] (.tuple #[row 0 5, nV 0]) [(5, pcs [(i1, s1), (i2, s2), (i3, s3), (i4, s4), (i5, s5)])])
    (Fa : Sp Tryz.prog 45 [] [ivV F T oF oT] (nV 0) [])
    (Pa : Sp Tryz.prog 46 [] [qV a b c, ivV F T oF oT] (row 0 5) [(5, pcs [(i1, s1), (i2, s2), (i3, s3), (i4, s4), (i5, s5)])])
    (C1 : Sp Tryz.prog 47 [] [ivV i1.F i1.T i1.oF i1.oT, rlV x] (.bool false) [])
    (C2 : Sp Tryz.prog 47 [] [ivV i2.F i2.T i2.oF i2.oT, rlV x] (.bool true) [])
    (C3 : Sp Tryz.prog 47 [] [ivV i3.F i3.T i3.oF i3.oT, rlV x] (.bool false) [])
    (C4 : Sp Tryz.prog 47 [] [ivV i4.F i4.T i4.oF i4.oT, rlV x] (.bool false) [])
    (C5 : Sp Tryz.prog 47 [] [ivV i5.F i5.T i5.oF i5.oT, rlV x] (.bool false) [])
    (SA : Sp Tryz.prog 38 [] [qV a b c, rlV x] (nV s2) [])
    (CI : Sp Tryz.prog 47 [] [ivV F T oF oT, rlV x] (.bool true) []) :
    Sp Tryz.prog 7 [] [fnV n1 d1 n2 d2 n3 d3, spV m1 e1 m2 e2 g1 m3 e3 m4 e4 g2 oF oT, tmV j1 c1 j2 c2 g3] (.bool true) [] := by
 have b1 := sameI' i1.F i1.T i1.oF i1.oT
 have f1 : (s1 != s1) = false := by simp
 have b2 := sameI' i2.F i2.T i2.oF i2.oT
 have f2 : (s2 != s2) = false := by simp
 have b3 := sameI' i3.F i3.T i3.oF i3.oT
 have f3 : (s3 != s3) = false := by simp
 have b4 := sameI' i4.F i4.T i4.oF i4.oT
 have f4 : (s4 != s4) = false := by simp
 have b5 := sameI' i5.F i5.T i5.oF i5.oT
 have f5 : (s5 != s5) = false := by simp
 obtain ⟨Fp, Fr, Fn⟩ := F
 obtain ⟨Tp, Tr, Tn⟩ := T
 obtain ⟨xp, xr, xn⟩ := x
 obtain ⟨⟨p1, q1, w1⟩, ⟨u1, v1, y1⟩, z1, t1⟩ := i1
 obtain ⟨⟨p2, q2, w2⟩, ⟨u2, v2, y2⟩, z2, t2⟩ := i2
 obtain ⟨⟨p3, q3, w3⟩, ⟨u3, v3, y3⟩, z3, t3⟩ := i3
 obtain ⟨⟨p4, q4, w4⟩, ⟨u4, v4, y4⟩, z4, t4⟩ := i4
 obtain ⟨⟨p5, q5, w5⟩, ⟨u5, v5, y5⟩, z5, t5⟩ := i5
 dsimp only at *
 exact walk (code := Tryz.f7.body.getD .skip) [Sy.c Q, Sy.c I, Sy.c X, cr S, Sy.c K, Sy.c Fa, cr Pa, L, L, L, x2 b1, eb f1, Sy.c C1, L, L, x2 b2, eb f2, Sy.c C2, Sy.c SA, eb f2, L, L, x2 b3, eb f3, Sy.c C3, L, L, x2 b4, eb f4, Sy.c C4, L, L, x2 b5, eb f5, Sy.c C5, Sy.c CI] fol Tryz.func7 (by kernel_rfl) (fun xs w => Tryz.call7 xs w) (by kernel_rfl)
theorem sl_53 (i1 i2 i3 i4 i5 : Iv) (s1 s2 s3 s4 s5 : Int)
    (S : Sp Tryz.prog 44 [] [qV a b c, ivV F T oF oT] (.tuple #[row 0 5, nV 0]) [(5, pcs [(i1, s1), (i2, s2), (i3, s3), (i4, s4), (i5, s5)])])
    (Fa : Sp Tryz.prog 45 [] [ivV F T oF oT] (nV 0) [])
    (Pa : Sp Tryz.prog 46 [] [qV a b c, ivV F T oF oT] (row 0 5) [(5, pcs [(i1, s1), (i2, s2), (i3, s3), (i4, s4), (i5, s5)])])
    (C1 : Sp Tryz.prog 47 [] [ivV i1.F i1.T i1.oF i1.oT, rlV x] (.bool false) [])
    (C2 : Sp Tryz.prog 47 [] [ivV i2.F i2.T i2.oF i2.oT, rlV x] (.bool false) [])
    (C3 : Sp Tryz.prog 47 [] [ivV i3.F i3.T i3.oF i3.oT, rlV x] (.bool true) [])
    (C4 : Sp Tryz.prog 47 [] [ivV i4.F i4.T i4.oF i4.oT, rlV x] (.bool false) [])
    (C5 : Sp Tryz.prog 47 [] [ivV i5.F i5.T i5.oF i5.oT, rlV x] (.bool false) [])
    (SA : Sp Tryz.prog 38 [] [qV a b c, rlV x] (nV s3) [])
    (CI : Sp Tryz.prog 47 [] [ivV F T oF oT, rlV x] (.bool true) []) :
    Sp Tryz.prog 7 [] [fnV n1 d1 n2 d2 n3 d3, spV m1 e1 m2 e2 g1 m3 e3 m4 e4 g2 oF oT, tmV j1 c1 j2 c2 g3] (.bool true) [] := by
 have b1 := sameI' i1.F i1.T i1.oF i1.oT
 have f1 : (s1 != s1) = false := by simp
 have b2 := sameI' i2.F i2.T i2.oF i2.oT
 have f2 : (s2 != s2) = false := by simp
 have b3 := sameI' i3.F i3.T i3.oF i3.oT
 have f3 : (s3 != s3) = false := by simp
 have b4 := sameI' i4.F i4.T i4.oF i4.oT
 have f4 : (s4 != s4) = false := by simp
 have b5 := sameI' i5.F i5.T i5.oF i5.oT
 have f5 : (s5 != s5) = false := by simp
 obtain ⟨Fp, Fr, Fn⟩ := F
 obtain ⟨Tp, Tr, Tn⟩ := T
 obtain ⟨xp, xr, xn⟩ := x
 obtain ⟨⟨p1, q1, w1⟩, ⟨u1, v1, y1⟩, z1, t1⟩ := i1
 obtain ⟨⟨p2, q2, w2⟩, ⟨u2, v2, y2⟩, z2, t2⟩ := i2
 obtain ⟨⟨p3, q3, w3⟩, ⟨u3, v3, y3⟩, z3, t3⟩ := i3
 obtain ⟨⟨p4, q4, w4⟩, ⟨u4, v4, y4⟩, z4, t4⟩ := i4
 obtain ⟨⟨p5, q5, w5⟩, ⟨u5, v5, y5⟩, z5, t5⟩ := i5
 dsimp only at *
 exact walk (code := Tryz.f7.body.getD .skip) [Sy.c Q, Sy.c I, Sy.c X, cr S, Sy.c K, Sy.c Fa, cr Pa, L, L, L, x2 b1, eb f1, Sy.c C1, L, L, x2 b2, eb f2, Sy.c C2, L, L, x2 b3, eb f3, Sy.c C3, Sy.c SA, eb f3, L, L, x2 b4, eb f4, Sy.c C4, L, L, x2 b5, eb f5, Sy.c C5, Sy.c CI] fol Tryz.func7 (by kernel_rfl) (fun xs w => Tryz.call7 xs w) (by kernel_rfl)
theorem sl_54 (i1 i2 i3 i4 i5 : Iv) (s1 s2 s3 s4 s5 : Int)
    (S : Sp Tryz.prog 44 [] [qV a b c, ivV F T oF oT] (.tuple #[row 0 5, nV 0]) [(5, pcs [(i1, s1), (i2, s2), (i3, s3), (i4, s4), (i5, s5)])])
    (Fa : Sp Tryz.prog 45 [] [ivV F T oF oT] (nV 0) [])
    (Pa : Sp Tryz.prog 46 [] [qV a b c, ivV F T oF oT] (row 0 5) [(5, pcs [(i1, s1), (i2, s2), (i3, s3), (i4, s4), (i5, s5)])])
    (C1 : Sp Tryz.prog 47 [] [ivV i1.F i1.T i1.oF i1.oT, rlV x] (.bool false) [])
    (C2 : Sp Tryz.prog 47 [] [ivV i2.F i2.T i2.oF i2.oT, rlV x] (.bool false) [])
    (C3 : Sp Tryz.prog 47 [] [ivV i3.F i3.T i3.oF i3.oT, rlV x] (.bool false) [])
    (C4 : Sp Tryz.prog 47 [] [ivV i4.F i4.T i4.oF i4.oT, rlV x] (.bool true) [])
    (C5 : Sp Tryz.prog 47 [] [ivV i5.F i5.T i5.oF i5.oT, rlV x] (.bool false) [])
    (SA : Sp Tryz.prog 38 [] [qV a b c, rlV x] (nV s4) [])
    (CI : Sp Tryz.prog 47 [] [ivV F T oF oT, rlV x] (.bool true) []) :
    Sp Tryz.prog 7 [] [fnV n1 d1 n2 d2 n3 d3, spV m1 e1 m2 e2 g1 m3 e3 m4 e4 g2 oF oT, tmV j1 c1 j2 c2 g3] (.bool true) [] := by
 have b1 := sameI' i1.F i1.T i1.oF i1.oT
 have f1 : (s1 != s1) = false := by simp
 have b2 := sameI' i2.F i2.T i2.oF i2.oT
 have f2 : (s2 != s2) = false := by simp
 have b3 := sameI' i3.F i3.T i3.oF i3.oT
 have f3 : (s3 != s3) = false := by simp
 have b4 := sameI' i4.F i4.T i4.oF i4.oT
 have f4 : (s4 != s4) = false := by simp
 have b5 := sameI' i5.F i5.T i5.oF i5.oT
 have f5 : (s5 != s5) = false := by simp
 obtain ⟨Fp, Fr, Fn⟩ := F
 obtain ⟨Tp, Tr, Tn⟩ := T
 obtain ⟨xp, xr, xn⟩ := x
 obtain ⟨⟨p1, q1, w1⟩, ⟨u1, v1, y1⟩, z1, t1⟩ := i1
 obtain ⟨⟨p2, q2, w2⟩, ⟨u2, v2, y2⟩, z2, t2⟩ := i2
 obtain ⟨⟨p3, q3, w3⟩, ⟨u3, v3, y3⟩, z3, t3⟩ := i3
 obtain ⟨⟨p4, q4, w4⟩, ⟨u4, v4, y4⟩, z4, t4⟩ := i4
 obtain ⟨⟨p5, q5, w5⟩, ⟨u5, v5, y5⟩, z5, t5⟩ := i5
 dsimp only at *
 exact walk (code := Tryz.f7.body.getD .skip) [Sy.c Q, Sy.c I, Sy.c X, cr S, Sy.c K, Sy.c Fa, cr Pa, L, L, L, x2 b1, eb f1, Sy.c C1, L, L, x2 b2, eb f2, Sy.c C2, L, L, x2 b3, eb f3, Sy.c C3, L, L, x2 b4, eb f4, Sy.c C4, Sy.c SA, eb f4, L, L, x2 b5, eb f5, Sy.c C5, Sy.c CI] fol Tryz.func7 (by kernel_rfl) (fun xs w => Tryz.call7 xs w) (by kernel_rfl)
theorem sl_55 (i1 i2 i3 i4 i5 : Iv) (s1 s2 s3 s4 s5 : Int)
    (S : Sp Tryz.prog 44 [] [qV a b c, ivV F T oF oT] (.tuple #[row 0 5, nV 0]) [(5, pcs [(i1, s1), (i2, s2), (i3, s3), (i4, s4), (i5, s5)])])
    (Fa : Sp Tryz.prog 45 [] [ivV F T oF oT] (nV 0) [])
    (Pa : Sp Tryz.prog 46 [] [qV a b c, ivV F T oF oT] (row 0 5) [(5, pcs [(i1, s1), (i2, s2), (i3, s3), (i4, s4), (i5, s5)])])
    (C1 : Sp Tryz.prog 47 [] [ivV i1.F i1.T i1.oF i1.oT, rlV x] (.bool false) [])
    (C2 : Sp Tryz.prog 47 [] [ivV i2.F i2.T i2.oF i2.oT, rlV x] (.bool false) [])
    (C3 : Sp Tryz.prog 47 [] [ivV i3.F i3.T i3.oF i3.oT, rlV x] (.bool false) [])
    (C4 : Sp Tryz.prog 47 [] [ivV i4.F i4.T i4.oF i4.oT, rlV x] (.bool false) [])
    (C5 : Sp Tryz.prog 47 [] [ivV i5.F i5.T i5.oF i5.oT, rlV x] (.bool true) [])
    (SA : Sp Tryz.prog 38 [] [qV a b c, rlV x] (nV s5) [])
    (CI : Sp Tryz.prog 47 [] [ivV F T oF oT, rlV x] (.bool true) []) :
    Sp Tryz.prog 7 [] [fnV n1 d1 n2 d2 n3 d3, spV m1 e1 m2 e2 g1 m3 e3 m4 e4 g2 oF oT, tmV j1 c1 j2 c2 g3] (.bool true) [] := by
 have b1 := sameI' i1.F i1.T i1.oF i1.oT
 have f1 : (s1 != s1) = false := by simp
 have b2 := sameI' i2.F i2.T i2.oF i2.oT
 have f2 : (s2 != s2) = false := by simp
 have b3 := sameI' i3.F i3.T i3.oF i3.oT
 have f3 : (s3 != s3) = false := by simp
 have b4 := sameI' i4.F i4.T i4.oF i4.oT
 have f4 : (s4 != s4) = false := by simp
 have b5 := sameI' i5.F i5.T i5.oF i5.oT
 have f5 : (s5 != s5) = false := by simp
 obtain ⟨Fp, Fr, Fn⟩ := F
 obtain ⟨Tp, Tr, Tn⟩ := T
 obtain ⟨xp, xr, xn⟩ := x
 obtain ⟨⟨p1, q1, w1⟩, ⟨u1, v1, y1⟩, z1, t1⟩ := i1
 obtain ⟨⟨p2, q2, w2⟩, ⟨u2, v2, y2⟩, z2, t2⟩ := i2
 obtain ⟨⟨p3, q3, w3⟩, ⟨u3, v3, y3⟩, z3, t3⟩ := i3
 obtain ⟨⟨p4, q4, w4⟩, ⟨u4, v4, y4⟩, z4, t4⟩ := i4
 obtain ⟨⟨p5, q5, w5⟩, ⟨u5, v5, y5⟩, z5, t5⟩ := i5
 dsimp only at *
 exact walk (code := Tryz.f7.body.getD .skip) [Sy.c Q, Sy.c I, Sy.c X, cr S, Sy.c K, Sy.c Fa, cr Pa, L, L, L, x2 b1, eb f1, Sy.c C1, L, L, x2 b2, eb f2, Sy.c C2, L, L, x2 b3, eb f3, Sy.c C3, L, L, x2 b4, eb f4, Sy.c C4, L, L, x2 b5, eb f5, Sy.c C5, Sy.c SA, eb f5, Sy.c CI] fol Tryz.func7 (by kernel_rfl) (fun xs w => Tryz.call7 xs w) (by kernel_rfl)
theorem sl_no
    (S : Sp Tryz.prog 44 [] [qV a b c, ivV F T oF oT] (.tuple #[.slice none 0 0, nV 10]) []) (Fa : Sp Tryz.prog 45 [] [ivV F T oF oT] (nV 10) []) :
    Sp Tryz.prog 7 [] [fnV n1 d1 n2 d2 n3 d3, spV m1 e1 m2 e2 g1 m3 e3 m4 e4 g2 oF oT, tmV j1 c1 j2 c2 g3] (.bool true) [] := by
 obtain ⟨Fp, Fr, Fn⟩ := F
 obtain ⟨Tp, Tr, Tn⟩ := T
 obtain ⟨xp, xr, xn⟩ := x
 exact walk (code := Tryz.f7.body.getD .skip) [Sy.c Q, Sy.c I, Sy.c X, Sy.c S, Sy.c K, Sy.c Fa] fol Tryz.func7 (by kernel_rfl) (fun xs w => Tryz.call7 xs w) (by kernel_rfl)
end
end Go.Proofs.YtlblfgbpogljoaaGreatDoor

end
section
/- Chapter 4's law about roots; what the other laws share. -/
namespace Go.Proofs.YtlblfgbpogljoaaGreatDoor
open Go Go.RowKit Go.Sy
open Vi
theorem cf_cof {n d : Int} (h : Cn n d) : Cof (cf n d) := ⟨(cf_small h).2, (cf_small h).1⟩
section
variable (n1 d1 n2 d2 n3 d3 : Int) (a b c : Rat) (K : Sp Tryz.prog 32 [] [] (.bool true) []) (Q : Sp Tryz.prog 29 [] [fnV n1 d1 n2 d2 n3 d3] (qV a b c) [])
include K Q
end
end Go.Proofs.YtlblfgbpogljoaaGreatDoor

end
section
/- Chapter 4's law about the parts of an interval. -/
namespace Go.Proofs.YtlblfgbpogljoaaGreatDoor
open Go Go.RowKit Go.Sy
open Vi
theorem inI {i : Iv} {x : Rl} (gF : Gd i.F) (gT : Gd i.T) (gx : Gd x) : (i.has x.val → Sp Tryz.prog 47 [] [ivV i.F i.T i.oF i.oT, rlV x] (.bool true) []) ∧ (¬ i.has x.val → Sp Tryz.prog 47 [] [ivV i.F i.T i.oF i.oT, rlV x] (.bool false) []) := by
 obtain ⟨a1, a2, a3⟩ := gF
 obtain ⟨b1, b2, b3⟩ := gT
 obtain ⟨c1, c2, c3⟩ := gx
 have C := vContains i.F i.T x i.oF i.oT a1.nonneg b1.nonneg c1.nonneg
 exact ⟨fun h => by rw [inC_yes a1 b1 c1 h] at C; exact C, fun h => by rw [inC_no a1 b1 c1 h] at C; exact C⟩
theorem sl_all (n1 d1 n2 d2 n3 d3 : Int) (m1 e1 m2 e2 : Int) (g1 : Bool) (m3 e3 m4 e4 : Int) (g2 : Bool) (j1 c1 j2 c2 : Int) (g3 : Bool) (oF oT : Bool) (a b c : Rat) (F T x : Rl) (K : Sp Tryz.prog 32 [] [] (.bool true) [])
    (Q : Sp Tryz.prog 29 [] [fnV n1 d1 n2 d2 n3 d3] (qV a b c) []) (I : Sp Tryz.prog 43 [] [spV m1 e1 m2 e2 g1 m3 e3 m4 e4 g2 oF oT] (ivV F T oF oT) []) (X : Sp Tryz.prog 31 [] [tmV j1 c1 j2 c2 g3] (rlV x) []) (I0 : Iv) (hI : I0 = ⟨F, T, oF, oT⟩) (gF : Gd F) (gT : Gd T) (gx : Gd x) (L : List (Iv × Int)) (l1 : 1 ≤ L.length) (l5 : L.length ≤ 5)
    (S : Sp Tryz.prog 44 [] [qV a b c, ivV F T oF oT] (.tuple #[row 0 L.length, nV 0]) [(L.length, pcs L)]) (Fa : Sp Tryz.prog 45 [] [ivV F T oF oT] (nV 0) []) (Pa : Sp Tryz.prog 46 [] [qV a b c, ivV F T oF oT] (row 0 L.length) [(L.length, pcs L)])
    (hg : ∀ p ∈ L, Gd p.1.F ∧ Gd p.1.T) (hf : found x.val L = (open Classical in if I0.has x.val then 1 else 0)) (v : Int) (SA : Sp Tryz.prog 38 [] [qV a b c, rlV x] (nV v) []) (hs : ∀ p ∈ L, p.1.has x.val → v = p.2) :
    Sp Tryz.prog 7 [] [fnV n1 d1 n2 d2 n3 d3, spV m1 e1 m2 e2 g1 m3 e3 m4 e4 g2 oF oT, tmV j1 c1 j2 c2 g3] (.bool true) [] := by
 subst hI
 have CI := inI (i := ⟨F, T, oF, oT⟩) gF gT gx
 have hC : ∀ p ∈ L, (p.1.has x.val → Sp Tryz.prog 47 [] [ivV p.1.F p.1.T p.1.oF p.1.oT, rlV x] (.bool true) []) ∧ (¬ p.1.has x.val → Sp Tryz.prog 47 [] [ivV p.1.F p.1.T p.1.oF p.1.oT, rlV x] (.bool false) []) := fun p hp => inI (hg p hp).1 (hg p hp).2 gx
 have e1 : ∀ {i : Iv}, i.has x.val → (open Classical in (if i.has x.val then 1 else 0 : Nat)) = 1 := fun h => if_pos h
 have e0 : ∀ {i : Iv}, ¬ i.has x.val → (open Classical in (if i.has x.val then 1 else 0 : Nat)) = 0 := fun h => if_neg h
 have le : (open Classical in (if Iv.has ⟨F, T, oF, oT⟩ x.val then 1 else 0 : Nat)) ≤ 1 := by split <;> omega
 have yes : (open Classical in (if Iv.has ⟨F, T, oF, oT⟩ x.val then 1 else 0 : Nat)) = 1 → Iv.has ⟨F, T, oF, oT⟩ x.val := fun h => by
  by_cases g : Iv.has ⟨F, T, oF, oT⟩ x.val
  ·exact g
  ·rw [e0 g] at h; cases h
 have no : (open Classical in (if Iv.has ⟨F, T, oF, oT⟩ x.val then 1 else 0 : Nat)) = 0 → ¬ Iv.has ⟨F, T, oF, oT⟩ x.val := fun h g => by rw [e1 g] at h; cases h
 rcases L with _ | ⟨p1, _ | ⟨p2, _ | ⟨p3, _ | ⟨p4, _ | ⟨p5, _ | ⟨p6, L⟩⟩⟩⟩⟩⟩
 ·simp at l1
 ·simp only [found] at hf
  obtain ⟨y1, n1⟩ := hC p1 (by simp)
  by_cases h1 : p1.1.has x.val
  ·obtain rfl := hs p1 (by simp) h1
   rw [e1 h1] at hf
   exact sl_11 (i1 := p1.1) (s1 := p1.2) (K := K) (Q := Q) (I := I) (X := X) (S := S) (Fa := Fa) (Pa := Pa) (C1 := y1 h1) (SA := SA) (CI := CI.1 (yes (by omega)))
  rw [e0 h1] at hf
  exact sl_10 (i1 := p1.1) (s1 := p1.2) (K := K) (Q := Q) (I := I) (X := X) (S := S) (Fa := Fa) (Pa := Pa) (C1 := n1 h1) (CI := CI.2 (no (by omega)))
 ·simp only [found] at hf
  obtain ⟨y1, n1⟩ := hC p1 (by simp)
  obtain ⟨y2, n2⟩ := hC p2 (by simp)
  by_cases h1 : p1.1.has x.val
  ·obtain rfl := hs p1 (by simp) h1
   rw [e1 h1] at hf
   have h2 : ¬ p2.1.has x.val := fun g => by rw [e1 g] at hf; omega
   exact sl_21 (i1 := p1.1) (s1 := p1.2) (i2 := p2.1) (s2 := p2.2) (K := K) (Q := Q) (I := I) (X := X) (S := S) (Fa := Fa) (Pa := Pa) (C1 := y1 h1) (C2 := n2 h2) (SA := SA) (CI := CI.1 (yes (by omega)))
  rw [e0 h1] at hf
  by_cases h2 : p2.1.has x.val
  ·obtain rfl := hs p2 (by simp) h2
   rw [e1 h2] at hf
   exact sl_22 (i1 := p1.1) (s1 := p1.2) (i2 := p2.1) (s2 := p2.2) (K := K) (Q := Q) (I := I) (X := X) (S := S) (Fa := Fa) (Pa := Pa) (C1 := n1 h1) (C2 := y2 h2) (SA := SA) (CI := CI.1 (yes (by omega)))
  rw [e0 h2] at hf
  exact sl_20 (i1 := p1.1) (s1 := p1.2) (i2 := p2.1) (s2 := p2.2) (K := K) (Q := Q) (I := I) (X := X) (S := S) (Fa := Fa) (Pa := Pa) (C1 := n1 h1) (C2 := n2 h2) (CI := CI.2 (no (by omega)))
 ·simp only [found] at hf
  obtain ⟨y1, n1⟩ := hC p1 (by simp)
  obtain ⟨y2, n2⟩ := hC p2 (by simp)
  obtain ⟨y3, n3⟩ := hC p3 (by simp)
  by_cases h1 : p1.1.has x.val
  ·obtain rfl := hs p1 (by simp) h1
   rw [e1 h1] at hf
   have h2 : ¬ p2.1.has x.val := fun g => by rw [e1 g] at hf; omega
   have h3 : ¬ p3.1.has x.val := fun g => by rw [e1 g] at hf; omega
   exact sl_31 (i1 := p1.1) (s1 := p1.2) (i2 := p2.1) (s2 := p2.2) (i3 := p3.1) (s3 := p3.2) (K := K) (Q := Q) (I := I) (X := X) (S := S) (Fa := Fa) (Pa := Pa) (C1 := y1 h1) (C2 := n2 h2) (C3 := n3 h3) (SA := SA) (CI := CI.1 (yes (by omega)))
  rw [e0 h1] at hf
  by_cases h2 : p2.1.has x.val
  ·obtain rfl := hs p2 (by simp) h2
   rw [e1 h2] at hf
   have h3 : ¬ p3.1.has x.val := fun g => by rw [e1 g] at hf; omega
   exact sl_32 (i1 := p1.1) (s1 := p1.2) (i2 := p2.1) (s2 := p2.2) (i3 := p3.1) (s3 := p3.2) (K := K) (Q := Q) (I := I) (X := X) (S := S) (Fa := Fa) (Pa := Pa) (C1 := n1 h1) (C2 := y2 h2) (C3 := n3 h3) (SA := SA) (CI := CI.1 (yes (by omega)))
  rw [e0 h2] at hf
  by_cases h3 : p3.1.has x.val
  ·obtain rfl := hs p3 (by simp) h3
   rw [e1 h3] at hf
   exact sl_33 (i1 := p1.1) (s1 := p1.2) (i2 := p2.1) (s2 := p2.2) (i3 := p3.1) (s3 := p3.2) (K := K) (Q := Q) (I := I) (X := X) (S := S) (Fa := Fa) (Pa := Pa) (C1 := n1 h1) (C2 := n2 h2) (C3 := y3 h3) (SA := SA) (CI := CI.1 (yes (by omega)))
  rw [e0 h3] at hf
  exact sl_30 (i1 := p1.1) (s1 := p1.2) (i2 := p2.1) (s2 := p2.2) (i3 := p3.1) (s3 := p3.2) (K := K) (Q := Q) (I := I) (X := X) (S := S) (Fa := Fa) (Pa := Pa) (C1 := n1 h1) (C2 := n2 h2) (C3 := n3 h3) (CI := CI.2 (no (by omega)))
 ·simp only [found] at hf
  obtain ⟨y1, n1⟩ := hC p1 (by simp)
  obtain ⟨y2, n2⟩ := hC p2 (by simp)
  obtain ⟨y3, n3⟩ := hC p3 (by simp)
  obtain ⟨y4, n4⟩ := hC p4 (by simp)
  by_cases h1 : p1.1.has x.val
  ·obtain rfl := hs p1 (by simp) h1
   rw [e1 h1] at hf
   have h2 : ¬ p2.1.has x.val := fun g => by rw [e1 g] at hf; omega
   have h3 : ¬ p3.1.has x.val := fun g => by rw [e1 g] at hf; omega
   have h4 : ¬ p4.1.has x.val := fun g => by rw [e1 g] at hf; omega
   exact sl_41 (i1 := p1.1) (s1 := p1.2) (i2 := p2.1) (s2 := p2.2) (i3 := p3.1) (s3 := p3.2) (i4 := p4.1) (s4 := p4.2) (K := K) (Q := Q) (I := I) (X := X) (S := S) (Fa := Fa) (Pa := Pa) (C1 := y1 h1) (C2 := n2 h2) (C3 := n3 h3) (C4 := n4 h4) (SA := SA) (CI := CI.1 (yes (by omega)))
  rw [e0 h1] at hf
  by_cases h2 : p2.1.has x.val
  ·obtain rfl := hs p2 (by simp) h2
   rw [e1 h2] at hf
   have h3 : ¬ p3.1.has x.val := fun g => by rw [e1 g] at hf; omega
   have h4 : ¬ p4.1.has x.val := fun g => by rw [e1 g] at hf; omega
   exact sl_42 (i1 := p1.1) (s1 := p1.2) (i2 := p2.1) (s2 := p2.2) (i3 := p3.1) (s3 := p3.2) (i4 := p4.1) (s4 := p4.2) (K := K) (Q := Q) (I := I) (X := X) (S := S) (Fa := Fa) (Pa := Pa) (C1 := n1 h1) (C2 := y2 h2) (C3 := n3 h3) (C4 := n4 h4) (SA := SA) (CI := CI.1 (yes (by omega)))
  rw [e0 h2] at hf
  by_cases h3 : p3.1.has x.val
  ·obtain rfl := hs p3 (by simp) h3
   rw [e1 h3] at hf
   have h4 : ¬ p4.1.has x.val := fun g => by rw [e1 g] at hf; omega
   exact sl_43 (i1 := p1.1) (s1 := p1.2) (i2 := p2.1) (s2 := p2.2) (i3 := p3.1) (s3 := p3.2) (i4 := p4.1) (s4 := p4.2) (K := K) (Q := Q) (I := I) (X := X) (S := S) (Fa := Fa) (Pa := Pa) (C1 := n1 h1) (C2 := n2 h2) (C3 := y3 h3) (C4 := n4 h4) (SA := SA) (CI := CI.1 (yes (by omega)))
  rw [e0 h3] at hf
  by_cases h4 : p4.1.has x.val
  ·obtain rfl := hs p4 (by simp) h4
   rw [e1 h4] at hf
   exact sl_44 (i1 := p1.1) (s1 := p1.2) (i2 := p2.1) (s2 := p2.2) (i3 := p3.1) (s3 := p3.2) (i4 := p4.1) (s4 := p4.2) (K := K) (Q := Q) (I := I) (X := X) (S := S) (Fa := Fa) (Pa := Pa) (C1 := n1 h1) (C2 := n2 h2) (C3 := n3 h3) (C4 := y4 h4) (SA := SA) (CI := CI.1 (yes (by omega)))
  rw [e0 h4] at hf
  exact sl_40 (i1 := p1.1) (s1 := p1.2) (i2 := p2.1) (s2 := p2.2) (i3 := p3.1) (s3 := p3.2) (i4 := p4.1) (s4 := p4.2) (K := K) (Q := Q) (I := I) (X := X) (S := S) (Fa := Fa) (Pa := Pa) (C1 := n1 h1) (C2 := n2 h2) (C3 := n3 h3) (C4 := n4 h4) (CI := CI.2 (no (by omega)))
 ·simp only [found] at hf
  obtain ⟨y1, n1⟩ := hC p1 (by simp)
  obtain ⟨y2, n2⟩ := hC p2 (by simp)
  obtain ⟨y3, n3⟩ := hC p3 (by simp)
  obtain ⟨y4, n4⟩ := hC p4 (by simp)
  obtain ⟨y5, n5⟩ := hC p5 (by simp)
  by_cases h1 : p1.1.has x.val
  ·obtain rfl := hs p1 (by simp) h1
   rw [e1 h1] at hf
   have h2 : ¬ p2.1.has x.val := fun g => by rw [e1 g] at hf; omega
   have h3 : ¬ p3.1.has x.val := fun g => by rw [e1 g] at hf; omega
   have h4 : ¬ p4.1.has x.val := fun g => by rw [e1 g] at hf; omega
   have h5 : ¬ p5.1.has x.val := fun g => by rw [e1 g] at hf; omega
   exact sl_51 (i1 := p1.1) (s1 := p1.2) (i2 := p2.1) (s2 := p2.2) (i3 := p3.1) (s3 := p3.2) (i4 := p4.1) (s4 := p4.2) (i5 := p5.1) (s5 := p5.2) (K := K) (Q := Q) (I := I) (X := X) (S := S) (Fa := Fa) (Pa := Pa) (C1 := y1 h1) (C2 := n2 h2) (C3 := n3 h3) (C4 := n4 h4) (C5 := n5 h5) (SA := SA) (CI := CI.1 (yes (by omega)))
  rw [e0 h1] at hf
  by_cases h2 : p2.1.has x.val
  ·obtain rfl := hs p2 (by simp) h2
   rw [e1 h2] at hf
   have h3 : ¬ p3.1.has x.val := fun g => by rw [e1 g] at hf; omega
   have h4 : ¬ p4.1.has x.val := fun g => by rw [e1 g] at hf; omega
   have h5 : ¬ p5.1.has x.val := fun g => by rw [e1 g] at hf; omega
   exact sl_52 (i1 := p1.1) (s1 := p1.2) (i2 := p2.1) (s2 := p2.2) (i3 := p3.1) (s3 := p3.2) (i4 := p4.1) (s4 := p4.2) (i5 := p5.1) (s5 := p5.2) (K := K) (Q := Q) (I := I) (X := X) (S := S) (Fa := Fa) (Pa := Pa) (C1 := n1 h1) (C2 := y2 h2) (C3 := n3 h3) (C4 := n4 h4) (C5 := n5 h5) (SA := SA) (CI := CI.1 (yes (by omega)))
  rw [e0 h2] at hf
  by_cases h3 : p3.1.has x.val
  ·obtain rfl := hs p3 (by simp) h3
   rw [e1 h3] at hf
   have h4 : ¬ p4.1.has x.val := fun g => by rw [e1 g] at hf; omega
   have h5 : ¬ p5.1.has x.val := fun g => by rw [e1 g] at hf; omega
   exact sl_53 (i1 := p1.1) (s1 := p1.2) (i2 := p2.1) (s2 := p2.2) (i3 := p3.1) (s3 := p3.2) (i4 := p4.1) (s4 := p4.2) (i5 := p5.1) (s5 := p5.2) (K := K) (Q := Q) (I := I) (X := X) (S := S) (Fa := Fa) (Pa := Pa) (C1 := n1 h1) (C2 := n2 h2) (C3 := y3 h3) (C4 := n4 h4) (C5 := n5 h5) (SA := SA) (CI := CI.1 (yes (by omega)))
  rw [e0 h3] at hf
  by_cases h4 : p4.1.has x.val
  ·obtain rfl := hs p4 (by simp) h4
   rw [e1 h4] at hf
   have h5 : ¬ p5.1.has x.val := fun g => by rw [e1 g] at hf; omega
   exact sl_54 (i1 := p1.1) (s1 := p1.2) (i2 := p2.1) (s2 := p2.2) (i3 := p3.1) (s3 := p3.2) (i4 := p4.1) (s4 := p4.2) (i5 := p5.1) (s5 := p5.2) (K := K) (Q := Q) (I := I) (X := X) (S := S) (Fa := Fa) (Pa := Pa) (C1 := n1 h1) (C2 := n2 h2) (C3 := n3 h3) (C4 := y4 h4) (C5 := n5 h5) (SA := SA) (CI := CI.1 (yes (by omega)))
  rw [e0 h4] at hf
  by_cases h5 : p5.1.has x.val
  ·obtain rfl := hs p5 (by simp) h5
   rw [e1 h5] at hf
   exact sl_55 (i1 := p1.1) (s1 := p1.2) (i2 := p2.1) (s2 := p2.2) (i3 := p3.1) (s3 := p3.2) (i4 := p4.1) (s4 := p4.2) (i5 := p5.1) (s5 := p5.2) (K := K) (Q := Q) (I := I) (X := X) (S := S) (Fa := Fa) (Pa := Pa) (C1 := n1 h1) (C2 := n2 h2) (C3 := n3 h3) (C4 := n4 h4) (C5 := y5 h5) (SA := SA) (CI := CI.1 (yes (by omega)))
  rw [e0 h5] at hf
  exact sl_50 (i1 := p1.1) (s1 := p1.2) (i2 := p2.1) (s2 := p2.2) (i3 := p3.1) (s3 := p3.2) (i4 := p4.1) (s4 := p4.2) (i5 := p5.1) (s5 := p5.2) (K := K) (Q := Q) (I := I) (X := X) (S := S) (Fa := Fa) (Pa := Pa) (C1 := n1 h1) (C2 := n2 h2) (C3 := n3 h3) (C4 := n4 h4) (C5 := n5 h5) (CI := CI.2 (no (by omega)))
 ·simp only [List.length_cons] at l5
  omega
theorem tmR_gd {n1 d1 n2 d2 : Int} {neg : Bool} (h1 : Cn n1 d1) (h2 : Cn n2 d2) : Gd (tmR n1 d1 n2 d2 neg) := ⟨tmR_ok, hs_mono (tmR_hsp h1 h2) (by omega), hs_mono (tmR_hsr h2) (by omega)⟩
theorem QuadraticSigns_s (n1 d1 n2 d2 n3 d3 : Int) (m1 e1 m2 e2 : Int) (g1 : Bool) (m3 e3 m4 e4 : Int) (g2 oF oT : Bool) (j1 c1 j2 c2 : Int) (g3 : Bool) (h1 : Cn n1 d1) (h2 : Cn n2 d2) (h3 : Cn n3 d3) (h4 : Cn m1 e1) (h5 : Cn m2 e2) (h6 : Cn m3 e3) (h7 : Cn m4 e4) (h8 : Cn j1 c1) (h9 : Cn j2 c2) : Sp Tryz.prog 7 [] [fnV n1 d1 n2 d2 n3 d3, spV m1 e1 m2 e2 g1 m3 e3 m4 e4 g2 oF oT, tmV j1 c1 j2 c2 g3] (.bool true) [] := by
 have Q := wQuad n1 d1 n2 d2 n3 d3 h1 h2 h3
 have I := wInterval m1 e1 m2 e2 g1 m3 e3 m4 e4 g2 oF oT h4 h5 h6 h7
 have X := wReal j1 c1 j2 c2 g3 h8 h9
 have z1 := cf_hs h1
 have z2 := cf_hs h2
 have z3 := cf_hs h3
 have c1' := cf_cof h1
 have c2' := cf_cof h2
 have c3' := cf_cof h3
 have gF : Gd (tmR m1 e1 m2 e2 g1) := tmR_gd h4 h5
 have gT : Gd (tmR m3 e3 m4 e4 g2) := tmR_gd h6 h7
 have gx : Gd (tmR j1 c1 j2 c2 g3) := tmR_gd h8 h9
 clear h1 h2 h3 h4 h5 h6 h7 h8 h9
 generalize cf n1 d1 = a at *
 generalize cf n2 d2 = b at *
 generalize cf n3 d3 = c at *
 generalize tmR m1 e1 m2 e2 g1 = F at *
 generalize tmR m3 e3 m4 e4 g2 = T at *
 generalize tmR j1 c1 j2 c2 g3 = x at *
 obtain ⟨hF, y1, y2⟩ := gF
 obtain ⟨hT, y3, y4⟩ := gT
 obtain ⟨hx, y5, y6⟩ := gx
 have Fa := vFault F T oF oT hF hT
 by_cases hi : Iv.full ⟨F, T, oF, oT⟩
 ·rw [(faC_iff hF hT).1 hi] at Fa
  rcases isRoots_ex a b c with ⟨rfl, rfl, rfl⟩ | ⟨l, hl⟩
  ·have S := uSignsZ ⟨F, T, oF, oT⟩ hF hT hi
   have P := vPartsZ F T oF oT
   have SA := vSignAt 0 0 0 x hx
   rw [atQ_val hx, qval0, RR.sg_zero rfl] at SA
   rw [← qV0] at S P
   refine sl_all (K := vKnown4) (Q := Q) (I := I) (X := X) (I0 := ⟨F, T, oF, oT⟩) (hI := rfl) (gF := ⟨hF, y1, y2⟩) (gT := ⟨hT, y3, y4⟩) (gx := ⟨hx, y5, y6⟩) (L := [(⟨F, T, oF, oT⟩, 0)]) (l1 := by simp) (l5 := by simp) (S := S) (Fa := Fa) (Pa := P) (hg := fun p hp => ?_) (hf := ?_) (v := 0) (SA := SA) (hs := fun p hp _ => ?_)
   ·obtain rfl := List.mem_singleton.1 hp
    exact ⟨⟨hF, y1, y2⟩, ⟨hT, y3, y4⟩⟩
   ·simp [found]
   ·obtain rfl := List.mem_singleton.1 hp
    rfl
  ·have hz := hl.sizes c1' c2' c3'
   have S := uSigns hl hz ⟨F, T, oF, oT⟩ hF hT hi
   have P := vParts hl hz ⟨F, T, oF, oT⟩ hF hT hi
   have SA := vSignAt a b c x hx
   rw [atQ_val hx] at SA
   obtain ⟨l1, l5⟩ := parts_len hl ⟨F, T, oF, oT⟩ hi
   refine sl_all (K := vKnown4) (Q := Q) (I := I) (X := X) (I0 := ⟨F, T, oF, oT⟩) (hI := rfl) (gF := ⟨hF, y1, y2⟩) (gT := ⟨hT, y3, y4⟩) (gx := ⟨hx, y5, y6⟩) (L := parts ⟨F, T, oF, oT⟩ (sBt (qval a b c) (sgQ c)) l F oF) (l1 := l1) (l5 := l5) (S := S) (Fa := Fa) (Pa := P) (hg := ?_) (hf := ?_) (v := _) (SA := SA) (hs := fun p hp h => ?_)
   ·exact parts_good ⟨F, T, oF, oT⟩ _ ⟨hT, y3, y4⟩ l F oF ⟨hF, y1, y2⟩ fun r hr => ⟨hl.ok r hr, hz r hr⟩
   ·exact found_parts ⟨F, T, oF, oT⟩ _ x.val l F oF (fun r _ h => h.1) hl.sorted
   ·exact sign_parts hl.sgs ⟨F, T, oF, oT⟩ l F oF (Rest.start _ _) (fun r hr => hr) (fun r _ h => h.1) hl.sorted p hp _ h
 ·rw [(faC_iff hF hT).2 hi] at Fa
  have H := ucheck F T oF oT hF hT
  rw [(faC_iff hF hT).2 hi] at H
  exact sl_no (K := vKnown4) (Q := Q) (I := I) (X := X) (S := uSignsNo a b c F T oF oT H) (Fa := Fa)
theorem QuadraticSigns_c (n1 d1 n2 d2 n3 d3 : Int) (m1 e1 m2 e2 : Int) (g1 : Bool) (m3 e3 m4 e4 : Int) (g2 oF oT : Bool) (j1 c1 j2 c2 : Int) (g3 : Bool) (w : World) (hw : w.ShapedOpen Tryz.prog) (h1 : Cn n1 d1) (h2 : Cn n2 d2) (h3 : Cn n3 d3) (h4 : Cn m1 e1) (h5 : Cn m2 e2) (h6 : Cn m3 e3) (h7 : Cn m4 e4) (h8 : Cn j1 c1) (h9 : Cn j2 c2) : Calls Tryz.prog 7 #[fnV n1 d1 n2 d2 n3 d3, spV m1 e1 m2 e2 g1 m3 e3 m4 e4 g2 oF oT, tmV j1 c1 j2 c2 g3] w fun e w' => e = .returned (.bool true) ∧ Below w.heap.size w w' := (QuadraticSigns_s n1 d1 n2 d2 n3 d3 m1 e1 m2 e2 g1 m3 e3 m4 e4 g2 oF oT j1 c1 j2 c2 g3 h1 h2 h3 h4 h5 h6 h7 h8 h9).calls rfl rfl w hw
end Go.Proofs.YtlblfgbpogljoaaGreatDoor

end
