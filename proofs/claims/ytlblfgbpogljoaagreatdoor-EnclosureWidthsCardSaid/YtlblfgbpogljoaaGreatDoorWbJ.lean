/- Part 10 of the proof; what it holds is said text by text. -/
import Derived.Test.YtlblfgbpogljoaaGreatDoorWbI
import Derived.Test.YtlblfgbpogljoaaGreatDoorWbF
import Derived.Test.YtlblfgbpogljoaaGreatDoorWbG
set_option linter.unusedSimpArgs false
set_option linter.unusedVariables false
section
/- No program in sight: the real numbers as far as they are wanted: Cauchy sequences of fractions, their order, square roots of fractions, and a checker of ring identities. -/
namespace Vi
def Cau (f : Nat → Rat) : Prop := ∀ e : Rat, 0 < e → ∃ N, ∀ m, N ≤ m → ∀ n, N ≤ n → f m - f n < e
def Nul (f : Nat → Rat) : Prop := ∀ e : Rat, 0 < e → ∃ N, ∀ n, N ≤ n → f n < e ∧ -e < f n
def Pst (f : Nat → Rat) : Prop := ∃ d : Rat, 0 < d ∧ ∃ N, ∀ n, N ≤ n → d ≤ f n
def Bdd (f : Nat → Rat) : Prop := ∃ B : Rat, 0 < B ∧ ∃ N, ∀ n, N ≤ n → f n < B ∧ -B < f n
theorem half_pos {e : Rat} (h : 0 < e) : 0 < e / 2 := by grind
theorem Cau.bdd {f : Nat → Rat} (h : Cau f) : Bdd f := by
 obtain ⟨N, hN⟩ := h 1 (by decide)
 by_cases h0 : f N < 0
 ·refine ⟨1 - f N, by grind, N, fun n hn => ?_⟩
  have h1 := hN n hn N (Nat.le_refl _)
  have h2 := hN N (Nat.le_refl _) n hn
  constructor <;> grind
 ·refine ⟨1 + f N, by grind, N, fun n hn => ?_⟩
  have h1 := hN n hn N (Nat.le_refl _)
  have h2 := hN N (Nat.le_refl _) n hn
  constructor <;> grind
theorem mul_in {x y a b : Rat} (h1 : x < a) (h2 : -a < x) (h3 : y < b) (h4 : -b < y) : x * y < a * b ∧ -(a * b) < x * y := by
 have p1 : 0 < (a - x) * (b + y) := Rat.mul_pos (by grind) (by grind)
 have p2 : 0 < (a + x) * (b - y) := Rat.mul_pos (by grind) (by grind)
 have p3 : 0 < (a - x) * (b - y) := Rat.mul_pos (by grind) (by grind)
 have p4 : 0 < (a + x) * (b + y) := Rat.mul_pos (by grind) (by grind)
 constructor <;> grind
theorem Cau.const (q : Rat) : Cau fun _ => q := fun e he => ⟨0, fun _ _ _ _ => by grind⟩
theorem Cau.add {f g : Nat → Rat} (hf : Cau f) (hg : Cau g) : Cau fun n => f n + g n := fun e he => by
 obtain ⟨N, hN⟩ := hf (e / 2) (half_pos he)
 obtain ⟨M, hM⟩ := hg (e / 2) (half_pos he)
 refine ⟨N + M, fun m hm n hn => ?_⟩
 have h1 := hN m (by omega) n (by omega)
 have h2 := hM m (by omega) n (by omega)
 grind
theorem Cau.neg {f : Nat → Rat} (hf : Cau f) : Cau fun n => -f n := fun e he => by
 obtain ⟨N, hN⟩ := hf e he
 refine ⟨N, fun m hm n hn => ?_⟩
 have h1 := hN n hn m hm
 grind
theorem div_small {e B : Rat} (he : 0 < e) (hB : 0 < B) : 0 < e / B := by
 rw [Rat.div_def]; exact Rat.mul_pos he (Rat.inv_pos.2 hB)
theorem div_mul {e B : Rat} (hB : 0 < B) : e / B * B = e := by
 rw [Rat.div_def, Rat.mul_assoc, Rat.inv_mul_cancel _ (by grind), Rat.mul_one]
theorem Nul.mul {f g : Nat → Rat} (hf : Nul f) (hg : Bdd g) : Nul fun n => f n * g n := fun e he => by
 obtain ⟨B, hB, M, hM⟩ := hg
 obtain ⟨N, hN⟩ := hf (e / B) (div_small he hB)
 refine ⟨N + M, fun n hn => ?_⟩
 have h1 := hN n (by omega)
 have h2 := hM n (by omega)
 have h3 := mul_in h1.1 h1.2 h2.1 h2.2
 rw [div_mul hB] at h3
 exact h3
theorem Nul.add {f g : Nat → Rat} (hf : Nul f) (hg : Nul g) : Nul fun n => f n + g n := fun e he => by
 obtain ⟨N, hN⟩ := hf (e / 2) (half_pos he)
 obtain ⟨M, hM⟩ := hg (e / 2) (half_pos he)
 refine ⟨N + M, fun n hn => ?_⟩
 have h1 := hN n (by omega)
 have h2 := hM n (by omega)
 constructor <;> grind
theorem Nul.neg {f : Nat → Rat} (hf : Nul f) : Nul fun n => -f n := fun e he => by
 obtain ⟨N, hN⟩ := hf e he
 refine ⟨N, fun n hn => ?_⟩
 have h1 := hN n hn
 constructor <;> grind
theorem Nul.zero : Nul fun _ => 0 := fun e he => ⟨0, fun _ _ => by constructor <;> grind⟩
theorem Cau.mul {f g : Nat → Rat} (hf : Cau f) (hg : Cau g) : Cau fun n => f n * g n := fun e he => by
 obtain ⟨A, hA, M1, hM1⟩ := hf.bdd
 obtain ⟨B, hB, M2, hM2⟩ := hg.bdd
 obtain ⟨N1, h1⟩ := hf (e / 2 / B) (div_small (half_pos he) hB)
 obtain ⟨N2, h2⟩ := hg (e / 2 / A) (div_small (half_pos he) hA)
 refine ⟨M1 + M2 + N1 + N2, fun m hm n hn => ?_⟩
 have a1 := h1 m (by omega) n (by omega)
 have a2 := h1 n (by omega) m (by omega)
 have a3 := h2 m (by omega) n (by omega)
 have a4 := h2 n (by omega) m (by omega)
 have b1 := hM1 n (by omega)
 have b2 := hM2 m (by omega)
 have c1 := mul_in (x := f m - f n) a1 (by grind) b2.1 b2.2
 have c2 := mul_in (x := g m - g n) a3 (by grind) b1.1 b1.2
 rw [div_mul hB] at c1
 rw [div_mul hA] at c2
 grind
theorem Cau.tri {f : Nat → Rat} (h : Cau f) : Nul f ∨ Pst f ∨ Pst fun n => -f n := by
 apply Classical.byContradiction
 intro hc
 have hn : ¬ Nul f := fun h => hc (.inl h)
 unfold Nul at hn
 obtain ⟨e, he⟩ := Classical.not_forall.1 hn
 obtain ⟨h0, he⟩ := Classical.not_imp.1 he
 obtain ⟨N, hN⟩ := h (e / 2) (half_pos h0)
 have h1 : ∃ n, N ≤ n ∧ ¬ (f n < e ∧ -e < f n) := by
  apply Classical.byContradiction
  intro h2
  exact he ⟨N, fun n hn => Classical.byContradiction fun h3 => h2 ⟨n, hn, h3⟩⟩
 obtain ⟨n, hn, h2⟩ := h1
 by_cases h3 : f n < e
 ·refine hc (.inr (.inr ⟨e / 2, half_pos h0, N, fun m hm => ?_⟩))
  have := hN m hm n hn
  grind
 ·refine hc (.inr (.inl ⟨e / 2, half_pos h0, N, fun m hm => ?_⟩))
  have := hN n hn m hm
  grind
theorem Pst.add {f g : Nat → Rat} (hf : Pst f) (hg : Pst g) : Pst fun n => f n + g n := by
 obtain ⟨d, h0, N, h1⟩ := hf
 obtain ⟨e, h2, M, h3⟩ := hg
 refine ⟨d, h0, N + M, fun n hn => ?_⟩
 have a := h1 n (by omega)
 have b := h3 n (by omega)
 grind
theorem Pst.mul {f g : Nat → Rat} (hf : Pst f) (hg : Pst g) : Pst fun n => f n * g n := by
 obtain ⟨d, h0, N, h1⟩ := hf
 obtain ⟨e, h2, M, h3⟩ := hg
 refine ⟨d * e, Rat.mul_pos h0 h2, N + M, fun n hn => ?_⟩
 have a := h1 n (by omega)
 have b := h3 n (by omega)
 have p1 : 0 ≤ (f n - d) * g n := Rat.mul_nonneg (by grind) (by grind)
 have p2 : 0 ≤ d * (g n - e) := Rat.mul_nonneg (by grind) (by grind)
 grind
theorem Pst.addNul {f g : Nat → Rat} (hf : Pst f) (hg : Nul g) : Pst fun n => f n + g n := by
 obtain ⟨d, h0, N, h1⟩ := hf
 obtain ⟨M, h3⟩ := hg (d / 2) (half_pos h0)
 refine ⟨d / 2, half_pos h0, N + M, fun n hn => ?_⟩
 have a := h1 n (by omega)
 have b := h3 n (by omega)
 grind
theorem Pst.notNul {f : Nat → Rat} (hf : Pst f) (hg : Nul f) : False := by
 obtain ⟨d, h0, N, h1⟩ := hf
 obtain ⟨M, h3⟩ := hg d h0
 have a := h1 (N + M) (by omega)
 have b := h3 (N + M) (by omega)
 grind
structure CSeq where
 f : Nat → Rat
 c : Cau f
instance CSeq.setoid : Setoid CSeq where
 r a b := Nul fun n => a.f n - b.f n
 iseqv := {
  refl := fun a => by simpa [Rat.sub_self] using Nul.zero
  symm := fun {a b} h => by
   have := h.neg
   have e : (fun n => -(a.f n - b.f n)) = fun n => b.f n - a.f n := funext fun n => by grind
   rwa [e] at this
  trans := fun {a b c} h1 h2 => by
   have := h1.add h2
   have e : (fun n => a.f n - b.f n + (b.f n - c.f n)) = fun n => a.f n - c.f n := funext fun n => by grind
   rwa [e] at this }
def RR : Type := Quotient CSeq.setoid
namespace RR
def mk (a : CSeq) : RR := Quotient.mk CSeq.setoid a
theorem sound {a b : CSeq} (h : Nul fun n => a.f n - b.f n) : mk a = mk b := Quotient.sound h
def ofRat (q : Rat) : RR := mk ⟨fun _ => q, Cau.const q⟩
def addS (a b : CSeq) : CSeq := ⟨_, a.c.add b.c⟩
def mulS (a b : CSeq) : CSeq := ⟨_, a.c.mul b.c⟩
def negS (a : CSeq) : CSeq := ⟨_, a.c.neg⟩
def add (x y : RR) : RR := Quotient.liftOn₂ x y (fun a b => mk (addS a b)) fun a b a' b' h1 h2 => sound (by
 have := Nul.add h1 h2
 have e : (fun n => a.f n - a'.f n + (b.f n - b'.f n)) = fun n => (a.f n + b.f n) - (a'.f n + b'.f n) := funext fun n => by grind
 rwa [e] at this)
def mul (x y : RR) : RR := Quotient.liftOn₂ x y (fun a b => mk (mulS a b)) fun a b a' b' h1 h2 => sound (by
 have := Nul.add (Nul.mul h1 b.c.bdd) (Nul.mul h2 a'.c.bdd)
 have e : (fun n => (a.f n - a'.f n) * b.f n + (b.f n - b'.f n) * a'.f n) = fun n => (a.f n * b.f n) - (a'.f n * b'.f n) := funext fun n => by grind
 rwa [e] at this)
def neg (x : RR) : RR := Quotient.liftOn x (fun a => mk (negS a)) fun a a' h1 => sound (by
 have := Nul.neg h1
 have e : (fun n => -(a.f n - a'.f n)) = fun n => (-a.f n) - (-a'.f n) := funext fun n => by grind
 rwa [e] at this)
instance : Add RR := ⟨add⟩
instance : Mul RR := ⟨mul⟩
instance : Neg RR := ⟨neg⟩
instance : Sub RR := ⟨fun x y => x + -y⟩
instance : Coe Rat RR := ⟨ofRat⟩
instance (n : Nat) : OfNat RR n := ⟨ofRat ((n : Nat) : Rat)⟩
theorem sub_eq (x y : RR) : x - y = x + -y := rfl
theorem ind {p : RR → Prop} (h : ∀ a, p (mk a)) (x : RR) : p x := Quotient.ind h x
theorem same {a b : CSeq} (h : ∀ n, a.f n = b.f n) : mk a = mk b := by
 cases a; cases b
 congr 2
 exact funext h
theorem add_comm (x y : RR) : x + y = y + x := by
 induction x using ind with | h a => induction y using ind with | h b => exact same fun n => by simp only [addS]; grind
theorem add_assoc (x y z : RR) : x + y + z = x + (y + z) := by
 induction x using ind with | h a => induction y using ind with | h b => induction z using ind with | h c => exact same fun n => by simp only [addS]; grind
theorem mul_comm (x y : RR) : x * y = y * x := by
 induction x using ind with | h a => induction y using ind with | h b => exact same fun n => by simp only [mulS]; grind
theorem mul_assoc (x y z : RR) : x * y * z = x * (y * z) := by
 induction x using ind with | h a => induction y using ind with | h b => induction z using ind with | h c => exact same fun n => by simp only [mulS]; grind
theorem mul_add (x y z : RR) : x * (y + z) = x * y + x * z := by
 induction x using ind with | h a => induction y using ind with | h b => induction z using ind with | h c => exact same fun n => by simp only [mulS, addS]; grind
theorem rat_add (p q : Rat) : ofRat (p + q) = ofRat p + ofRat q := rfl
theorem rat_mul (p q : Rat) : ofRat (p * q) = ofRat p * ofRat q := rfl
theorem rat_neg (p : Rat) : ofRat (-p) = -ofRat p := rfl
theorem rat_sub (p q : Rat) : ofRat (p - q) = ofRat p - ofRat q := by rw [sub_eq, ← rat_neg, ← rat_add, Rat.sub_eq_add_neg]
theorem zero_add (x : RR) : ofRat 0 + x = x := by
 induction x using ind with | h a => exact same fun n => by simp only [addS]; grind
theorem one_mul (x : RR) : ofRat 1 * x = x := by
 induction x using ind with | h a => exact same fun n => by simp only [mulS]; grind
theorem zero_mul (x : RR) : ofRat 0 * x = ofRat 0 := by
 induction x using ind with | h a => exact same fun n => by simp only [mulS]; grind
theorem add_neg (x : RR) : x + -x = ofRat 0 := by
 induction x using ind with | h a => exact same fun n => by simp only [addS, negS]; grind
theorem neg_mul (x y : RR) : -x * y = -(x * y) := by
 induction x using ind with | h a => induction y using ind with | h b => exact same fun n => by simp only [mulS, negS]; grind
theorem neg_neg (x : RR) : - -x = x := by
 induction x using ind with | h a => exact same fun n => by simp only [negS]; grind
end RR
end Vi
namespace Vi
inductive PE where
 | v (n : Nat)
 | z (k : Int)
 | a (x y : PE)
 | m (x y : PE)
 | n (x : PE)
namespace PE
def at' (ρ : List RR) (i : Nat) : RR := match ρ, i with
 | [], _ => RR.ofRat 0
 | x :: _, 0 => x
 | _ :: l, i + 1 => at' l i
def ofInt (k : Int) : RR := RR.ofRat (k : Rat)
def ev (ρ : List RR) : PE → RR
 | .v i => at' ρ i
 | .z k => ofInt k
 | .a x y => x.ev ρ + y.ev ρ
 | .m x y => x.ev ρ * y.ev ρ
 | .n x => -x.ev ρ
def evM (ρ : List RR) : List Nat → RR
 | [] => ofInt 1
 | i :: l => at' ρ i * evM ρ l
def evP (ρ : List RR) : List (Int × List Nat) → RR
 | [] => ofInt 0
 | (k, l) :: p => ofInt k * evM ρ l + evP ρ p
def insM (i : Nat) : List Nat → List Nat
 | [] => [i]
 | j :: l => match Nat.ble i j with
  | true => i :: j :: l
  | false => j :: insM i l
def mulM : List Nat → List Nat → List Nat
 | [], q => q
 | i :: l, q => insM i (mulM l q)
def eqM : List Nat → List Nat → Bool
 | [], [] => true
 | i :: l, j :: q => match Nat.beq i j with
  | true => eqM l q
  | false => false
 | _, _ => false
def addT (k : Int) (l : List Nat) : List (Int × List Nat) → List (Int × List Nat)
 | [] => [(k, l)]
 | (k', l') :: p => match eqM l l' with
  | true => (k + k', l') :: p
  | false => (k', l') :: addT k l p
def addP : List (Int × List Nat) → List (Int × List Nat) → List (Int × List Nat)
 | [], q => q
 | (k, l) :: p, q => addT k l (addP p q)
def mulT (k : Int) (l : List Nat) : List (Int × List Nat) → List (Int × List Nat)
 | [] => []
 | (k', l') :: p => addT (k * k') (mulM l l') (mulT k l p)
def mulP : List (Int × List Nat) → List (Int × List Nat) → List (Int × List Nat)
 | [], _ => []
 | (k, l) :: p, q => addP (mulT k l q) (mulP p q)
def norm : PE → List (Int × List Nat)
 | .v i => [(1, [i])]
 | .z k => [(k, [])]
 | .a x y => addP x.norm y.norm
 | .m x y => mulP x.norm y.norm
 | .n x => mulT (-1) [] x.norm
def isZ : List (Int × List Nat) → Bool
 | [] => true
 | (k, _) :: p => match decide (k = 0) with
  | true => isZ p
  | false => false
open RR
theorem i0 (x : RR) : ofInt 0 + x = x := RR.zero_add x
theorem i1 (x : RR) : ofInt 1 * x = x := RR.one_mul x
theorem iadd (j k : Int) : ofInt (j + k) = ofInt j + ofInt k := by unfold ofInt; rw [← rat_add, Rat.intCast_add]
theorem imul (j k : Int) : ofInt (j * k) = ofInt j * ofInt k := by unfold ofInt; rw [← rat_mul, Rat.intCast_mul]
theorem ineg (j : Int) : ofInt (-j) = -ofInt j := by unfold ofInt; rw [← rat_neg, Rat.intCast_neg]
theorem add_left (x y z : RR) : x + (y + z) = y + (x + z) := by rw [← RR.add_assoc, RR.add_comm x y, RR.add_assoc]
theorem mul_left (x y z : RR) : x * (y * z) = y * (x * z) := by rw [← RR.mul_assoc, RR.mul_comm x y, RR.mul_assoc]
theorem add_mul (x y z : RR) : (x + y) * z = x * z + y * z := by rw [RR.mul_comm, RR.mul_add, RR.mul_comm z x, RR.mul_comm z y]
theorem mul0 (x : RR) : x * ofInt 0 = ofInt 0 := by rw [RR.mul_comm]; exact RR.zero_mul x
theorem ev_insM (ρ : List RR) (i : Nat) : ∀ l, evM ρ (insM i l) = at' ρ i * evM ρ l
 | [] => rfl
 | j :: l => by
  unfold insM
  split
  ·rfl
  ·show at' ρ j * evM ρ (insM i l) = at' ρ i * (at' ρ j * evM ρ l)
   rw [ev_insM ρ i l, mul_left]
theorem ev_mulM (ρ : List RR) : ∀ l q, evM ρ (mulM l q) = evM ρ l * evM ρ q
 | [], q => (i1 _).symm
 | i :: l, q => by
  show evM ρ (insM i (mulM l q)) = at' ρ i * evM ρ l * evM ρ q
  rw [ev_insM, ev_mulM ρ l q, RR.mul_assoc]
theorem eqM_eq : ∀ l q, eqM l q = true → l = q
 | [], [], _ => rfl
 | i :: l, j :: q, h => by
  unfold eqM at h
  split at h
  ·rename_i h1
   rw [Nat.eq_of_beq_eq_true h1, eqM_eq l q h]
  ·cases h
 | [], _ :: _, h => by simp [eqM] at h
 | _ :: _, [], h => by simp [eqM] at h
theorem ev_addT (ρ : List RR) (k : Int) (l : List Nat) : ∀ p, evP ρ (addT k l p) = ofInt k * evM ρ l + evP ρ p
 | [] => rfl
 | (k', l') :: p => by
  unfold addT
  split
  ·rename_i h
   rw [eqM_eq l l' h]
   show ofInt (k + k') * evM ρ l' + evP ρ p = ofInt k * evM ρ l' + (ofInt k' * evM ρ l' + evP ρ p)
   rw [iadd, add_mul, RR.add_assoc]
  ·show ofInt k' * evM ρ l' + evP ρ (addT k l p) = ofInt k * evM ρ l + (ofInt k' * evM ρ l' + evP ρ p)
   rw [ev_addT ρ k l p, add_left]
theorem ev_addP (ρ : List RR) : ∀ p q, evP ρ (addP p q) = evP ρ p + evP ρ q
 | [], q => (i0 _).symm
 | (k, l) :: p, q => by
  show evP ρ (addT k l (addP p q)) = ofInt k * evM ρ l + evP ρ p + evP ρ q
  rw [ev_addT, ev_addP ρ p q, RR.add_assoc]
theorem ev_mulT (ρ : List RR) (k : Int) (l : List Nat) : ∀ p, evP ρ (mulT k l p) = ofInt k * evM ρ l * evP ρ p
 | [] => (mul0 _).symm
 | (k', l') :: p => by
  show evP ρ (addT (k * k') (mulM l l') (mulT k l p)) = ofInt k * evM ρ l * (ofInt k' * evM ρ l' + evP ρ p)
  rw [ev_addT, ev_mulT ρ k l p, ev_mulM, imul, RR.mul_add]
  congr 1
  rw [RR.mul_assoc, RR.mul_assoc, mul_left (ofInt k')]
theorem ev_mulP (ρ : List RR) : ∀ p q, evP ρ (mulP p q) = evP ρ p * evP ρ q
 | [], q => (RR.zero_mul _).symm
 | (k, l) :: p, q => by
  show evP ρ (addP (mulT k l q) (mulP p q)) = (ofInt k * evM ρ l + evP ρ p) * evP ρ q
  rw [ev_addP, ev_mulT, ev_mulP ρ p q, add_mul]
theorem ev_norm (ρ : List RR) : ∀ e : PE, evP ρ e.norm = e.ev ρ
 | .v i => by
  show ofInt 1 * (at' ρ i * ofInt 1) + ofInt 0 = at' ρ i
  rw [RR.add_comm, i0, i1, RR.mul_comm, i1]
 | .z k => by
  show ofInt k * ofInt 1 + ofInt 0 = ofInt k
  rw [RR.add_comm, i0, RR.mul_comm, i1]
 | .a x y => by
  show evP ρ (addP x.norm y.norm) = x.ev ρ + y.ev ρ
  rw [ev_addP, ev_norm ρ x, ev_norm ρ y]
 | .m x y => by
  show evP ρ (mulP x.norm y.norm) = x.ev ρ * y.ev ρ
  rw [ev_mulP, ev_norm ρ x, ev_norm ρ y]
 | .n x => by
  show evP ρ (mulT (-1) [] x.norm) = -x.ev ρ
  rw [ev_mulT, ev_norm ρ x]
  show ofInt (-1) * ofInt 1 * x.ev ρ = -x.ev ρ
  rw [ineg, RR.mul_assoc, i1, RR.neg_mul, i1]
theorem ev_isZ (ρ : List RR) : ∀ p, isZ p = true → evP ρ p = ofInt 0
 | [], _ => rfl
 | (k, l) :: p, h => by
  unfold isZ at h
  split at h
  ·rename_i h1
   obtain rfl := of_decide_eq_true h1
   show ofInt 0 * evM ρ l + evP ρ p = ofInt 0
   rw [ev_isZ ρ p h, RR.add_comm, i0]
   exact RR.zero_mul _
  ·cases h
end PE
class AtR (ρ : List RR) (x : RR) (i : outParam Nat) : Prop where
 eq : PE.at' ρ i = x
instance (x : RR) (l : List RR) : AtR (x :: l) x 0 := ⟨rfl⟩
instance (priority := low) (x y : RR) (l : List RR) (i : Nat) [h : AtR l x i] : AtR (y :: l) x (i + 1) := ⟨h.eq⟩
class QtR (ρ : List RR) (x : RR) (e : outParam PE) : Prop where
 eq : e.ev ρ = x
instance (priority := low) (ρ : List RR) (x : RR) (i : Nat) [h : AtR ρ x i] : QtR ρ x (.v i) := ⟨h.eq⟩
instance (ρ : List RR) (x y : RR) (e f : PE) [h : QtR ρ x e] [g : QtR ρ y f] : QtR ρ (x + y) (.a e f) := ⟨by show e.ev ρ + f.ev ρ = _; rw [h.eq, g.eq]⟩
instance (ρ : List RR) (x y : RR) (e f : PE) [h : QtR ρ x e] [g : QtR ρ y f] : QtR ρ (x * y) (.m e f) := ⟨by show e.ev ρ * f.ev ρ = _; rw [h.eq, g.eq]⟩
instance (ρ : List RR) (x y : RR) (e f : PE) [h : QtR ρ x e] [g : QtR ρ y f] : QtR ρ (x - y) (.a e (.n f)) := ⟨by show e.ev ρ + -f.ev ρ = _; rw [h.eq, g.eq]; rfl⟩
instance (ρ : List RR) (x : RR) (e : PE) [h : QtR ρ x e] : QtR ρ (-x) (.n e) := ⟨by show -e.ev ρ = _; rw [h.eq]⟩
instance (ρ : List RR) (n : Nat) : QtR ρ (no_index (OfNat.ofNat n : RR)) (.z n) := ⟨rfl⟩
instance (ρ : List RR) (p q : Rat) (e f : PE) [h : QtR ρ (RR.ofRat p) e] [g : QtR ρ (RR.ofRat q) f] : QtR ρ (RR.ofRat (p + q)) (.a e f) := ⟨by show e.ev ρ + f.ev ρ = _; rw [h.eq, g.eq]; rfl⟩
instance (ρ : List RR) (p q : Rat) (e f : PE) [h : QtR ρ (RR.ofRat p) e] [g : QtR ρ (RR.ofRat q) f] : QtR ρ (RR.ofRat (p * q)) (.m e f) := ⟨by show e.ev ρ * f.ev ρ = _; rw [h.eq, g.eq]; rfl⟩
instance (ρ : List RR) (p q : Rat) (e f : PE) [h : QtR ρ (RR.ofRat p) e] [g : QtR ρ (RR.ofRat q) f] : QtR ρ (RR.ofRat (p - q)) (.a e (.n f)) := ⟨by show e.ev ρ + -f.ev ρ = _; rw [h.eq, g.eq, RR.rat_sub]; rfl⟩
instance (ρ : List RR) (p : Rat) (e : PE) [h : QtR ρ (RR.ofRat p) e] : QtR ρ (RR.ofRat (-p)) (.n e) := ⟨by show -e.ev ρ = _; rw [h.eq]; rfl⟩
instance (ρ : List RR) (n : Nat) : QtR ρ (RR.ofRat (no_index (OfNat.ofNat n))) (.z n) := ⟨rfl⟩
namespace RR
theorem sub_zero' {x y : RR} (h : x + -y = ofRat 0) : x = y := by
 have : x + -y + y = ofRat 0 + y := by rw [h]
 rwa [add_assoc, add_comm (-y) y, add_neg, zero_add, add_comm, zero_add] at this
theorem ring (ρ : List RR) {x y : RR} {e f : PE} [h1 : QtR ρ x e] [h2 : QtR ρ y f] (h : PE.isZ (PE.norm (.a e (.n f))) = true) : x = y := by
 have := PE.ev_isZ ρ _ h
 rw [PE.ev_norm] at this
 have h3 : x + -y = ofRat 0 := by
  rw [← h1.eq, ← h2.eq]; exact this
 exact sub_zero' h3
theorem ring1 (ρ : List RR) {l r : RR} (hl : l = r) (k : RR) {x y : RR} {e f g u v : PE} [h1 : QtR ρ x e] [h2 : QtR ρ y f] [h3 : QtR ρ l u] [h4 : QtR ρ r v] [h5 : QtR ρ k g] (h : PE.isZ (PE.norm (.a (.a e (.n f)) (.n (.m g (.a u (.n v)))))) = true) : x = y := by
 have := PE.ev_isZ ρ _ h
 rw [PE.ev_norm] at this
 have h6 : (x + -y) + -(k * (l + -r)) = ofRat 0 := by
  rw [← h1.eq, ← h2.eq, ← h3.eq, ← h4.eq, ← h5.eq]; exact this
 rw [hl, add_neg, mul_comm, zero_mul] at h6
 have h7 : -(ofRat 0) = ofRat 0 := by have := add_neg (ofRat 0); rwa [zero_add] at this
 rw [h7, add_comm, zero_add] at h6
 exact sub_zero' h6
theorem ring2 (ρ : List RR) {l r : RR} (hl : l = r) (k : RR) {l' r' : RR} (hl' : l' = r') (k' : RR) {x y : RR} {e f g u v g' u' v' : PE} [h1 : QtR ρ x e] [h2 : QtR ρ y f] [h3 : QtR ρ l u] [h4 : QtR ρ r v] [h5 : QtR ρ k g] [h3' : QtR ρ l' u'] [h4' : QtR ρ r' v'] [h5' : QtR ρ k' g'] (h : PE.isZ (PE.norm (.a (.a (.a e (.n f)) (.n (.m g (.a u (.n v))))) (.n (.m g' (.a u' (.n v')))))) = true) : x = y := by
 have := PE.ev_isZ ρ _ h
 rw [PE.ev_norm] at this
 have h6 : ((x + -y) + -(k * (l + -r))) + -(k' * (l' + -r')) = ofRat 0 := by
  rw [← h1.eq, ← h2.eq, ← h3.eq, ← h4.eq, ← h5.eq, ← h3'.eq, ← h4'.eq, ← h5'.eq]; exact this
 have h7 : -(ofRat 0) = ofRat 0 := by have := add_neg (ofRat 0); rwa [zero_add] at this
 rw [hl, hl', add_neg, add_neg, mul_comm, zero_mul, mul_comm, zero_mul, h7, add_comm, zero_add, add_comm, zero_add] at h6
 exact sub_zero' h6
example (x y : RR) (p : Rat) : (x + y) * (x - ofRat (p + 2)) = x * x + y * x - (2 * x + p * x) - p * y - 2 * y := ring [x, y, p] (by decide +kernel)
end RR
end Vi
namespace Vi
namespace RR
def pos (x : RR) : Prop := Quotient.liftOn x (fun a => Pst a.f) fun a b h => propext ⟨fun p => by
    have := p.addNul (Nul.neg h)
    have e : (fun n => a.f n + -(a.f n - b.f n)) = b.f := funext fun n => by grind
    rwa [e] at this, fun p => by
    have := p.addNul h
    have e : (fun n => b.f n + (a.f n - b.f n)) = a.f := funext fun n => by grind
    rwa [e] at this⟩
instance : LT RR := ⟨fun x y => pos (y - x)⟩
instance : LE RR := ⟨fun x y => ¬ y < x⟩
theorem lt_iff {x y : RR} : x < y ↔ pos (y - x) := Iff.rfl
theorem pos_add {x y : RR} : pos x → pos y → pos (x + y) := by
 induction x using ind with | h a => induction y using ind with | h b => exact fun h1 h2 => Pst.add h1 h2
theorem pos_mul {x y : RR} : pos x → pos y → pos (x * y) := by
 induction x using ind with | h a => induction y using ind with | h b => exact fun h1 h2 => Pst.mul h1 h2
theorem pos_zero : ¬ pos (ofRat 0) := fun h => Pst.notNul (f := fun _ => 0) h Nul.zero
theorem pos_tri (x : RR) : x = 0 ∨ pos x ∨ pos (-x) := by
 induction x using ind with | h a =>
 rcases a.c.tri with h | h | h
 ·left
  exact sound (by
   have e : (fun n => a.f n - 0) = a.f := funext fun n => by grind
   have : Nul fun n => a.f n - 0 := by rw [e]; exact h
   exact this)
 ·exact .inr (.inl h)
 ·exact .inr (.inr h)
theorem pos_rat (q : Rat) : pos (ofRat q) ↔ 0 < q := by
 constructor
 ·intro h
  obtain ⟨d, h0, N, h1⟩ := (h : Pst fun _ => q)
  have := h1 N (Nat.le_refl _)
  grind
 ·intro h
  exact (⟨q, h, 0, fun _ _ => Rat.le_refl⟩ : Pst fun _ => q)
theorem zero_lt {x : RR} : 0 < x ↔ pos x := by
 rw [lt_iff, ring (x := x - 0) (y := x) [x] (by decide +kernel)]
theorem lt_of_pos {x y : RR} (t : RR) (h : 0 < t) (e : y - x = t) : x < y := by
 rw [lt_iff, e]; exact zero_lt.1 h
theorem lt_zero {x : RR} : x < 0 ↔ 0 < -x := by
 rw [zero_lt, lt_iff, ring (x := 0 - x) (y := -x) [x] (by decide +kernel)]
theorem sub_pos {x y : RR} : 0 < y - x ↔ x < y := by rw [zero_lt]; rfl
theorem lt_irrefl (x : RR) : ¬ x < x := fun h => by
 rw [lt_iff, ring (x := x - x) (y := ofRat 0) [x] (by decide +kernel)] at h
 exact pos_zero h
theorem lt_trans {x y z : RR} (h1 : x < y) (h2 : y < z) : x < z := by
 have := pos_add h1 h2
 rwa [ring (x := y - x + (z - y)) (y := z - x) [x, y, z] (by decide +kernel)] at this
theorem tri (x y : RR) : x < y ∨ x = y ∨ y < x := by
 rcases pos_tri (y - x) with h | h | h
 ·exact .inr (.inl (ring1 [x, y] h (-1) (by decide +kernel)))
 ·exact .inl h
 ·refine .inr (.inr ?_)
  rwa [ring (x := -(y - x)) (y := x - y) [x, y] (by decide +kernel)] at h
theorem le_refl (x : RR) : x ≤ x := lt_irrefl x
theorem le_of_lt {x y : RR} (h : x < y) : x ≤ y := fun h2 => lt_irrefl _ (lt_trans h h2)
theorem le_of_eq {x y : RR} (h : x = y) : x ≤ y := h ▸ le_refl x
theorem lt_or_eq {x y : RR} (h : x ≤ y) : x < y ∨ x = y := by
 rcases tri x y with h1 | h1 | h1
 ·exact .inl h1
 ·exact .inr h1
 ·exact absurd h1 h
theorem le_trans {x y z : RR} (h1 : x ≤ y) (h2 : y ≤ z) : x ≤ z := by
 rcases lt_or_eq h1 with h1 | rfl
 ·rcases lt_or_eq h2 with h2 | rfl
  ·exact le_of_lt (lt_trans h1 h2)
  ·exact le_of_lt h1
 ·exact h2
theorem lt_of_lt_of_le {x y z : RR} (h1 : x < y) (h2 : y ≤ z) : x < z := by
 rcases lt_or_eq h2 with h2 | rfl
 ·exact lt_trans h1 h2
 ·exact h1
theorem lt_of_le_of_lt {x y z : RR} (h1 : x ≤ y) (h2 : y < z) : x < z := by
 rcases lt_or_eq h1 with h1 | rfl
 ·exact lt_trans h1 h2
 ·exact h2
theorem le_antisymm {x y : RR} (h1 : x ≤ y) (h2 : y ≤ x) : x = y := by
 rcases lt_or_eq h1 with h1 | h1
 ·exact absurd h1 h2
 ·exact h1
theorem not_lt {x y : RR} : ¬ x < y ↔ y ≤ x := Iff.rfl
theorem not_le {x y : RR} : ¬ x ≤ y ↔ y < x := Classical.not_not
theorem ne_of_lt {x y : RR} (h : x < y) : x ≠ y := fun e => lt_irrefl x (by rw [← e] at h; exact h)
theorem add_pos {x y : RR} (h1 : 0 < x) (h2 : 0 < y) : 0 < x + y := zero_lt.2 (pos_add (zero_lt.1 h1) (zero_lt.1 h2))
theorem mul_pos {x y : RR} (h1 : 0 < x) (h2 : 0 < y) : 0 < x * y := zero_lt.2 (pos_mul (zero_lt.1 h1) (zero_lt.1 h2))
theorem mul_neg {x y : RR} (h1 : 0 < x) (h2 : y < 0) : x * y < 0 := by
 rw [lt_zero] at *
 have := mul_pos h1 h2
 rwa [ring (x := x * -y) (y := -(x * y)) [x, y] (by decide +kernel)] at this
theorem neg_pos {x : RR} : 0 < -x ↔ x < 0 := lt_zero.symm
theorem neg_lt_zero {x : RR} : -x < 0 ↔ 0 < x := by rw [lt_zero, neg_neg]
theorem mul_neg_neg {x y : RR} (h1 : x < 0) (h2 : y < 0) : 0 < x * y := by
 rw [lt_zero] at *
 have := mul_pos h1 h2
 rwa [ring (x := -x * -y) (y := x * y) [x, y] (by decide +kernel)] at this
theorem add_nonneg {x y : RR} (h1 : 0 ≤ x) (h2 : 0 ≤ y) : 0 ≤ x + y := by
 rcases lt_or_eq h1 with h1 | rfl
 ·rcases lt_or_eq h2 with h2 | rfl
  ·exact le_of_lt (add_pos h1 h2)
  ·rw [ring (x := x + 0) (y := x) [x] (by decide +kernel)]; exact le_of_lt h1
 ·rw [ring (x := 0 + y) (y := y) [y] (by decide +kernel)]; exact h2
theorem add_pos_of_nonneg {x y : RR} (h1 : 0 < x) (h2 : 0 ≤ y) : 0 < x + y := by
 rcases lt_or_eq h2 with h2 | rfl
 ·exact add_pos h1 h2
 ·rw [ring (x := x + 0) (y := x) [x] (by decide +kernel)]; exact h1
theorem mul_nonneg {x y : RR} (h1 : 0 ≤ x) (h2 : 0 ≤ y) : 0 ≤ x * y := by
 rcases lt_or_eq h1 with h1 | rfl
 ·rcases lt_or_eq h2 with h2 | rfl
  ·exact le_of_lt (mul_pos h1 h2)
  ·rw [ring (x := x * 0) (y := 0) [x] (by decide +kernel)]; exact le_refl _
 ·rw [ring (x := 0 * y) (y := 0) [y] (by decide +kernel)]; exact le_refl _
theorem sub_nonneg {x y : RR} : 0 ≤ y - x ↔ x ≤ y := by
 rw [← not_lt, ← not_lt, lt_zero, ring (x := -(y - x)) (y := x - y) [x, y] (by decide +kernel), sub_pos]
theorem le_of_nonneg {x y : RR} (t : RR) (h : 0 ≤ t) (e : y - x = t) : x ≤ y := by
 rw [← sub_nonneg, e]; exact h
theorem sq_nonneg (x : RR) : 0 ≤ x * x := by
 rcases tri x 0 with h | rfl | h
 ·exact le_of_lt (mul_neg_neg h h)
 ·rw [ring (x := (0 : RR) * 0) (y := 0) [] (by decide +kernel)]; exact le_refl _
 ·exact le_of_lt (mul_pos h h)
theorem mul_ne {x y : RR} (hx : x ≠ 0) (hy : y ≠ 0) : x * y ≠ 0 := by
 rcases tri x 0 with h | h | h
 ·rcases tri y 0 with g | g | g
  ·exact (ne_of_lt (mul_neg_neg h g)).symm
  ·exact absurd g hy
  ·rw [mul_comm]; exact ne_of_lt (mul_neg g h)
 ·exact absurd h hx
 ·rcases tri y 0 with g | g | g
  ·exact ne_of_lt (mul_neg h g)
  ·exact absurd g hy
  ·exact (ne_of_lt (mul_pos h g)).symm
theorem rat_lt {p q : Rat} : ofRat p < ofRat q ↔ p < q := by
 rw [lt_iff, ← rat_sub, pos_rat]
 constructor <;> intro h <;> grind
theorem rat_le {p q : Rat} : ofRat p ≤ ofRat q ↔ p ≤ q := by
 rw [← not_lt, rat_lt, Rat.not_lt]
theorem rat_inj {p q : Rat} (h : ofRat p = ofRat q) : p = q := by
 have h1 : ¬ p < q := fun g => ne_of_lt (rat_lt.2 g) h
 have h2 : ¬ q < p := fun g => ne_of_lt (rat_lt.2 g) h.symm
 exact Rat.le_antisymm (Rat.not_lt.1 h2) (Rat.not_lt.1 h1)
end RR
noncomputable def sgR (x : RR) : Int := open Classical in if 0 < x then 1 else if x < 0 then -1 else 0
namespace RR
theorem sg_pos {x : RR} (h : 0 < x) : sgR x = 1 := if_pos h
theorem sg_neg {x : RR} (h : x < 0) : sgR x = -1 := by unfold sgR; rw [if_neg (le_of_lt h), if_pos h]
theorem sg_zero {x : RR} (h : x = 0) : sgR x = 0 := by subst h; unfold sgR; rw [if_neg (lt_irrefl 0), if_neg (lt_irrefl 0)]
theorem sg_cases (x : RR) : (sgR x = -1 ∧ x < 0) ∨ (sgR x = 0 ∧ x = 0) ∨ (sgR x = 1 ∧ 0 < x) := by
 rcases tri x 0 with h | h | h
 ·exact .inl ⟨sg_neg h, h⟩
 ·exact .inr (.inl ⟨sg_zero h, h⟩)
 ·exact .inr (.inr ⟨sg_pos h, h⟩)
theorem sg_mul (x y : RR) : sgR (x * y) = sgR x * sgR y := by
 rcases sg_cases x with ⟨h1, h⟩ | ⟨h1, rfl⟩ | ⟨h1, h⟩ <;> rcases sg_cases y with ⟨g1, g⟩ | ⟨g1, rfl⟩ | ⟨g1, g⟩ <;> simp only [h1, g1]
 ·exact sg_pos (mul_neg_neg h g)
 ·exact sg_zero (ring [x] (by decide +kernel))
 ·rw [mul_comm]; exact sg_neg (mul_neg g h)
 ·exact sg_zero (ring [y] (by decide +kernel))
 ·exact sg_zero (ring [] (by decide +kernel))
 ·exact sg_zero (ring [y] (by decide +kernel))
 ·exact sg_neg (mul_neg h g)
 ·exact sg_zero (ring [x] (by decide +kernel))
 ·exact sg_pos (mul_pos h g)
theorem sg_opp (x : RR) : sgR (-x) = -sgR x := by
 rw [ring (x := -x) (y := ofRat (-1) * x) [x] (by decide +kernel), sg_mul, sg_neg (x := ofRat (-1)) (rat_lt.2 (by decide))]
 omega
theorem sg_iff0 {x : RR} : sgR x = 0 ↔ x = 0 := by
 rcases sg_cases x with ⟨h1, h⟩ | ⟨h1, h⟩ | ⟨h1, h⟩ <;> rw [h1]
 ·exact ⟨fun e => by omega, fun e => absurd e (ne_of_lt h)⟩
 ·exact ⟨fun _ => h, fun _ => rfl⟩
 ·exact ⟨fun e => by omega, fun e => absurd e.symm (ne_of_lt h)⟩
theorem sg_iff1 {x : RR} : sgR x = 1 ↔ 0 < x := by
 rcases sg_cases x with ⟨h1, h⟩ | ⟨h1, rfl⟩ | ⟨h1, h⟩ <;> rw [h1]
 ·exact ⟨fun e => by omega, fun e => absurd e (le_of_lt h)⟩
 ·exact ⟨fun e => by omega, fun e => absurd e (lt_irrefl _)⟩
 ·exact ⟨fun _ => h, fun _ => rfl⟩
theorem sg_iff2 {x : RR} : sgR x = -1 ↔ x < 0 := by
 rcases sg_cases x with ⟨h1, h⟩ | ⟨h1, rfl⟩ | ⟨h1, h⟩ <;> rw [h1]
 ·exact ⟨fun _ => h, fun _ => rfl⟩
 ·exact ⟨fun e => by omega, fun e => absurd e (lt_irrefl _)⟩
 ·exact ⟨fun e => by omega, fun e => absurd e (le_of_lt h)⟩
theorem sg_add_same {x y : RR} (h : sgR x = sgR y ∨ sgR y = 0) : sgR (x + y) = sgR x := by
 rcases h with h | h
 ·rcases sg_cases y with ⟨g1, g⟩ | ⟨g1, g⟩ | ⟨g1, g⟩ <;> rw [g1] at h
  ·have h2 := sg_iff2.1 h
   rw [h]
   refine sg_iff2.2 ?_
   rw [lt_zero] at *
   have := add_pos h2 g
   rwa [ring (x := -x + -y) (y := -(x + y)) [x, y] (by decide +kernel)] at this
  ·obtain rfl := sg_iff0.1 h
   subst g
   rw [ring (x := (0 : RR) + 0) (y := 0) [] (by decide +kernel)]
  ·rw [h]
   exact sg_iff1.2 (add_pos (sg_iff1.1 h) g)
 ·obtain rfl := sg_iff0.1 h
  rw [ring (x := x + 0) (y := x) [x] (by decide +kernel)]
theorem sg_add_diff {x y : RR} (h : sgR x = -sgR y) (h0 : sgR x ≠ 0) : sgR (x + y) = sgR x * sgR (x * x - y * y) := by
 have e : x * x - y * y = (x + y) * (x - y) := ring [x, y] (by decide +kernel)
 have h1 : sgR (x - y) = sgR x := by
  rw [sub_eq]
  refine sg_add_same (.inl ?_)
  rw [sg_opp]; exact h
 rw [e, sg_mul, h1]
 rcases sg_cases x with ⟨g1, _⟩ | ⟨g1, _⟩ | ⟨g1, _⟩ <;> rw [g1] at h0 ⊢ <;> omega
end RR
end Vi
namespace Vi
theorem rsq_ex (r : Rat) (hr : 0 ≤ r) (n : Nat) : ∃ u : Rat, 0 ≤ u ∧ u * u ≤ r ∧ r < (u + 1 / ((n + 1 : Nat) : Rat)) * (u + 1 / ((n + 1 : Nat) : Rat)) := by
 obtain ⟨d, hd⟩ : ∃ d : Rat, d = ((n + 1 : Nat) : Rat) := ⟨_, rfl⟩
 have d0 : 0 < d := by rw [hd]; exact_mod_cast Nat.succ_pos n
 rw [← hd]
 obtain ⟨X, hX⟩ : ∃ X : Rat, X = r * (d * d) := ⟨_, rfl⟩
 have x0 : 0 ≤ X := by rw [hX]; exact Rat.mul_nonneg hr (Rat.le_of_lt (Rat.mul_pos d0 d0))
 have f0 : 0 ≤ X.floor := Rat.le_floor_iff.2 x0
 have root : ∀ N : Nat, ∃ s : Nat, s * s ≤ N ∧ N < (s + 1) * (s + 1) := by
  intro N
  induction N with
  | zero => exact ⟨0, by omega⟩
  | succ N ih =>
   obtain ⟨s, h1, h2⟩ := ih
   by_cases h : N + 1 < (s + 1) * (s + 1)
   ·exact ⟨s, by omega, h⟩
   ·refine ⟨s + 1, by omega, ?_⟩
    have e : (s + 1 + 1) * (s + 1 + 1) = (s + 1) * (s + 1) + 2 * s + 3 := by grind
    omega
 obtain ⟨s, h1, h2⟩ := root X.floor.toNat
 obtain ⟨S, hS⟩ : ∃ S : Rat, S = (s : Rat) := ⟨_, rfl⟩
 have S0 : 0 ≤ S := by rw [hS]; exact_mod_cast Nat.zero_le s
 have a1 : S * S ≤ X := by
  have h3 : ((s * s : Nat) : Int) ≤ X.floor := by omega
  have h4 := Rat.le_floor_iff.1 h3
  rw [hS]
  have h5 : (((s * s : Nat) : Int) : Rat) = (s : Rat) * (s : Rat) := by push_cast; rfl
  rwa [h5] at h4
 have a2 : X < (S + 1) * (S + 1) := by
  have h3 : X.floor < (((s + 1) * (s + 1) : Nat) : Int) := by omega
  have h4 := Rat.floor_lt_iff.1 h3
  have h5 : ((((s + 1) * (s + 1) : Nat) : Int) : Rat) = ((s : Rat) + 1) * ((s : Rat) + 1) := by push_cast; rfl
  rw [h5] at h4
  rw [hS]; exact h4
 have di : d * d⁻¹ = 1 := Rat.mul_inv_cancel _ (by grind)
 have i0 : 0 < d⁻¹ := Rat.inv_pos.2 d0
 have hr2 : r = X * (d⁻¹ * d⁻¹) := by rw [hX]; grind
 refine ⟨S * d⁻¹, Rat.mul_nonneg S0 (Rat.le_of_lt i0), ?_, ?_⟩
 ·have := Rat.mul_nonneg (show 0 ≤ X - S * S by grind) (Rat.le_of_lt (Rat.mul_pos i0 i0))
  grind
 ·have := Rat.mul_pos (show 0 < (S + 1) * (S + 1) - X by grind) (Rat.mul_pos i0 i0)
  have e : (1 : Rat) / d = d⁻¹ := by rw [Rat.div_def, Rat.one_mul]
  rw [e]
  grind
theorem small_inv (e : Rat) (he : 0 < e) : ∃ N : Nat, ∀ n : Nat, N ≤ n → 1 / ((n + 1 : Nat) : Rat) < e := by
 refine ⟨e⁻¹.floor.toNat, fun n hn => ?_⟩
 obtain ⟨d, hd⟩ : ∃ d : Rat, d = ((n + 1 : Nat) : Rat) := ⟨_, rfl⟩
 have d0 : 0 < d := by rw [hd]; exact_mod_cast Nat.succ_pos n
 have h1 : e⁻¹ < d := by
  have : e⁻¹.floor < ((n + 1 : Nat) : Int) := by omega
  have := Rat.floor_lt_iff.1 this
  rw [hd]; exact_mod_cast this
 rw [← hd, Rat.div_def, Rat.one_mul]
 have i0 : 0 < d⁻¹ := Rat.inv_pos.2 d0
 have e0 : 0 < e⁻¹ := Rat.inv_pos.2 he
 have := Rat.mul_pos (show 0 < d - e⁻¹ by grind) (Rat.mul_pos i0 he)
 have x1 : d * d⁻¹ = 1 := Rat.mul_inv_cancel _ (by grind)
 have x2 : e * e⁻¹ = 1 := Rat.mul_inv_cancel _ (by grind)
 generalize e⁻¹ = e' at *
 generalize d⁻¹ = d' at *
 clear hd hn h1
 rw [show (d - e') * (d' * e) = (d * d') * e - (e * e') * d' by grind, x1, x2] at this
 grind
theorem lt_of_sq {a b : Rat} (hb : 0 ≤ b) (h : a * a < b * b) : a < b := by
 apply Rat.not_le.1
 intro hc
 have := Rat.mul_nonneg (show 0 ≤ a - b by grind) (show 0 ≤ a + b by grind)
 grind
noncomputable def sqSeq (r : Rat) (hr : 0 ≤ r) (n : Nat) : Rat := Classical.choose (rsq_ex r hr n)
theorem sqSeq_spec (r : Rat) (hr : 0 ≤ r) (n : Nat) : 0 ≤ sqSeq r hr n ∧ sqSeq r hr n * sqSeq r hr n ≤ r ∧ r < (sqSeq r hr n + 1 / ((n + 1 : Nat) : Rat)) * (sqSeq r hr n + 1 / ((n + 1 : Nat) : Rat)) := Classical.choose_spec (rsq_ex r hr n)
theorem one_div_pos (n : Nat) : 0 < 1 / ((n + 1 : Nat) : Rat) := by
 have d0 : (0 : Rat) < ((n + 1 : Nat) : Rat) := by exact_mod_cast Nat.succ_pos n
 rw [Rat.div_def, Rat.one_mul]; exact Rat.inv_pos.2 d0
theorem sq_cau (r : Rat) (hr : 0 ≤ r) : Cau (sqSeq r hr) := fun e he => by
 obtain ⟨N, hN⟩ := small_inv e he
 refine ⟨N, fun m hm n hn => ?_⟩
 obtain ⟨a0, a1, a2⟩ := sqSeq_spec r hr m
 obtain ⟨b0, b1, b2⟩ := sqSeq_spec r hr n
 have c1 := hN n hn
 have p := one_div_pos n
 have := lt_of_sq (a := sqSeq r hr m) (b := sqSeq r hr n + 1 / ((n + 1 : Nat) : Rat)) (by grind) (by grind)
 grind
namespace RR
open Classical in
noncomputable def sqrt (r : Rat) : RR := if hr : 0 ≤ r then mk ⟨sqSeq r hr, sq_cau r hr⟩ else 0
theorem sqrt_nonneg (r : Rat) : 0 ≤ sqrt r := by
 unfold sqrt
 split
 ·rename_i hr
  rw [← not_lt, lt_zero, zero_lt]
  intro h
  obtain ⟨d, d0, N, hN⟩ := (h : Pst fun n => -(sqSeq r hr n))
  have h1 : d ≤ -(sqSeq r hr N) := hN N (Nat.le_refl _)
  have h2 := (sqSeq_spec r hr N).1
  grind
 ·exact le_refl _
theorem sqrt_sq (r : Rat) (hr : 0 ≤ r) : sqrt r * sqrt r = r := by
 unfold sqrt
 rw [dif_pos hr]
 refine sound (b := ⟨fun _ => r, Cau.const r⟩) ?_
 have goal : Nul fun n => sqSeq r hr n * sqSeq r hr n - r := by
  intro e he
  obtain ⟨B, hB, M, hM⟩ := (sq_cau r hr).bdd
  have hC : 0 < 2 * B + 1 := by grind
  obtain ⟨N, hN⟩ := small_inv (e / (2 * B + 1)) (div_small he hC)
  obtain ⟨N1, hN1⟩ := small_inv 1 (by decide)
  refine ⟨M + N + N1, fun n hn => ?_⟩
  obtain ⟨b0, b1, b2⟩ := sqSeq_spec r hr n
  have c1 := hM n (by omega)
  have c2 := hN n (by omega)
  have c3 := hN1 n (by omega)
  have c4 := one_div_pos n
  have c5 := div_mul (e := e) hC
  show sqSeq r hr n * sqSeq r hr n - r < e ∧ -e < sqSeq r hr n * sqSeq r hr n - r
  generalize sqSeq r hr n = u at *
  generalize 1 / ((n + 1 : Nat) : Rat) = t at *
  generalize e / (2 * B + 1) = q at *
  have d1 := Rat.mul_pos (show 0 < q - t by grind) hC
  have d2 := Rat.mul_pos c4 (show 0 < B - u by grind)
  have d3 := Rat.mul_pos c4 (show 0 < 1 - t by grind)
  constructor <;> grind
 exact goal
theorem sqrt_pos {r : Rat} (h : 0 < r) : 0 < sqrt r := by
 rcases lt_or_eq (sqrt_nonneg r) with h1 | h1
 ·exact h1
 ·exfalso
  have h2 := sqrt_sq r (Rat.le_of_lt h)
  rw [← h1, ring (x := (0 : RR) * 0) (y := ofRat 0) [] (by decide +kernel)] at h2
  have := rat_inj h2
  rw [← this] at h
  exact Rat.lt_irrefl h
theorem sqrt_zero : sqrt 0 = 0 := by
 have h2 := sqrt_sq 0 (by decide)
 rcases tri (sqrt 0) 0 with h | h | h
 ·exact absurd h (sqrt_nonneg 0)
 ·exact h
 ·exact absurd (mul_pos h h) (by rw [h2]; exact lt_irrefl _)
theorem sg_sqrt {r : Rat} (h : 0 ≤ r) : sgR (sqrt r) = sgR (ofRat r) := by
 rcases tri (ofRat r) 0 with g | g | g
 ·exact absurd (rat_lt.1 g) (Rat.not_lt.2 h)
 ·have : r = 0 := rat_inj g
  subst this
  rw [sqrt_zero]; rfl
 ·rw [sg_pos g, sg_pos (sqrt_pos (rat_lt.1 g))]
end RR
end Vi

end
section
/- No program in sight: the numbers p + sqrt r and p - sqrt r: signs, comparison, the canonical form. -/
namespace Vi
open RR
def sgQ (a : Rat) : Int := if a < 0 then -1 else if a = 0 then 0 else 1
theorem sgQ_cases (a : Rat) : (sgQ a = -1 ∧ a < 0) ∨ (sgQ a = 0 ∧ a = 0) ∨ (sgQ a = 1 ∧ 0 < a) := by
 unfold sgQ
 by_cases h : a < 0
 ·exact .inl ⟨if_pos h, h⟩
 ·rw [if_neg h]
  by_cases h2 : a = 0
  ·exact .inr (.inl ⟨if_pos h2, h2⟩)
  ·exact .inr (.inr ⟨if_neg h2, by grind⟩)
theorem sg_rat (a : Rat) : sgR (ofRat a) = sgQ a := by
 rcases sgQ_cases a with ⟨h1, h⟩ | ⟨h1, rfl⟩ | ⟨h1, h⟩ <;> rw [h1]
 ·exact RR.sg_neg (rat_lt.2 h)
 ·exact RR.sg_zero rfl
 ·exact sg_pos (rat_lt.2 h)
def signF (a b r : Rat) : Int :=
 if sgQ b * sgQ r = 0 ∨ sgQ a = sgQ b * sgQ r then sgQ a else if sgQ a = 0 then sgQ b * sgQ r else sgQ a * sgQ (a * a - b * b * r)
theorem signF_eq (a b r : Rat) (hr : 0 ≤ r) : signF a b r = sgR (ofRat a + ofRat b * sqrt r) := by
 have hn : sgR (ofRat b * sqrt r) = sgQ b * sgQ r := by rw [sg_mul, sg_sqrt hr, sg_rat, sg_rat]
 have hm := sg_rat a
 unfold signF
 rw [← hn, ← hm, ← sg_rat (a * a - b * b * r)]
 split
 ·rename_i h
  rcases h with h | h
  ·exact (sg_add_same (.inr h)).symm
  ·exact (sg_add_same (.inl h)).symm
 ·rename_i h
  split
  ·rename_i h0
   have := sg_iff0.1 h0
   rw [this, ring (x := 0 + ofRat b * sqrt r) (y := ofRat b * sqrt r) [b, sqrt r] (by decide +kernel)]
  ·rename_i h0
   rw [sg_add_diff ?_ h0]
   ·have e : ofRat a * ofRat a - ofRat b * sqrt r * (ofRat b * sqrt r) = ofRat (a * a - b * b * r) :=
      ring1 [a, b, r, sqrt r] (sqrt_sq r hr) (-(b * b)) (by decide +kernel)
    rw [e]
   ·rcases sg_cases (ofRat a) with ⟨g1, _⟩ | ⟨g1, _⟩ | ⟨g1, _⟩ <;> rcases sg_cases (ofRat b * sqrt r) with ⟨g2, _⟩ | ⟨g2, _⟩ | ⟨g2, _⟩ <;> rw [g1, g2] at h ⊢ <;> simp_all
theorem RR.sqrt_unique {r : Rat} (hr : 0 ≤ r) {u : RR} (h0 : 0 ≤ u) (h : u * u = ofRat r) : sqrt r = u := by
 have h2 := sqrt_sq r hr
 have e : (sqrt r - u) * (sqrt r + u) = 0 := by
  have : (sqrt r - u) * (sqrt r + u) = sqrt r * sqrt r - u * u := ring [sqrt r, u] (by decide +kernel)
  rw [this, h2, h]; exact ring [r] (by decide +kernel)
 by_cases h3 : sqrt r - u = 0
 ·exact ring1 [sqrt r, u] h3 1 (by decide +kernel)
 ·by_cases h4 : sqrt r + u = 0
  ·
   rcases lt_or_eq h0 with g | g
   ·have := add_pos_of_nonneg g (sqrt_nonneg r)
    rw [RR.add_comm, h4] at this
    exact absurd this (lt_irrefl 0)
   ·rw [← g] at h4 ⊢
    exact ring1 [sqrt r] h4 1 (by decide +kernel)
  ·exact absurd e (mul_ne h3 h4)
theorem RR.sqrt_mul {p q : Rat} (hp : 0 ≤ p) (hq : 0 ≤ q) : sqrt (p * q) = sqrt p * sqrt q := by
 refine RR.sqrt_unique (Rat.mul_nonneg hp hq) (RR.mul_nonneg (sqrt_nonneg p) (sqrt_nonneg q)) ?_
 exact ring2 [sqrt p, sqrt q, p, q] (sqrt_sq p hp) (sqrt q * sqrt q) (sqrt_sq q hq) p (by decide +kernel)
theorem RR.sqrt_sqr {q : Rat} (hq : 0 ≤ q) : sqrt (q * q) = ofRat q := RR.sqrt_unique (Rat.mul_nonneg hq hq) (rat_le.2 hq) rfl
structure Rl where
 p : Rat
 r : Rat
 neg : Bool
namespace Rl
def s (x : Rl) : Rat := if x.neg then -1 else 1
def Ok (x : Rl) : Prop := (x.r = 0 ∧ x.neg = false) ∨ (0 < x.r ∧ ∀ q : Rat, q * q ≠ x.r)
theorem Ok.nonneg {x : Rl} (h : x.Ok) : 0 ≤ x.r := by
 rcases h with ⟨h, _⟩ | ⟨h, _⟩
 ·rw [h]; exact Rat.le_refl
 ·exact Rat.le_of_lt h
theorem s_sq (x : Rl) : x.s * x.s = 1 := by unfold s; split <;> decide +kernel
theorem s_cases (x : Rl) : (x.neg = true ∧ x.s = -1) ∨ (x.neg = false ∧ x.s = 1) := by
 unfold s; cases x.neg <;> simp
noncomputable def val (x : Rl) : RR := ofRat x.p + ofRat x.s * sqrt x.r
noncomputable def cmp (x y : Rl) : Int := sgR (x.val - y.val)
def rat (q : Rat) : Rl := ⟨q, 0, false⟩
theorem rat_ok (q : Rat) : (rat q).Ok := .inl ⟨rfl, rfl⟩
theorem rat_val (q : Rat) : (rat q).val = ofRat q := by
 unfold val
 show ofRat q + ofRat (rat q).s * sqrt 0 = ofRat q
 rw [sqrt_zero]; exact ring [ofRat q, ofRat (rat q).s] (by decide +kernel)
def cmpF (x y : Rl) : Int :=
 if sgQ (-y.s) * sgQ y.r = 0 ∨ signF (x.p - y.p) x.s x.r = sgQ (-y.s) * sgQ y.r then signF (x.p - y.p) x.s x.r
 else if signF (x.p - y.p) x.s x.r = 0 then sgQ (-y.s) * sgQ y.r
 else signF (x.p - y.p) x.s x.r * signF ((x.p - y.p) * (x.p - y.p) + x.r - y.r) (2 * ((x.p - y.p) * x.s)) x.r
theorem opp_of {x y : RR} (h : ¬ (sgR y = 0 ∨ sgR x = sgR y)) (h0 : ¬ sgR x = 0) : sgR x = -sgR y := by
 rcases sg_cases x with ⟨g1, _⟩ | ⟨g1, _⟩ | ⟨g1, _⟩ <;> rcases sg_cases y with ⟨g2, _⟩ | ⟨g2, _⟩ | ⟨g2, _⟩ <;> rw [g1, g2] at h ⊢ <;> simp_all
theorem cmpF_eq (x y : Rl) (hx : 0 ≤ x.r) (hy : 0 ≤ y.r) : cmpF x y = cmp x y := by
 have hn : sgR (ofRat (-y.s) * sqrt y.r) = sgQ (-y.s) * sgQ y.r := by rw [sg_mul, sg_sqrt hy, sg_rat, sg_rat]
 have hm := signF_eq (x.p - y.p) x.s x.r hx
 unfold cmpF cmp
 have e : x.val - y.val = (ofRat (x.p - y.p) + ofRat x.s * sqrt x.r) + ofRat (-y.s) * sqrt y.r := by
  unfold val
  exact ring [x.p, y.p, x.s, y.s, sqrt x.r, sqrt y.r] (by decide +kernel)
 rw [e, ← hn, hm]
 split
 ·rename_i h
  rcases h with h | h
  ·exact (sg_add_same (.inr h)).symm
  ·exact (sg_add_same (.inl h)).symm
 ·rename_i h
  split
  ·rename_i h0
   have := sg_iff0.1 h0
   rw [this, ring (x := 0 + ofRat (-y.s) * sqrt y.r) (y := ofRat (-y.s) * sqrt y.r) [y.s, sqrt y.r] (by decide +kernel)]
  ·rename_i h0
   rw [sg_add_diff (opp_of h h0) h0, signF_eq _ _ _ hx]
   congr 2
   have s1 : ofRat x.s * ofRat x.s = 1 := by rw [← rat_mul, s_sq]; rfl
   have s2 : ofRat y.s * ofRat y.s = 1 := by rw [← rat_mul, s_sq]; rfl
   have r1 := sqrt_sq x.r hx
   have r2 := sqrt_sq y.r hy
   have t1 : ofRat x.s * sqrt x.r * (ofRat x.s * sqrt x.r) = x.r := ring2 [x.s, sqrt x.r, x.r] s1 (sqrt x.r * sqrt x.r) r1 1 (by decide +kernel)
   have t2 : ofRat y.s * sqrt y.r * (ofRat y.s * sqrt y.r) = y.r := ring2 [y.s, sqrt y.r, y.r] s2 (sqrt y.r * sqrt y.r) r2 1 (by decide +kernel)
   exact ring2 [x.p, y.p, x.s, sqrt x.r, y.s, sqrt y.r, x.r, y.r] t1 (-1) t2 1 (by decide +kernel)
theorem sr_sq (x : Rl) (hx : 0 ≤ x.r) : ofRat x.s * sqrt x.r * (ofRat x.s * sqrt x.r) = x.r := by
 have s1 : ofRat x.s * ofRat x.s = 1 := by rw [← rat_mul, s_sq]; rfl
 exact ring2 [x.s, sqrt x.r, x.r] s1 (sqrt x.r * sqrt x.r) (sqrt_sq x.r hx) 1 (by decide +kernel)
theorem inj {x y : Rl} (hx : x.Ok) (hy : y.Ok) (h : x.val = y.val) : x = y := by
 have x0 := hx.nonneg
 have y0 := hy.nonneg
 obtain ⟨d, hd⟩ : ∃ d, d = x.p - y.p := ⟨_, rfl⟩
 have e : ofRat d + ofRat x.s * sqrt x.r = ofRat y.s * sqrt y.r := by
  unfold val at h
  rw [hd]
  exact ring1 [x.p, y.p, x.s, y.s, sqrt x.r, sqrt y.r] h 1 (by decide +kernel)
 have e2 : ofRat d + ofRat x.s * sqrt x.r - ofRat y.s * sqrt y.r = 0 := by rw [e]; exact ring [y.s, sqrt y.r] (by decide +kernel)
 have sq : ofRat (2 * d * x.s) * sqrt x.r = ofRat (y.r - x.r - d * d) := by
  have q1 := sr_sq x x0
  have q2 := sr_sq y y0
  have : (ofRat d + ofRat x.s * sqrt x.r) * (ofRat d + ofRat x.s * sqrt x.r) = y.r := by rw [e, q2]
  exact ring2 [d, x.s, sqrt x.r, x.r, y.r] this 1 q1 (-1) (by decide +kernel)
 by_cases hd0 : d = 0
 ·subst hd0
  have hp : x.p = y.p := by grind
  have hr : x.r = y.r := by
   have q1 := sr_sq x x0
   have q2 := sr_sq y y0
   rw [← e, ring (x := (ofRat 0 + ofRat x.s * sqrt x.r) * (ofRat 0 + ofRat x.s * sqrt x.r)) (y := ofRat x.s * sqrt x.r * (ofRat x.s * sqrt x.r)) [x.s, sqrt x.r] (by decide +kernel), q1] at q2
   exact rat_inj q2
  have hn : x.neg = y.neg := by
   rcases hx with ⟨a, b⟩ | ⟨a, b⟩
   ·rcases hy with ⟨c, d⟩ | ⟨c, d⟩
    ·rw [b, d]
    ·rw [← hr, a] at c; exact absurd c Rat.lt_irrefl
   ·have hs := sqrt_pos a
    rw [← hr] at e
    have : (ofRat x.s - ofRat y.s) * sqrt x.r = 0 := ring1 [x.s, y.s, sqrt x.r] e 1 (by decide +kernel)
    have hxy : ofRat x.s - ofRat y.s = 0 := by
     apply Classical.byContradiction
     intro hc
     exact mul_ne hc (ne_of_lt hs).symm this
    rw [← rat_sub] at hxy
    have hxy := rat_inj (q := 0) hxy
    rcases s_cases x with ⟨a1, a2⟩ | ⟨a1, a2⟩ <;> rcases s_cases y with ⟨b1, b2⟩ | ⟨b1, b2⟩ <;> rw [a2, b2] at hxy <;> rw [a1, b1]
    ·exact absurd hxy (by decide +kernel)
    ·exact absurd hxy (by decide +kernel)
  cases x; cases y
  simp_all
 ·
  exfalso
  have hc : 2 * d * x.s ≠ 0 := by
   have := s_sq x
   intro h0
   have : 2 * d * (x.s * x.s) = 0 := by grind
   grind
  obtain ⟨w, hw⟩ : ∃ w : Rat, w = (y.r - x.r - d * d) / (2 * d * x.s) := ⟨_, rfl⟩
  have hw2 : 2 * d * x.s * w = y.r - x.r - d * d := by
   rw [hw, Rat.div_def, Rat.mul_comm, Rat.mul_assoc, Rat.inv_mul_cancel _ hc, Rat.mul_one]
  have hs : sqrt x.r = ofRat w := by
   have h1 : ofRat (2 * d * x.s) * (sqrt x.r - ofRat w) = 0 := by
    rw [← hw2] at sq
    exact ring1 [d, x.s, w, sqrt x.r] sq 1 (by decide +kernel)
   apply Classical.byContradiction
   intro hne
   refine mul_ne (fun h => hc (rat_inj h)) (fun h => hne ?_) h1
   exact ring1 [sqrt x.r, w] h 1 (by decide +kernel)
  have hww : w * w = x.r := by
   have := sqrt_sq x.r x0
   rw [hs] at this
   exact rat_inj this
  rcases hx with ⟨a, b⟩ | ⟨a, b⟩
  ·
   rw [a] at hww
   have w0 : w = 0 := by rcases Rat.mul_eq_zero.1 hww with h | h <;> exact h
   have hyr : y.r = d * d := by rw [w0, a] at hw2; grind
   rcases hy with ⟨c, _⟩ | ⟨c, f⟩
   ·have : d * d = 0 := by rw [← hyr, c]
    rcases Rat.mul_eq_zero.1 this with h | h <;> exact hd0 h
   ·exact f d hyr.symm
  ·exact b w hww
end Rl
end Vi

end
section
/- Sizes of fractions, found by instances; the least and the greatest of fractions; the sign of a fraction. -/
namespace Vi
class HasSz (q : Rat) (k : outParam Nat) : Prop where
 sz : Sz k q
instance (p q : Rat) (i j : Nat) [h : HasSz p i] [g : HasSz q j] : HasSz (p + q) (i + j + 1) := ⟨h.sz.add g.sz⟩
instance (p q : Rat) (i j : Nat) [h : HasSz p i] [g : HasSz q j] : HasSz (p - q) (i + j + 1) := ⟨h.sz.sub g.sz⟩
instance (p q : Rat) (i j : Nat) [h : HasSz p i] [g : HasSz q j] : HasSz (p * q) (i + j) := ⟨h.sz.mul g.sz⟩
instance (p : Rat) (i : Nat) [h : HasSz p i] : HasSz (-p) i := ⟨h.sz.neg⟩
theorem lt_pow_self (n : Nat) : n < 256 ^ (n + 1) := by
 induction n with
 | zero => decide
 | succ n ih => rw [Nat.pow_succ]; omega
theorem int_hs (z : Int) (k : Nat) (h : z.natAbs < 256 ^ (k + 1)) : HasSz (z : Rat) (k + 1) :=
 ⟨by rw [Rat.num_intCast]; exact h, by rw [Rat.den_intCast, Nat.pow_succ]; have := Nat.pow_pos (a := 256) (n := k) (by omega); omega⟩
instance (n : Nat) : HasSz (no_index (OfNat.ofNat n : Rat)) (n + 1) := by
 have := int_hs (n : Int) n (by simpa using lt_pow_self n)
 exact this
instance : HasSz (0 : Rat) 1 := ⟨by unfold Sz; decide⟩
instance : HasSz (1 : Rat) 1 := ⟨by unfold Sz; decide⟩
instance : HasSz (2 : Rat) 1 := ⟨by unfold Sz; decide⟩
instance : HasSz (4 : Rat) 1 := ⟨by unfold Sz; decide⟩
theorem hs_div (p q : Rat) (i j : Nat) [h : HasSz p i] [g : HasSz q j] (h0 : q ≠ 0) : HasSz (p / q) (i + j) := ⟨h.sz.div g.sz (fun e => h0 (Rat.num_eq_zero.1 e))⟩
theorem hs_mono {p : Rat} {i j : Nat} (h : HasSz p i) (hij : i ≤ j) : HasSz p j := ⟨h.sz.mono hij⟩
def minQ (p q : Rat) : Rat := if p ≤ q then p else q
def maxQ (p q : Rat) : Rat := if q ≤ p then p else q
instance (p q : Rat) (i j : Nat) [h : HasSz p i] [g : HasSz q j] : HasSz (minQ p q) (i + j) := by
 unfold minQ; split
 ·exact hs_mono h (by omega)
 ·exact hs_mono g (by omega)
instance (p q : Rat) (i j : Nat) [h : HasSz p i] [g : HasSz q j] : HasSz (maxQ p q) (i + j) := by
 unfold maxQ; split
 ·exact hs_mono h (by omega)
 ·exact hs_mono g (by omega)
theorem minQ_self (p : Rat) : minQ p p = p := by unfold minQ; split <;> rfl
theorem maxQ_self (p : Rat) : maxQ p p = p := by unfold maxQ; split <;> rfl
end Vi
namespace Go.Proofs.YtlblfgbpogljoaaGreatDoor
open Go Go.RowKit Go.Sy
open Vi
theorem fz {q : Rat} {k : Nat} [h : HasSz q k] (hk : k ≤ 131000 := by first | omega | decide) : Fits q := h.sz.fits hk
theorem pMinQ (p q : Rat) (hp : Fits p) (hq : Fits q) : Sp Tryz.prog 190 [] [rV p, rV q] (rV (minQ p q)) [] := pMin p q hp hq
theorem pMaxQ (p q : Rat) (hp : Fits p) (hq : Fits q) : Sp Tryz.prog 136 [] [rV p, rV q] (rV (maxQ p q)) [] := pMax p q hp hq
theorem cmpI_sg (p : Rat) : cmpI p.num 0 = sgQ p := by
 rcases sgn_cases p with ⟨h1, h2⟩ | ⟨h1, h2⟩ | ⟨h1, h2⟩ <;> rcases sgQ_cases p with ⟨g1, g2⟩ | ⟨g1, g2⟩ | ⟨g1, g2⟩ <;> rw [h1, g1] <;> grind
theorem cmpQ_sg (p q : Rat) : cmpQ p q = sgQ (p - q) := by
 rcases cmpQ_cases p q with ⟨h1, h2⟩ | ⟨h1, h2⟩ | ⟨h1, h2⟩ <;> rcases sgQ_cases (p - q) with ⟨g1, g2⟩ | ⟨g1, g2⟩ | ⟨g1, g2⟩ <;> rw [h1, g1] <;> grind
theorem cmpQ_lss {p q : Rat} {b : Bool} (h : decide (p < q) = b) : decide (cmpQ p q < 0) = b := by
 rw [← h]
 rcases cmpQ_cases p q with ⟨h1, h2⟩ | ⟨h1, h2⟩ | ⟨h1, h2⟩ <;> rw [h1]
 ·rw [show decide (p < q) = true from decide_eq_true (by grind)]; rfl
 ·rw [show decide (p < q) = false from decide_eq_false (by grind)]; rfl
 ·rw [show decide (p < q) = false from decide_eq_false (by grind)]; rfl
theorem cmpQ_gtr {p q : Rat} {b : Bool} (h : decide (q < p) = b) : decide (cmpQ p q > 0) = b := by
 rw [← h]
 rcases cmpQ_cases p q with ⟨h1, h2⟩ | ⟨h1, h2⟩ | ⟨h1, h2⟩ <;> rw [h1]
 ·rw [show decide (q < p) = false from decide_eq_false (by grind)]; rfl
 ·rw [show decide (q < p) = false from decide_eq_false (by grind)]; rfl
 ·rw [show decide (q < p) = true from decide_eq_true (by grind)]; rfl
theorem cmpQ_leq {p q : Rat} {b : Bool} (h : decide (p ≤ q) = b) : decide (cmpQ p q ≤ 0) = b := by
 rw [← h]
 rcases cmpQ_cases p q with ⟨h1, h2⟩ | ⟨h1, h2⟩ | ⟨h1, h2⟩ <;> rw [h1]
 ·rw [show decide (p ≤ q) = true from decide_eq_true (by grind)]; rfl
 ·rw [show decide (p ≤ q) = true from decide_eq_true (by grind)]; rfl
 ·rw [show decide (p ≤ q) = false from decide_eq_false (by grind)]; rfl
theorem cmpQ_self (p : Rat) : cmpQ p p = 0 := by
 rcases cmpQ_cases p p with ⟨h1, h2⟩ | ⟨h1, h2⟩ | ⟨h1, h2⟩
 ·exact absurd h2 Rat.lt_irrefl
 ·exact h1
 ·exact absurd h2 Rat.lt_irrefl
def oV (l h : Rat) : Value := .agg #[.bool (sg l.num), .string (mg l.num), .bool (sg (dn l)), .string (mg (dn l)), .bool (sg h.num), .string (mg h.num), .bool (sg (dn h)), .string (mg (dn h))]
def oZ : Value := .agg #[.bool false, .string ⟨#[]⟩, .bool false, .string ⟨#[]⟩, .bool false, .string ⟨#[]⟩, .bool false, .string ⟨#[]⟩]
end Go.Proofs.YtlblfgbpogljoaaGreatDoor

end
section
/- The reference's square root of an integer, binary digit by binary digit. -/
namespace Go.Proofs.YtlblfgbpogljoaaGreatDoor
open Go Go.RowKit
open Vi
def hi2 (r p : Nat) : Nat := r / 2 ^ p * 2 ^ p
theorem hi2_zero (r : Nat) : hi2 r 0 = r := by unfold hi2; rw [Nat.pow_zero, Nat.div_one, Nat.mul_one]
theorem hi2_top (r n : Nat) (h : r < 256 ^ n) : hi2 r (8 * n) = 0 := by
 unfold hi2; rw [Nat.div_eq_of_lt (by rw [← pow8]; exact h), Nat.zero_mul]
theorem hi2_le (r p : Nat) : hi2 r p ≤ r := Nat.div_mul_le_self r _
theorem hi2_step (r i : Nat) : hi2 r i = hi2 r (i + 1) + (r / 2 ^ i % 2) * 2 ^ i := by
 unfold hi2
 have h := half_step r i
 have hp : 2 ^ (i + 1) = 2 ^ i * 2 := Nat.pow_succ ..
 generalize r / 2 ^ (i + 1) = a at *
 rw [hp]
 generalize r / 2 ^ i % 2 = b at *
 have e : a * (2 ^ i * 2) = (2 * a) * 2 ^ i := by rw [Nat.mul_comm (2 ^ i) 2, ← Nat.mul_assoc, Nat.mul_comm a 2]
 rw [e, ← Nat.add_mul, ← h]
theorem hi2_bit (r X i : Nat) (h1 : r * r ≤ X) (h2 : X < (r + 1) * (r + 1)) :
    ((hi2 r (i + 1) + 2 ^ i) * (hi2 r (i + 1) + 2 ^ i) ≤ X ∧ hi2 r i = hi2 r (i + 1) + 2 ^ i) ∨ (X < (hi2 r (i + 1) + 2 ^ i) * (hi2 r (i + 1) + 2 ^ i) ∧ hi2 r i = hi2 r (i + 1)) := by
 have hs := hi2_step r i
 have hb : r / 2 ^ i % 2 = 0 ∨ r / 2 ^ i % 2 = 1 := by omega
 rcases hb with hb | hb
 ·right
  rw [hb, Nat.zero_mul, Nat.add_zero] at hs
  refine ⟨?_, hs⟩
  have h3 : r < hi2 r i + 2 ^ i := by
   unfold hi2
   have h4 := Nat.div_add_mod r (2 ^ i)
   have h5 := Nat.mod_lt r (show 0 < 2 ^ i from Nat.pow_pos (by omega))
   rw [Nat.mul_comm] at h4
   omega
  rw [hs] at h3
  have h6 := Nat.mul_le_mul (show r + 1 ≤ hi2 r (i + 1) + 2 ^ i by omega) (show r + 1 ≤ hi2 r (i + 1) + 2 ^ i by omega)
  omega
 ·left
  rw [hb, Nat.one_mul] at hs
  refine ⟨?_, hs⟩
  rw [← hs]
  have h6 := Nat.mul_le_mul (hi2_le r i) (hi2_le r i)
  omega
theorem root_half (r X N : Nat) (h1 : r * r ≤ X) (h2 : X < 256 ^ N) : r < 256 ^ ((N + 1) / 2) := by
 apply Nat.lt_of_not_le
 intro hc
 have h3 := Nat.mul_le_mul hc hc
 rw [← Nat.pow_add] at h3
 have h4 : (256 : Nat) ^ N ≤ 256 ^ ((N + 1) / 2 + (N + 1) / 2) := Nat.pow_le_pow_right (by omega) (by omega)
 omega
set_option maxRecDepth 100000 in
set_option maxHeartbeats 1600000 in
theorem rSqrt_c (x : Int) (r : Nat) (h0 : 0 ≤ x) (h1 : r * r ≤ x.natAbs) (h2 : x.natAbs < (r + 1) * (r + 1)) (w : World) (hx : (mg x).size ≤ 1048576) : Calls Tryz.prog 204 #[.agg #[.bool (sg x), .string (mg x)]] w fun e w' => e = .returned (.agg #[.bool (sg (r : Int)), .string (mg (r : Int))]) ∧ Below w.heap.size w w' := by
 have HD := Lib.hid (fun w => rdig_c x w (by omega))
 have HN1 := Lib.hid (fun (v : Value) (M : Nat) (w : World) (h : DL w v M r) (hM : M ≤ 8589934592) => number_D false v M r (r : Int) w h hM (by simp))
 obtain ⟨N, hN⟩ : ∃ N, N = (mg x).size := ⟨_, rfl⟩
 rw [← hN] at hx HD
 obtain ⟨X, hX⟩ : ∃ X, X = x.natAbs := ⟨_, rfl⟩
 rw [← hX] at h1 h2 HD
 have HB := Lib.hid (fun i => hi2_bit r X i h1 h2)
 have HSQ := Lib.hid h1
 obtain ⟨n, hn⟩ : ∃ n, n = (N + 1) / 2 := ⟨_, rfl⟩
 have hnb : n ≤ 524289 := by omega
 have HMK := Lib.hid (makeInt n · (by omega))
 have hq : ((N : Int) + 1).tdiv 2 = (n : Int) := by rw [hn]; exact Int.ofNat_tdiv (N + 1) 2
 have HN := Lib.hid hN
 have HNN := Lib.hid hn
 clear h1 h2 hN hX hn h0
 go_enter Tryz.func204, Tryz.ntmps204
 go_wp2_with fail
 refine (HD.out _).mono ?_
 rintro e' w1 ⟨v, rfl, hd, hb⟩
 have HRL : Hid (r < 256 ^ n) := Lib.hid (by rw [HNN.out]; exact root_half r X N HSQ.out hd.1)
 obtain ⟨a1, c1, e1⟩ := hd.lenForm
 subst e1
 go_wp2_with fail
 have hmk := HMK.out
 simp only [hmk]
 clear hmk
 have hsz := hb.size
 simp only [World.size_alloc] at hsz
 have hrow : w1.heap[w.heap.size + 1]? = some (.cells #[Value.bool false, Value.string ⟨#[]⟩] 26) := by
  rw [hb.block _ (by simp only [World.size_alloc]; omega)]
  have hnew : ((w.alloc (Obj.cells #[Value.bool (sg x), Value.string (mg x)] 26)).alloc (Obj.cells #[Value.bool false, Value.string ⟨#[]⟩] 26)).heap[(w.alloc (Obj.cells #[Value.bool (sg x), Value.string (mg x)] 26)).heap.size]? = some (.cells #[Value.bool false, Value.string ⟨#[]⟩] 26) := by
   exact Array.getElem?_push_size
  rw [World.size_alloc] at hnew
  exact hnew
 have hbw : Below w.heap.size w w1 := ((Below.alloc (Below.alloc (Below.refl _ _) (Nat.le_refl _) _) (by simp) _)).trans (hb.mono (by simp; omega))
 have AX : Hid (∀ (o : Obj) (u : World), DL ((w1.alloc o).plus u) (.slice a1 N c1) N X) := Lib.hid fun o u => ⟨N, Nat.le_refl _, hd.below (((Below.refl _ _).alloc (Nat.le_refl _) o).trans ((World.below_plus _ _).mono (by simp)))⟩
 have HT := Lib.hid (hi2_top r n HRL.out)
 clear hb hd
 go_wp2_with fail
 go_loopw [5] (fun iv wr => ∃ (p : Nat) (u : World), p ≤ 8 * n ∧ iv = .int .i64 ((p : Int) - 1) ∧ wr = (w1.alloc (.cells (arr .i64 (d8 (hi2 r p)) n) 3)).plus u) (fun iv _ => (intOf iv + 1).toNat)
 case atStart =>
  obtain ⟨u, hu⟩ := World.plus_of_below (Below.refl _ (w1.alloc (.cells (arr .i64 (fun _ => 0) n) 3)))
  have e0 : arr .i64 (fun _ => 0) n = arr .i64 (d8 (hi2 r (8 * n))) n := by
   rw [HT.out]; apply arr_congr; intro i _; rw [d8_zero]
  refine ⟨8 * n, u, Nat.le_refl _, ?_, ?_⟩
  ·first | (congr 1; omega) | rfl
  ·rw [← e0]; exact hu
 case round =>
  obtain ⟨p, u, hp, rfl, rfl⟩ := hrel
  cases p with
  | zero =>
   have e0 : ((0 : Nat) : Int) - 1 = -1 := rfl
   rw [e0]
   have hDr : DL ((w1.alloc (.cells (arr .i64 (d8 (hi2 r 0)) n) 3)).plus u) (.slice (some ⟨w1.heap.size, 0, none⟩) n n) n r := by
    refine ⟨n, Nat.le_refl _, Dl.of_arr _ _ _ _ _ (fun j hj => ?_) ?_ HRL.out (Nat.le_refl _) (by unfold maxLen; omega)⟩
    ·rw [hi2_zero]; simp [go_sem, arr_get _ _ _ _ hj]
    ·simp [go_sem]
   have hNum := HN1.out _ _ _ hDr (by omega)
   have hz2 := World.size_plus (w1.alloc (.cells (arr .i64 (d8 (hi2 r 0)) n) 3)) u
   have hb2 : Below w1.heap.size w1 ((w1.alloc (.cells (arr .i64 (d8 (hi2 r 0)) n) 3)).plus u) := ((Below.refl _ _).alloc (Nat.le_refl _) _).trans ((World.below_plus _ _).mono (by simp))
   clear hDr
   go_wp2_with fail
   refine hNum.mono ?_
   rintro e' w3 ⟨rfl, hb3⟩
   have hb4 : Below w1.heap.size w1 w3 := hb2.trans (hb3.mono (by rw [World.size_alloc] at hz2; omega))
   have hrow3 : w3.heap[w.heap.size + 1]? = some (.cells #[Value.bool false, Value.string ⟨#[]⟩] 26) := (hb4.block _ (by omega)).trans hrow
   have hb5 : Below w.heap.size w w3 := hbw.trans (hb4.mono (by omega))
   clear hb2 hb3 hb4 hNum hz2
   obtain ⟨w8, rfl, hk8⟩ := row_ex hrow3
   go_wp2_with fail
   refine bodyPost_ret (by simp [results, Tryz.results204, go_sem, hk8]; rfl) rfl ?_
   refine ⟨rfl, ?_⟩
   obtain ⟨b1, b2, b3, b4, b5⟩ := hb5
   refine ⟨b1, b2, b3, ?_, fun j hj => ?_⟩
   ·rw [World.size_row] at b4 ⊢; exact b4
   ·have := b5 j hj
    rw [World.heap_row_other _ _ _ _ _ (by omega)] at this ⊢
    exact this
  | succ i =>
   obtain ⟨c, hc⟩ : ∃ z, z = i / 8 := ⟨_, rfl⟩
   obtain ⟨e, he⟩ : ∃ z, z = i % 8 := ⟨_, rfl⟩
   have hi : i = 8 * c + e := by omega
   have he8 : e < 8 := by omega
   have hcn : c < n := by omega
   obtain ⟨Z, hZ⟩ : ∃ z, z = hi2 r (i + 1) := ⟨_, rfl⟩
   have hbit := HB.out i
   rw [← hZ] at hbit ⊢
   have HU : Hid (upd (d8 Z) c (d8 Z c + 2 ^ e) = d8 (Z + 2 ^ i)) := Lib.hid (by
    rw [hi]
    exact bq_upd Z (r / 2 ^ (i + 1)) c e he8 (by rw [hZ, hi]; rfl))
   have i1 : ((i + 1 : Nat) : Int) - 1 = (i : Int) := by omega
   rw [i1]
   have i2 : (i : Int).tdiv 8 = (c : Int) := by rw [hc]; exact Int.ofNat_tdiv i 8
   have i3 : (i : Int).tmod 8 = (e : Int) := by rw [he]; exact Int.ofNat_tmod i 8
   have l1 : (c : Int) < (n : Int) := by omega
   have hi0 : (0 : Int) ≤ (i : Int) := by omega
   obtain ⟨zc, hzc⟩ : ∃ z, z = d8 Z c := ⟨_, rfl⟩
   obtain ⟨pe, hpe⟩ : ∃ z, z = 2 ^ e := ⟨_, rfl⟩
   have hzc2 : zc < 256 := by rw [hzc]; exact d8_lt _ _
   have hpe2 : pe ≤ 128 := by rw [hpe]; exact Nat.le_trans (Nat.pow_le_pow_right (by omega) (show e ≤ 7 by omega)) (by decide)
   have hgz := arr_get .i64 (d8 Z) n c hcn
   rw [← hzc] at hgz
   have j1 : (2 : Int) ^ e = (pe : Int) := by rw [hpe, Int.natCast_pow]; rfl
   have HZC := Lib.hid hzc
   have HPE := Lib.hid hpe
   have Hbit := Lib.hid hbit
   obtain ⟨Z1, hZ1⟩ : ∃ z, z = Z + 2 ^ i := ⟨_, rfl⟩
   rw [← hZ1] at hbit HU Hbit
   have hZ1l : Hid (Z1 < 256 ^ n) := Lib.hid (by
    have hrl := HRL.out
    rw [pow8] at hrl ⊢
    have e8 : 2 ^ (8 * n) = 2 ^ (i + 1) * 2 ^ (8 * n - (i + 1)) := by rw [← Nat.pow_add]; congr 1; omega
    rw [e8] at hrl ⊢
    have ht := Nat.div_lt_of_lt_mul hrl
    have e9 : 2 ^ (i + 1) = 2 ^ i * 2 := Nat.pow_succ ..
    have hp0 : 0 < 2 ^ i := Nat.pow_pos (by omega)
    have h9 := Nat.mul_le_mul_left (2 ^ (i + 1)) ht
    rw [hZ1, hZ]
    unfold hi2
    rw [Nat.mul_comm (r / 2 ^ (i + 1))]
    rw [Nat.mul_succ] at h9
    omega)
   have ew : (arr .i64 (d8 Z) n).setIfInBounds c (.int .i64 ((zc : Int) + (pe : Int))) = arr .i64 (d8 Z1) n := by
    rw [← Int.natCast_add, arr_set, ← HU.out, HZC.out, HPE.out]
   have hg1 := arr_get .i64 (d8 Z1) n c hcn
   have hd1 : d8 Z1 c = zc + pe := by rw [← HU.out, HZC.out, HPE.out]; unfold upd; rw [if_pos rfl]
   rw [hd1] at hg1
   have ew2 : (arr .i64 (d8 Z1) n).setIfInBounds c (.int .i64 (zc : Int)) = arr .i64 (d8 Z) n := by
    rw [arr_set]
    apply arr_congr
    intro j hj
    rw [← HU.out]
    unfold upd
    by_cases hjc : j = c
    ·rw [if_pos hjc, hjc, HZC.out]
    ·rw [if_neg hjc, if_neg hjc]
   have HEW := Lib.hid ew
   have HEW2 := Lib.hid ew2
   clear hc he hi hzc hpe hZ hZ1 hbit hd1 ew ew2 i1
   go_wp2_with fail
   (refine wp_region_exact_t 13 (by kernel_rfl) (by kernel_rfl) ?_; simp only [List.take_succ_cons, List.take_zero, List.drop_succ_cons, List.drop_zero]; repeat go_big_quiet_step (fail)); (refine wpQuiet_nil ?_; rintro _ rfl)
   go_wp2_with fail
   rw [HEW.out]
   obtain ⟨u4, hu4⟩ := later_plus_drew (w1.alloc (.cells (arr .i64 (d8 Z1) n) 3)) u
   show Calls _ _ _ ({ (w1.alloc (.cells (arr .i64 (d8 Z1) n) 3)).plus u with drawn := ((w1.alloc (.cells (arr .i64 (d8 Z1) n) 3)).plus u).drawn + 1 } : World) _
   rw [hu4]
   have hDZ : DL ((w1.alloc (.cells (arr .i64 (d8 Z1) n) 3)).plus u4) (.slice (some ⟨w1.heap.size, 0, none⟩) n n) n Z1 := by
    refine ⟨n, Nat.le_refl _, Dl.of_arr _ _ _ _ _ (fun j hj => ?_) ?_ hZ1l.out (Nat.le_refl _) (by unfold maxLen; omega)⟩
    ·simp [go_sem, arr_get _ _ _ _ hj]
    ·simp [go_sem]
   refine (product_D _ _ n Z1 Z1 _ hDZ hDZ (by omega)).mono ?_
   rintro e' w' ⟨v2, rfl, hd2, hb⟩
   obtain ⟨u5, rfl⟩ := World.plus_of_below ((World.below_plus (w1.alloc (.cells (arr .i64 (d8 Z1) n) 3)) u4).trans (hb.mono (World.size_plus _ _)))
   clear hb hDZ hu4
   go_wp2_with fail
   refine (order_D v2 (.slice a1 N c1) _ _ _ _ _ hd2 (AX.out _ _) (by omega) (by omega)).mono ?_
   rintro e' w' ⟨rfl, rfl⟩
   rcases Hbit.out with ⟨q1, q2⟩ | ⟨q1, q2⟩
   ·have hc0 : ¬ ((0 : Int) < cmpN (Z1 * Z1) X) := by unfold cmpN; split <;> (try split) <;> omega
    clear q1
    have HQ := Lib.hid q2
    clear q2
    go_wp2_with fail
    exact ⟨⟨i, u5, by omega, rfl, by rw [HQ.out]⟩, by simp [intOf]⟩
   ·have hc0 : (0 : Int) < cmpN (Z1 * Z1) X := by unfold cmpN; split <;> (try split) <;> omega
    clear q1
    have HQ := Lib.hid q2
    clear q2
    go_wp2_with fail
    (refine wp_region_exact_t 13 (by kernel_rfl) (by kernel_rfl) ?_; simp only [List.take_succ_cons, List.take_zero, List.drop_succ_cons, List.drop_zero]; repeat go_big_quiet_step (fail)); (refine wpQuiet_nil ?_; rintro _ rfl)
    go_wp2_with fail
    rw [HEW2.out]
    obtain ⟨u6, hu6⟩ := later_plus_drew (w1.alloc (.cells (arr .i64 (d8 Z) n) 3)) u5
    exact ⟨⟨i, u6, by omega, rfl, by rw [HQ.out]; exact hu6⟩, by simp [intOf]⟩
end Go.Proofs.YtlblfgbpogljoaaGreatDoor

end
section
/- Equality of structs, field by field; of bounds. -/
namespace Go.Sy
open Go Go.RowKit
section
variable {P : Program}
inductive FE (P : Program) (d : Nat) (xs ys : Array Value) : List (TypeId × Nat) → Bool → Prop where
 | nil : FE P d xs ys [] true
 | cons {t : TypeId} {off : Nat} {l : List (TypeId × Nat)} {a b : Value} {r q : Bool} (ha : pureRun P (part t xs off) = some a) (hb : pureRun P (part t ys off) = some b)
     (hr : ∀ w, (Op.equalIn d t a b).run P w = .ok r w) (h : FE P d xs ys l q) : FE P d xs ys ((t, off) :: l) (r && q)
theorem FE.run {d : Nat} {xs ys : Array Value} : ∀ {fs : List Field} {l : List (TypeId × Nat)} {q : Bool}, fs.map (fun f => (f.name == "_", f.type, f.offset)) = l.map (fun p => (false, p.1, p.2)) → FE P d xs ys l q →
    ∀ w, (Op.eqFields d xs ys fs).run P w = .ok q w
 | [], [], _, _, h, w => by cases h; rfl
 | f :: fs, [], _, hm, _, _ => by simp at hm
 | [], _ :: _, _, hm, _, _ => by simp at hm
 | f :: fs, _ :: l, _, hm, h, w => by
  cases h with
  | cons ha hb hr h =>
   rename_i t off a b r q
   simp only [List.map_cons, List.cons.injEq, Prod.mk.injEq] at hm
   obtain ⟨⟨h1, h2, h3⟩, hm⟩ := hm
   have hn : f.name ≠ "_" := by simpa using h1
   have ih := FE.run hm h w
   simp only [Op.eqFields, if_pos hn, Sem.run_bind, h2, h3, pureRun_run ha, pureRun_run hb, Result.andThen_ok, hr]
   cases r
   ·simp
   ·simp [ih]
theorem eqStruct {d : Nat} {t : TypeId} {xs ys : Array Value} {l : List (TypeId × Nat)} {q : Bool} (ht : P.underlying t = some (.struct (P.fieldsOf t))) (hp : P.stoodInHeld t = false)
    (hm : (P.fieldsOf t).toList.map (fun f => (f.name == "_", f.type, f.offset)) = l.map (fun p => (false, p.1, p.2))) (h : FE P d xs ys l q) (w : World) : (Op.equalIn (d + 1) t (.agg xs) (.agg ys)).run P w = .ok q w := by
 rw [run_equalIn_agg _ _ _ _ _ ht hp]
 exact h.run hm w
end
end Go.Sy
namespace Go.Proofs.YtlblfgbpogljoaaGreatDoor
open Go Go.RowKit Go.Sy
open Vi
theorem binS {T : TypeId} {xs ys : Array Value} {q : Bool} (h : ∀ w, (Op.equalIn 10000 T (.agg xs) (.agg ys)).run Tryz.prog w = .ok q w) (hg : Tryz.prog.eqGuardType Tryz.prog.depth T = false) : Bin .eql T (.agg xs) (.agg ys) (.bool q) := fun ox oy w => by
 rw [Sem.run_bind, run_eqGuard_agg _ _ _ _ _ _ _ hg, Result.andThen_ok, run_eql_struct, h]
 rfl
theorem eqO_run (d : Nat) (a b x y : Rat) (w : World) : (Op.equalIn (d + 4) 42 (oV a b) (oV x y)).run Tryz.prog w = .ok (decide (a = x) && (decide (b = y) && true)) w :=
 eqStruct (l := [(28, 0), (28, 4)]) (by kernel_rfl) (by kernel_rfl) (by kernel_rfl)
  (.cons (a := rV a) (b := rV x) (by kernel_rfl) (by kernel_rfl) (eqR_run d a x) (.cons (a := rV b) (b := rV y) (by kernel_rfl) (by kernel_rfl) (eqR_run d b y) .nil)) w
theorem binO (a b x y : Rat) {q : Bool} (e : (decide (a = x) && decide (b = y)) = q) : Bin .eql 42 (oV a b) (oV x y) (.bool q) := by
 have h := binS (T := 42) (fun w => eqO_run 9996 a b x y w) (by kernel_rfl)
 rw [Bool.and_true, e] at h
 exact h
theorem oV0 : oV 0 0 = oZ := by
 have := rV0
 unfold rV rZ at this
 unfold oV oZ
 simp only [Value.agg.injEq, Array.mk.injEq, List.cons.injEq, and_true] at this
 obtain ⟨h1, h2, h3, h4⟩ := this
 rw [h1, h2, h3, h4]
theorem binOZ : Bin .eql 42 oZ oZ (.bool true) := by
 rw [← oV0]; exact binO 0 0 0 0 (by decide +kernel)
end Go.Proofs.YtlblfgbpogljoaaGreatDoor
namespace Go.Proofs.YtlblfgbpogljoaaGreatDoor
open Go Go.RowKit Go.Sy
open Vi
theorem eExact (r : Rat) : Sp Tryz.prog 133 [] [rV r] (oV r r) [] := by exact walk (code := Tryz.f133.body.getD .skip) [] fol Tryz.func133 (by kernel_rfl) (fun xs w => Tryz.call133 xs w) (by kernel_rfl)
theorem eNeg (l h : Rat) : Sp Tryz.prog 135 [] [oV l h] (oV (-h) (-l)) [] := by exact walk (code := Tryz.f135.body.getD .skip) [c (pNeg h), c (pNeg l)] fol Tryz.func135 (by kernel_rfl) (fun xs w => Tryz.call135 xs w) (by kernel_rfl)
theorem eAdd (a b c d : Rat) (ha : Fits a) (hb : Fits b) (hc : Fits c) (hd : Fits d) : Sp Tryz.prog 84 [] [oV a b, oV c d] (oV (a + c) (b + d)) [] := by exact walk (code := Tryz.f84.body.getD .skip) [Sy.c (pAdd a c ha hc), Sy.c (pAdd b d hb hd)] fol Tryz.func84 (by kernel_rfl) (fun xs w => Tryz.call84 xs w) (by kernel_rfl)
theorem eSub (a b c d : Rat) (ha : Fits a) (hb : Fits b) (hc : Fits c) (hd : Fits d) : Sp Tryz.prog 82 [] [oV a b, oV c d] (oV (a + -d) (b + -c)) [] := by
 have h1 := hd.neg
 have h2 := hc.neg
 exact walk (code := Tryz.f82.body.getD .skip) [Sy.c (eNeg c d), Sy.c (eAdd a b (-d) (-c) ha hb h1 h2)] fol Tryz.func82 (by kernel_rfl) (fun xs w => Tryz.call82 xs w) (by kernel_rfl)
theorem eLeast2 (a b : Rat) (ha : Fits a) (hb : Fits b) : Sp Tryz.prog 164 [(2, rC a ++ rC b)] [row 0 2] (rV (minQ a b)) [] := by
 have M0 := pMinQ a a ha ha
 rw [minQ_self] at M0
 exact walk (code := Tryz.f164.body.getD .skip) [c M0, c (pMinQ a b ha hb)] fol Tryz.func164 (by kernel_rfl) (fun xs w => Tryz.call164 xs w) (by kernel_rfl)
theorem eGreatest2 (a b : Rat) (ha : Fits a) (hb : Fits b) : Sp Tryz.prog 83 [(2, rC a ++ rC b)] [row 0 2] (rV (maxQ a b)) [] := by
 have M0 := pMaxQ a a ha ha
 rw [maxQ_self] at M0
 exact walk (code := Tryz.f83.body.getD .skip) [c M0, c (pMaxQ a b ha hb)] fol Tryz.func83 (by kernel_rfl) (fun xs w => Tryz.call83 xs w) (by kernel_rfl)
theorem eLeast4 (a b c d : Rat) (k : Nat) (hk : k ≤ 1000) [HasSz a k] [HasSz b k] [HasSz c k] [HasSz d k] : Sp Tryz.prog 164 [(4, rC a ++ rC b ++ rC c ++ rC d)] [row 0 4] (rV (minQ (minQ (minQ a b) c) d)) [] := by
 have M0 := pMinQ a a fz fz
 rw [minQ_self] at M0
 exact walk (code := Tryz.f164.body.getD .skip) [Sy.c M0, Sy.c (pMinQ a b fz fz), Sy.c (pMinQ (minQ a b) c fz fz), Sy.c (pMinQ (minQ (minQ a b) c) d fz fz)] fol Tryz.func164 (by kernel_rfl) (fun xs w => Tryz.call164 xs w) (by kernel_rfl)
theorem eGreatest4 (a b c d : Rat) (k : Nat) (hk : k ≤ 1000) [HasSz a k] [HasSz b k] [HasSz c k] [HasSz d k] : Sp Tryz.prog 83 [(4, rC a ++ rC b ++ rC c ++ rC d)] [row 0 4] (rV (maxQ (maxQ (maxQ a b) c) d)) [] := by
 have M0 := pMaxQ a a fz fz
 rw [maxQ_self] at M0
 exact walk (code := Tryz.f83.body.getD .skip) [Sy.c M0, Sy.c (pMaxQ a b fz fz), Sy.c (pMaxQ (maxQ a b) c fz fz), Sy.c (pMaxQ (maxQ (maxQ a b) c) d fz fz)] fol Tryz.func83 (by kernel_rfl) (fun xs w => Tryz.call83 xs w) (by kernel_rfl)
theorem eAround2 (a b : Rat) (ha : Fits a) (hb : Fits b) : Sp Tryz.prog 124 [(2, rC a ++ rC b)] [row 0 2] (oV (minQ a b) (maxQ a b)) [] := by exact walk (code := Tryz.f124.body.getD .skip) [cr (eLeast2 a b ha hb), cr (eGreatest2 a b ha hb)] fol Tryz.func124 (by kernel_rfl) (fun xs w => Tryz.call124 xs w) (by kernel_rfl)
theorem eAround4 (a b c d : Rat) (k : Nat) (hk : k ≤ 1000) [HasSz a k] [HasSz b k] [HasSz c k] [HasSz d k] : Sp Tryz.prog 124 [(4, rC a ++ rC b ++ rC c ++ rC d)] [row 0 4] (oV (minQ (minQ (minQ a b) c) d) (maxQ (maxQ (maxQ a b) c) d)) [] := by exact walk (code := Tryz.f124.body.getD .skip) [cr (eLeast4 a b c d k hk), cr (eGreatest4 a b c d k hk)] fol Tryz.func124 (by kernel_rfl) (fun xs w => Tryz.call124 xs w) (by kernel_rfl)
theorem eMul (a b c d : Rat) (k : Nat) (hk : k ≤ 500) [HasSz a k] [HasSz b k] [HasSz c k] [HasSz d k] : Sp Tryz.prog 75 [] [oV a b, oV c d] (oV (minQ (minQ (minQ (a * c) (a * d)) (b * c)) (b * d)) (maxQ (maxQ (maxQ (a * c) (a * d)) (b * c)) (b * d))) [] := by
 have A := eAround4 (a * c) (a * d) (b * c) (b * d) (k + k) (by omega)
 exact walk (code := Tryz.f75.body.getD .skip) [Sy.c (pMul a c fz fz), Sy.c (pMul a d fz fz), Sy.c (pMul b c fz fz), Sy.c (pMul b d fz fz), cr A] fol Tryz.func75 (by kernel_rfl) (fun xs w => Tryz.call75 xs w) (by kernel_rfl)
theorem eContains (l h r : Rat) (hl : Fits l) (hh : Fits h) (hr : Fits r) : Sp Tryz.prog 125 [] [oV l h, rV r] (.bool (decide (l ≤ r) && decide (r ≤ h))) [] := by
 have C1 := pCompare l r hl hr
 have C2 := pCompare r h hr hh
 cases h1 : decide (l ≤ r)
 ·have e1 := cmpQ_leq h1
  exact walk (code := Tryz.f125.body.getD .skip) [c C1, eb e1] fol Tryz.func125 (by kernel_rfl) (fun xs w => Tryz.call125 xs w) (by kernel_rfl)
 ·have e1 := cmpQ_leq h1
  cases h2 : decide (r ≤ h)
  ·have e2 := cmpQ_leq h2
   exact walk (code := Tryz.f125.body.getD .skip) [c C1, eb e1, c C2, eb e2] fol Tryz.func125 (by kernel_rfl) (fun xs w => Tryz.call125 xs w) (by kernel_rfl)
  ·have e2 := cmpQ_leq h2
   exact walk (code := Tryz.f125.body.getD .skip) [c C1, eb e1, c C2, eb e2] fol Tryz.func125 (by kernel_rfl) (fun xs w => Tryz.call125 xs w) (by kernel_rfl)
end Go.Proofs.YtlblfgbpogljoaaGreatDoor
namespace Go.Proofs.YtlblfgbpogljoaaGreatDoor
open Go Go.RowKit Go.Sy
open Vi
def lsQ (x y : Rat) : Rat := if y < x then y else x
def grQ (x y : Rat) : Rat := if x < y then y else x
theorem lsQ_cases (x y : Rat) : (decide (y < x) = true ∧ lsQ x y = y) ∨ (decide (y < x) = false ∧ lsQ x y = x) := by
 unfold lsQ
 by_cases h : y < x
 ·exact .inl ⟨decide_eq_true h, if_pos h⟩
 ·exact .inr ⟨decide_eq_false h, if_neg h⟩
theorem grQ_cases (x y : Rat) : (decide (x < y) = true ∧ grQ x y = y) ∨ (decide (x < y) = false ∧ grQ x y = x) := by
 unfold grQ
 by_cases h : x < y
 ·exact .inl ⟨decide_eq_true h, if_pos h⟩
 ·exact .inr ⟨decide_eq_false h, if_neg h⟩
instance (p q : Rat) (i j : Nat) [h : HasSz p i] [g : HasSz q j] : HasSz (lsQ p q) (i + j) := by
 unfold lsQ; split
 ·exact hs_mono g (by omega)
 ·exact hs_mono h (by omega)
instance (p q : Rat) (i j : Nat) [h : HasSz p i] [g : HasSz q j] : HasSz (grQ p q) (i + j) := by
 unfold grQ; split
 ·exact hs_mono g (by omega)
 ·exact hs_mono h (by omega)
theorem rCmp0 (p : Rat) (hp : Fits p) : Sp Tryz.prog 22 [] [rV p, rV p] (nV 0) [] := by
 have := rCompare p p hp hp
 rwa [cmpQ_self] at this
end Go.Proofs.YtlblfgbpogljoaaGreatDoor
namespace Go.Proofs.YtlblfgbpogljoaaGreatDoor
open Go Go.RowKit Go.Sy
open Vi
theorem part_sz (n d : Int) (hn : -2147483648 ≤ n ∧ n ≤ 2147483647) (hd : 0 ≤ d ∧ d ≤ 65535) : HasSz (Rat.divInt n (d + 1)) 4 := by
 have e : (256 : Nat) ^ 4 = 4294967296 := by decide
 exact ⟨Sz.of n (d + 1) 4 (by omega) (by omega) (by omega)⟩
theorem vPart (n d : Int) (hn : -2147483648 ≤ n ∧ n ≤ 2147483647) (hd : 0 ≤ d ∧ d ≤ 65535) : ∃ q : Rat, HasSz q 4 ∧ q = Rat.divInt n (d + 1) ∧ Sp Tryz.prog 131 [] [.agg #[.int .i32 n, .int .u16 d]] (rV q) [] := by
 have w1 : IntKind.i64.wrap n = n := w64 (by omega) (by omega)
 have w2 : IntKind.i64.wrap d = d := w64 (by omega) (by omega)
 have w3 : IntKind.i64.wrap (d + 1) = d + 1 := w64 (by omega) (by omega)
 have O := rOf n (d + 1) (by omega) (by omega) (by omega) (by omega) (by omega)
 refine ⟨Rat.divInt n (d + 1), part_sz n d hn hd, rfl, ?_⟩
 generalize Rat.divInt n (d + 1) = q at *
 exact walk (code := Tryz.f131.body.getD .skip) [Go.Sy.e (congrArg (Value.int IntKind.i64) w1), Go.Sy.e (congrArg (Value.int IntKind.i64) w2), Go.Sy.e (congrArg (Value.int IntKind.i64) w3), c O] fol Tryz.func131 (by kernel_rfl) (fun xs w => Tryz.call131 xs w) (by kernel_rfl)
theorem divInt1 (n : Int) : Rat.divInt n 1 = (n : Rat) := by rw [Rat.divInt_eq_div]; show (n : Rat) / 1 = n; grind
theorem vBound (l h : Int) (l1 : -9223372036854775808 ≤ l) (l2 : l ≤ 9223372036854775807) (h1 : -9223372036854775808 ≤ h) (h2 : h ≤ 9223372036854775807) : Sp Tryz.prog 76 [] [nV l, nV h] (oV (l : Rat) (h : Rat)) [] := by
 have O1 := rOf l 1 l1 l2 (by omega) (by omega) (by omega)
 have O2 := rOf h 1 h1 h2 (by omega) (by omega) (by omega)
 rw [divInt1] at O1 O2
 exact walk (code := Tryz.f76.body.getD .skip) [c O1, c O2] fol Tryz.func76 (by kernel_rfl) (fun xs w => Tryz.call76 xs w) (by kernel_rfl)
end Go.Proofs.YtlblfgbpogljoaaGreatDoor
namespace Go.Proofs.YtlblfgbpogljoaaGreatDoor
open Go Go.RowKit Go.Sy
open Vi
theorem sameO (a b : Rat) : Bin .eql 42 (oV a b) (oV a b) (.bool true) := binO a b a b (by simp)
theorem vSame (l h : Rat) : Sp Tryz.prog 24 [] [oV l h, oV l h] (.bool true) [] := by exact walk (code := Tryz.f24.body.getD .skip) [x2 (same l), x2 (same h)] fol Tryz.func24 (by kernel_rfl) (fun xs w => Tryz.call24 xs w) (by kernel_rfl)
def sqLow (l h : Rat) : Rat := if l ≤ 0 ∧ 0 ≤ h then 0 else minQ (l * l) (h * h)
theorem eSquare (l h : Rat) (k : Nat) (hk : k ≤ 500) [HasSz l k] [HasSz h k] : Sp Tryz.prog 79 [] [oV l h] (oV (sqLow l h) (maxQ (l * l) (h * h))) [] := by
 have A := eAround2 (l * l) (h * h) fz fz
 have C := eContains l h 0 fz fz fz
 rw [rV0] at C
 unfold sqLow
 by_cases h1 : l ≤ 0 ∧ 0 ≤ h
 ·rw [if_pos h1]
  rw [decide_eq_true h1.1, decide_eq_true h1.2, Bool.and_self] at C
  have z0 := rV0
  unfold oV
  rw [show (0 : Rat).num = 0 from rfl, show dn 0 = 0 from rfl, sg0, mg0]
  exact walk (code := Tryz.f79.body.getD .skip) [c (pMul l l fz fz), c (pMul h h fz fz), cr A, c C] fol Tryz.func79 (by kernel_rfl) (fun xs w => Tryz.call79 xs w) (by kernel_rfl)
 ·rw [if_neg h1]
  have e : (decide (l ≤ 0) && decide (0 ≤ h)) = false := by
   rw [← Bool.decide_and, decide_eq_false h1]
  rw [e] at C
  exact walk (code := Tryz.f79.body.getD .skip) [c (pMul l l fz fz), c (pMul h h fz fz), cr A, c C] fol Tryz.func79 (by kernel_rfl) (fun xs w => Tryz.call79 xs w) (by kernel_rfl)
theorem inv1 (x : Rat) (h0 : x ≠ 0) (hx : Fits x) : Sp Tryz.prog 122 [] [rV 1, rV x] (.tuple #[rV (1 / x), nV 0]) [] := pDiv 1 x h0 Fits.one hx
theorem eDiv (a b x y : Rat) (k : Nat) (hk : k ≤ 100) [HasSz a k] [HasSz b k] [HasSz x k] [HasSz y k] (h : ¬ (x ≤ 0 ∧ 0 ≤ y)) (hx : x ≠ 0) (hy : y ≠ 0) : Sp Tryz.prog 77 [] [oV a b, oV x y] (.tuple #[oV (minQ (minQ (minQ (a * (1 / y)) (a * (1 / x))) (b * (1 / y))) (b * (1 / x))) (maxQ (maxQ (maxQ (a * (1 / y)) (a * (1 / x))) (b * (1 / y))) (b * (1 / x))), nV 0]) [] := by
 have C := eContains x y 0 fz fz fz
 have e : (decide (x ≤ 0) && decide (0 ≤ y)) = false := by
  rw [← Bool.decide_and, decide_eq_false h]
 rw [rV0, e] at C
 have I := pI 1 (by omega) (by omega)
 rw [show ((1 : Int) : Rat) = 1 from rfl] at I
 have D1 := inv1 x hx fz
 have D2 := inv1 y hy fz
 haveI : HasSz (1 / x) (k + 2) := hs_mono (hs_div 1 x 1 k hx) (by omega)
 haveI : HasSz (1 / y) (k + 2) := hs_mono (hs_div 1 y 1 k hy) (by omega)
 haveI : HasSz a (k + 2) := hs_mono ‹HasSz a k› (by omega)
 haveI : HasSz b (k + 2) := hs_mono ‹HasSz b k› (by omega)
 have M := eMul a b (1 / y) (1 / x) (k + 2) (by omega)
 generalize 1 / x = u at *
 generalize 1 / y = v at *
 exact walk (code := Tryz.f77.body.getD .skip) [c C, c I, c D2, c D1, c M] fol Tryz.func77 (by kernel_rfl) (fun xs w => Tryz.call77 xs w) (by kernel_rfl)
end Go.Proofs.YtlblfgbpogljoaaGreatDoor
namespace Go.Proofs.YtlblfgbpogljoaaGreatDoor
open Go Go.RowKit Go.Sy
open Vi
def stP (a z : Int) (n i : Nat) : St := ⟨23, 0, [(4, ptr 1 0), (6, ptr 2 0), (2, ptr 0 0), (15, nV n), (16, nV i)], junk, [(0, blk 26 [.bool (sg a), .string (mg a)]), (1, blk 26 [.bool false, .string ⟨#[]⟩]), (2, blk 26 [.bool (sg z), .string (mg z)])], 3⟩
theorem pow_loop (a : Int) (n : Nat) (hn : n ≤ 64) (ha : (mg a).size ≤ 8) : ∀ m i z, i + m = n → (mg z).size ≤ 9 * i + 1 → RoundsOk Tryz.prog (nthLoop 0 (Tryz.f127.body.getD .skip)) (stP a z n i) (.exit 0) (stP a (z * a ^ m) n n)
 | 0, i, z, hi, hz => by
  obtain rfl : i = n := by omega
  have e : decide ((i : Int) < (i : Int)) = false := decide_eq_false (by omega)
  rw [Int.pow_zero, Int.mul_one]
  refine .out (by simp) ?_
  exact piece [(0, 0), (1, 1), (2, 2)] [eb e] fol (by kernel_rfl)
 | m + 1, i, z, hi, hz => by
  have e : decide ((i : Int) < (n : Int)) = true := decide_eq_true (by omega)
  have w1 : IntKind.i64.wrap ((i : Int) + 1) = ((i + 1 : Nat) : Int) := by rw [w64 (by omega) (by omega)]; omega
  have M := iMul z a (by omega) (by omega)
  have hs : (mg (z * a)).size ≤ 9 * (i + 1) + 1 := by
   rw [mg_nd, Int.natAbs_mul]
   rw [mg_nd] at hz ha
   have := nd_mul z.natAbs a.natAbs
   omega
  have ih := pow_loop a n hn ha m (i + 1) (z * a) (by omega) hs
  rw [Int.mul_assoc, ← Int.pow_succ'] at ih
  generalize z * a = z2 at *
  refine .more ?_ ih
  exact piece [(0, 0), (1, 1), (2, 2)] [eb e, c M, Go.Sy.e (congrArg (Value.int IntKind.i64) w1)] fol (by kernel_rfl)
theorem iPow (a : Int) (n : Nat) (hn : n ≤ 64) (ha : (mg a).size ≤ 8) : Sp Tryz.prog 127 [] [iV a, nV n] (.tuple #[iV (a ^ n), nV 0]) [] := by
 have e1 : decide ((n : Int) < 0) = false := decide_eq_false (by omega)
 have e2 : decide ((n : Int) > 64) = false := decide_eq_false (by omega)
 have F := iFromInt 1 (by omega) (by omega)
 have hl := (pow_loop a n hn ha n 0 1 (by omega) (by rw [mg1]; decide)).loop
 rw [Int.one_mul] at hl
 generalize a ^ n = z at *
 exact walk (code := Tryz.f127.body.getD .skip) [eb e1, eb e2, c F, lp [(0, 0), (1, 1), (2, 2)] hl] fol Tryz.func127 (by kernel_rfl) (fun xs w => Tryz.call127 xs w) (by kernel_rfl)
end Go.Proofs.YtlblfgbpogljoaaGreatDoor
namespace Go.Proofs.YtlblfgbpogljoaaGreatDoor
open Go Go.RowKit Go.Sy
open Vi
noncomputable def isq (X : Nat) : Nat := Classical.choose (isRt_ex X)
theorem isq_spec (X : Nat) : IsRt X (isq X) := Classical.choose_spec (isRt_ex X)
theorem iSqrt (x : Int) (h0 : 0 ≤ x) (hx : (mg x).size ≤ 1048576) : Sp Tryz.prog 166 [] [iV x] (.tuple #[iV ((isq x.toNat : Nat) : Int), nV 0]) [] := by
 have h := isq_spec x.toNat
 have e : x.natAbs = x.toNat := by omega
 exact Sp.of (fun xs w => Tryz.call166 xs w) (by kernel_rfl) (by kernel_rfl) (fun w => Sqrt_c x (isq x.toNat) h0 (by rw [e]; exact h.1) (by rw [e]; exact h.2) w hx)
theorem jSqrt (x : Int) (h0 : 0 ≤ x) (hx : (mg x).size ≤ 1048576) : Sp Tryz.prog 204 [] [iV x] (iV ((isq x.toNat : Nat) : Int)) [] := by
 have h := isq_spec x.toNat
 have e : x.natAbs = x.toNat := by omega
 exact Sp.of (fun xs w => Tryz.call204 xs w) (by kernel_rfl) (by kernel_rfl) (fun w => rSqrt_c x (isq x.toNat) h0 (by rw [e]; exact h.1) (by rw [e]; exact h.2) w hx)
def p2 (n : Nat) : Int := 2 ^ n
theorem p2_pos (n : Nat) : 0 < p2 n := Int.pow_pos (by omega)
theorem p2_abs (n k : Nat) (h : n < 8 * k) : (p2 n).natAbs < 256 ^ k := by
 unfold p2
 rw [Int.natAbs_pow, pow8]
 exact Nat.pow_lt_pow_right (by decide) h
theorem p2_size (n k : Nat) (h : n < 8 * k) : (mg (p2 n)).size ≤ k := size_mag_le _ k (p2_abs n k h)
theorem p2_even (n : Nat) (h : n % 2 = 0) : (4 : Int) ^ (n / 2) = p2 n := by
 unfold p2
 rw [show (4 : Int) = 2 ^ 2 from rfl, ← Int.pow_mul]
 congr 1; omega
theorem p2_odd (n : Nat) (h : n % 2 = 1) : (4 : Int) ^ (n / 2) * 2 = p2 n := by
 unfold p2
 rw [show (4 : Int) = 2 ^ 2 from rfl, ← Int.pow_mul, ← Int.pow_succ]
 congr 1; omega
theorem p2_four (k : Nat) : (4 : Int) ^ k = p2 (2 * k) := by unfold p2; rw [Int.pow_mul]; rfl
noncomputable def rtI (a : Rat) (n : Nat) : Int := ((isq (a * ((p2 n * p2 n : Int) : Rat)).floor.toNat : Nat) : Int)
noncomputable def gridQ (a : Rat) (n : Nat) : Rat := Rat.divInt (rtI a n) (p2 n)
noncomputable def highQ (a : Rat) (n : Nat) : Rat := if gridQ a n * gridQ a n = a then gridQ a n else gridQ a n + Rat.divInt 1 (p2 n)
theorem rtI_le (a : Rat) (n : Nat) (h0 : 0 ≤ a) : 0 ≤ rtI a n ∧ ((rtI a n * rtI a n : Int) : Rat) ≤ a * ((p2 n * p2 n : Int) : Rat) ∧ a * ((p2 n * p2 n : Int) : Rat) < (((rtI a n + 1) * (rtI a n + 1) : Int) : Rat) := by
 have hP : 0 < p2 n * p2 n := Int.mul_pos (p2_pos n) (p2_pos n)
 have hs : 0 ≤ a * ((p2 n * p2 n : Int) : Rat) := Rat.mul_nonneg h0 (by exact_mod_cast Int.le_of_lt hP)
 unfold rtI
 generalize a * ((p2 n * p2 n : Int) : Rat) = x at *
 have hf : 0 ≤ x.floor := Rat.le_floor_iff.2 hs
 obtain ⟨h1, h2⟩ := isq_spec x.floor.toNat
 generalize isq x.floor.toNat = r at *
 refine ⟨by omega, ?_, ?_⟩
 ·refine Rat.le_floor_iff.1 ?_
  have : ((r * r : Nat) : Int) ≤ x.floor := by omega
  rwa [Int.natCast_mul] at this
 ·refine Rat.floor_lt_iff.1 ?_
  have : x.floor < (((r + 1) * (r + 1) : Nat) : Int) := by omega
  rwa [Int.natCast_mul, Int.natCast_add] at this
theorem rtI_nd (a : Rat) (n : Nat) (h0 : 0 ≤ a) (hn : n ≤ 256) [ha : HasSz a 40] : (rtI a n).natAbs < 256 ^ 110 := by
 have hP := p2_pos n
 have h1 := rtI_le a n h0
 have hs : Sz 108 (a * ((p2 n * p2 n : Int) : Rat)) := by
  have hp : (p2 n).natAbs < 256 ^ 33 := p2_abs n 33 (by omega)
  have hpp : (p2 n * p2 n).natAbs < 256 ^ (65 + 1) := by
   have := natAbs_mul_lt' hp hp
   exact this
  have := ha.sz.mul (int_hs (p2 n * p2 n) 65 hpp).sz
  exact this.mono (by omega)
 have hf : (a * ((p2 n * p2 n : Int) : Rat)).floor.natAbs < 256 ^ 109 := by
  rw [floor_of]
  have h2 := hs.1
  have h3 : (a * ((p2 n * p2 n : Int) : Rat)).num / ((a * ((p2 n * p2 n : Int) : Rat)).den : Int) ≤ _ := Int.le_refl _
  have h4 := Int.natAbs_ediv_le_natAbs (a * ((p2 n * p2 n : Int) : Rat)).num ((a * ((p2 n * p2 n : Int) : Rat)).den : Int)
  have h5 : (256 : Nat) ^ 109 = 256 ^ 108 * 256 := Nat.pow_succ ..
  omega
 have h6 := isq_spec (a * ((p2 n * p2 n : Int) : Rat)).floor.toNat
 unfold rtI
 have h7 := Nat.le_mul_self (isq (a * ((p2 n * p2 n : Int) : Rat)).floor.toNat)
 have h8 : (256 : Nat) ^ 110 = 256 ^ 109 * 256 := Nat.pow_succ ..
 have h9 := h6.1
 omega
theorem gridQ_nonneg (a : Rat) (n : Nat) (h0 : 0 ≤ a) : 0 ≤ gridQ a n := Rat.divInt_nonneg (rtI_le a n h0).1 (Int.le_of_lt (p2_pos n))
theorem gridQ_sz (a : Rat) (n : Nat) (h0 : 0 ≤ a) (hn : n ≤ 256) [ha : HasSz a 40] : HasSz (gridQ a n) 110 := by
 have h1 := rtI_nd a n h0 hn
 have h2 := Nat.lt_of_lt_of_le (p2_abs n 33 (by omega)) (Nat.pow_le_pow_right (by omega) (show 33 ≤ 110 by omega))
 exact ⟨Sz.of _ _ 110 (by have := p2_pos n; omega) h1 h2⟩
theorem eGrid (a : Rat) (n : Nat) (hn : n ≤ 128) (h0 : 0 ≤ a) [ha : HasSz a 40] : Sp Tryz.prog 126 [] [rV a, nV n] (.tuple #[rV (gridQ a n), .bool (decide (gridQ a n * gridQ a n = a))]) [] := by
 have F4 := iFromInt 4 (by omega) (by omega)
 have F2 := iFromInt 2 (by omega) (by omega)
 have B1 : Bin .quo 3 (nV n) (nV 2) (nV (n / 2 : Nat)) := bin_quo n 2 (by omega) (by omega)
 have B2 : Bin .rem 3 (nV n) (nV 2) (nV (n % 2 : Nat)) := bin_rem n 2 (by omega) (by omega)
 have P := iPow 4 (n / 2) (by omega) (by decide)
 have hP := p2_pos n
 have zP := p2_size n 20 (by omega)
 have PP := iMul (p2 n) (p2 n) (by omega) (by omega)
 haveI : HasSz (((p2 n * p2 n : Int)) : Rat) (39 + 1) := int_hs _ 39 (natAbs_mul_lt' (i := 20) (j := 20) (p2_abs n 20 (by omega)) (p2_abs n 20 (by omega)))
 have M := pMul a ((p2 n * p2 n : Int) : Rat) fz fz
 have fs : Fits (a * ((p2 n * p2 n : Int) : Rat)) := fz
 have Fl := pFloor _ fs
 have hfl : 0 ≤ (a * ((p2 n * p2 n : Int) : Rat)).floor := Rat.le_floor_iff.2 (Rat.mul_nonneg h0 (by exact_mod_cast Int.le_of_lt (Int.mul_pos hP hP)))
 have hfs : (mg (a * ((p2 n * p2 n : Int) : Rat)).floor).size ≤ 1000000 := by
  have h1 := fs.mn
  have h4 := Int.natAbs_ediv_le_natAbs (a * ((p2 n * p2 n : Int) : Rat)).num ((a * ((p2 n * p2 n : Int) : Rat)).den : Int)
  rw [← floor_of] at h4
  have := mg_le h4
  omega
 have R := iSqrt _ hfl (by omega)
 have hrs : (mg (rtI a n)).size ≤ 110 := size_mag_le _ _ (rtI_nd a n h0 (by omega))
 have Mk := pMake (rtI a n) (p2 n) (by omega) (by omega) (by omega)
 haveI := gridQ_sz a n h0 (by omega)
 have Q := pMul (gridQ a n) (gridQ a n) fz fz
 have C := pCompare (gridQ a n * gridQ a n) a fz fz
 have e3 : decide (cmpQ (gridQ a n * gridQ a n) a = 0) = decide (gridQ a n * gridQ a n = a) := by
  rcases cmpQ_cases (gridQ a n * gridQ a n) a with ⟨h1, h2⟩ | ⟨h1, h2⟩ | ⟨h1, h2⟩ <;> rw [h1]
  ·rw [decide_eq_false (show ¬ gridQ a n * gridQ a n = a by grind)]; rfl
  ·rw [decide_eq_true h2]; rfl
  ·rw [decide_eq_false (show ¬ gridQ a n * gridQ a n = a by grind)]; rfl
 have hrt : ((isq (a * ((p2 n * p2 n : Int) : Rat)).floor.toNat : Nat) : Int) = rtI a n := rfl
 have hg : Rat.divInt (rtI a n) (p2 n) = gridQ a n := rfl
 rw [hrt] at R
 rw [hg] at Mk
 rw [← e3]
 clear e3 hg hrt
 have m2 := Nat.mod_lt n (show 0 < 2 by omega)
 rcases (by omega : n % 2 = 0 ∨ n % 2 = 1) with hm | hm
 ·rw [p2_even n hm] at P
  rw [hm] at B2
  generalize gridQ a n * gridQ a n = gg at *
  generalize gridQ a n = g at *
  generalize rtI a n = rt at *
  generalize n / 2 = k at *
  rw [rV_int] at M
  generalize a * ((p2 n * p2 n : Int) : Rat) = s at *
  generalize p2 n * p2 n = q at *
  generalize p2 n = p at *
  exact walk (code := Tryz.f126.body.getD .skip) [c F4, x2 B1, c P, x2 B2, c PP, c M, c Fl, c R, c Mk, c Q, c C] fol Tryz.func126 (by kernel_rfl) (fun xs w => Tryz.call126 xs w) (by kernel_rfl)
 ·have P2 := iMul ((4 : Int) ^ (n / 2)) 2 (by have := p2_size (2 * (n / 2)) 20 (by omega); rw [p2_four]; omega) (by decide)
  rw [p2_odd n hm] at P2
  rw [hm] at B2
  generalize gridQ a n * gridQ a n = gg at *
  generalize gridQ a n = g at *
  generalize rtI a n = rt at *
  generalize (4 : Int) ^ (n / 2) = f at *
  generalize n / 2 = k at *
  rw [rV_int] at M
  generalize a * ((p2 n * p2 n : Int) : Rat) = s at *
  generalize p2 n * p2 n = q at *
  generalize p2 n = p at *
  exact walk (code := Tryz.f126.body.getD .skip) [c F4, x2 B1, c P, x2 B2, c F2, c P2, c PP, c M, c Fl, c R, c Mk, c Q, c C] fol Tryz.func126 (by kernel_rfl) (fun xs w => Tryz.call126 xs w) (by kernel_rfl)
theorem step_sz (n : Nat) (hn : n ≤ 256) : HasSz (Rat.divInt 1 (p2 n)) 33 :=
 ⟨Sz.of _ _ 33 (by have := p2_pos n; omega) (Nat.lt_of_lt_of_le (show (1 : Int).natAbs < 256 ^ 1 by decide) (Nat.pow_le_pow_right (by omega) (by omega))) (p2_abs n 33 (by omega))⟩
theorem highQ_sz (a : Rat) (n : Nat) (h0 : 0 ≤ a) (hn : n ≤ 256) [ha : HasSz a 40] : HasSz (highQ a n) 144 := by
 haveI := gridQ_sz a n h0 hn
 haveI := step_sz n hn
 unfold highQ
 split
 ·exact hs_mono ‹HasSz (gridQ a n) 110› (by omega)
 ·exact inferInstance
theorem eSqrt (l h : Rat) (n : Nat) (hn : n ≤ 128) (hl : 0 ≤ l) (hh : 0 ≤ h) [HasSz l 40] [HasSz h 40] : Sp Tryz.prog 78 [] [oV l h, nV n] (.tuple #[oV (gridQ l n) (highQ h n), nV 0]) [] := by
 have e1 : decide ((n : Int) < 0) = false := decide_eq_false (by omega)
 have e2 : decide ((n : Int) > 128) = false := decide_eq_false (by omega)
 have S := pSign l
 have G1 := eGrid l n hn hl
 have G2 := eGrid h n hn hh
 have F4 := iFromInt 4 (by omega) (by omega)
 have F2 := iFromInt 2 (by omega) (by omega)
 have F1 := iFromInt 1 (by omega) (by omega)
 have B1 : Bin .quo 3 (nV n) (nV 2) (nV (n / 2 : Nat)) := bin_quo n 2 (by omega) (by omega)
 have B2 : Bin .rem 3 (nV n) (nV 2) (nV (n % 2 : Nat)) := bin_rem n 2 (by omega) (by omega)
 have P := iPow 4 (n / 2) (by omega) (by decide)
 have hP := p2_pos n
 have zP := p2_size n 20 (by omega)
 have Mk := pMake 1 (p2 n) (by omega) (by decide) (by omega)
 haveI := gridQ_sz h n hh (by omega)
 haveI := step_sz n (by omega)
 have A := pAdd (gridQ h n) (Rat.divInt 1 (p2 n)) fz fz
 have hs : decide (cmpI l.num 0 < 0) = false := by
  rcases sgn_cases l with ⟨h1, h2⟩ | ⟨h1, h2⟩ | ⟨h1, h2⟩ <;> rw [h1]
  ·exact absurd h2 (Rat.not_lt.2 hl)
  ·rfl
  ·rfl
 unfold highQ
 have m2 := Nat.mod_lt n (show 0 < 2 by omega)
 by_cases hx : gridQ h n * gridQ h n = h
 ·rw [if_pos hx]
  rw [decide_eq_true hx] at G2
  clear A Mk hx
  generalize decide (gridQ l n * gridQ l n = l) = bb at *
  generalize gridQ h n = g at *
  generalize gridQ l n = gl at *
  exact walk (code := Tryz.f78.body.getD .skip) [eb e1, eb e2, c S, eb hs, c G1, c G2] fol Tryz.func78 (by kernel_rfl) (fun xs w => Tryz.call78 xs w) (by kernel_rfl)
 ·rw [if_neg hx]
  rw [decide_eq_false hx] at G2
  clear hx
  rcases (by omega : n % 2 = 0 ∨ n % 2 = 1) with hm | hm
  ·rw [p2_even n hm] at P
   rw [hm] at B2
   generalize decide (gridQ l n * gridQ l n = l) = bb at *
   generalize gridQ h n + Rat.divInt 1 (p2 n) = gs at *
   generalize gridQ h n = g at *
   generalize gridQ l n = gl at *
   generalize Rat.divInt 1 (p2 n) = st at *
   generalize n / 2 = k at *
   generalize p2 n = p at *
   exact walk (code := Tryz.f78.body.getD .skip) [eb e1, eb e2, c S, eb hs, c G1, c G2, c F4, x2 B1, c P, x2 B2, c F1, c Mk, c A] fol Tryz.func78 (by kernel_rfl) (fun xs w => Tryz.call78 xs w) (by kernel_rfl)
  ·have P2 := iMul ((4 : Int) ^ (n / 2)) 2 (by have := p2_size (2 * (n / 2)) 20 (by omega); rw [p2_four]; omega) (by decide)
   rw [p2_odd n hm] at P2
   rw [hm] at B2
   generalize decide (gridQ l n * gridQ l n = l) = bb at *
   generalize gridQ h n + Rat.divInt 1 (p2 n) = gs at *
   generalize gridQ h n = g at *
   generalize gridQ l n = gl at *
   generalize Rat.divInt 1 (p2 n) = st at *
   generalize (4 : Int) ^ (n / 2) = f at *
   generalize n / 2 = k at *
   generalize p2 n = p at *
   exact walk (code := Tryz.f78.body.getD .skip) [eb e1, eb e2, c S, eb hs, c G1, c G2, c F4, x2 B1, c P, x2 B2, c F2, c P2, c F1, c Mk, c A] fol Tryz.func78 (by kernel_rfl) (fun xs w => Tryz.call78 xs w) (by kernel_rfl)
end Go.Proofs.YtlblfgbpogljoaaGreatDoor
namespace Go.Proofs.YtlblfgbpogljoaaGreatDoor
open Go Go.RowKit Go.Sy
open Vi
theorem jFromInt (n : Int) (h1 : -9223372036854775808 ≤ n) (h2 : n ≤ 9223372036854775807) : Sp Tryz.prog 21 [] [nV n] (iV n) [] := Sp.of (fun xs w => Tryz.call21 xs w) (by kernel_rfl) (by kernel_rfl) (fun w => rFromInt_c n w h1 h2)
theorem jAdd (x y : Int) (hx : (mg x).size ≤ 4294967296) (hy : (mg y).size ≤ 4294967296) : Sp Tryz.prog 179 [] [iV x, iV y] (iV (x + y)) [] := Sp.of (fun xs w => Tryz.call179 xs w) (by kernel_rfl) (by kernel_rfl) (fun w => rAdd_c x y _ rfl w hx hy)
theorem p2_succ (n : Nat) : p2 n + p2 n = p2 (n + 1) := by unfold p2; rw [Int.pow_succ]; omega
def stPw (n i : Nat) : St := ⟨16, 0, [(0, nV n), (2, ptr 0 0), (3, ptr 1 0), (4, nV i)], junk, [(0, blk 28 [.bool false, .string ⟨#[]⟩, .bool false, .string ⟨#[]⟩]), (1, blk 26 [.bool (sg (p2 i)), .string (mg (p2 i))])], 2⟩
theorem pw_loop (n : Nat) (hn : n ≤ 256) : ∀ m i, i + m = n → RoundsOk Tryz.prog (nthLoop 0 (Tryz.f143.body.getD .skip)) (stPw n i) (.exit 0) (stPw n n)
 | 0, i, hi => by
  obtain rfl : i = n := by omega
  have e : decide ((i : Int) < (i : Int)) = false := decide_eq_false (by omega)
  refine .out (by simp) ?_
  unfold stPw
  generalize p2 i = z at *
  exact piece [(0, 0), (1, 1)] [eb e] fol (by kernel_rfl)
 | m + 1, i, hi => by
  have e : decide ((i : Int) < (n : Int)) = true := decide_eq_true (by omega)
  have w1 : IntKind.i64.wrap ((i : Int) + 1) = ((i + 1 : Nat) : Int) := by rw [w64 (by omega) (by omega)]; omega
  have zP := p2_size i 33 (by omega)
  have A := jAdd (p2 i) (p2 i) (by omega) (by omega)
  have ih := pw_loop n hn m (i + 1) (by omega)
  refine .more ?_ ih
  unfold stPw
  rw [← p2_succ i]
  generalize p2 i + p2 i = z2 at *
  generalize p2 i = z at *
  exact piece [(0, 0), (1, 1)] [eb e, c A, Go.Sy.e (congrArg (Value.int IntKind.i64) w1)] fol (by kernel_rfl)
theorem fPower (n : Nat) (hn : n ≤ 256) : Sp Tryz.prog 143 [] [nV n] (rV ((p2 n : Int) : Rat)) [] := by
 have F := jFromInt 1 (by omega) (by omega)
 have hl := (pw_loop n hn n 0 (by omega)).loop
 unfold stPw at hl
 rw [show p2 0 = 1 from rfl] at hl
 rw [rV_int]
 generalize p2 n = z at *
 exact walk (code := Tryz.f143.body.getD .skip) [c F, lp [(0, 0), (1, 1)] hl] fol Tryz.func143 (by kernel_rfl) (fun xs w => Tryz.call143 xs w) (by kernel_rfl)
theorem fRoot (a : Rat) (h0 : 0 ≤ a) (ha : Fits a) : Sp Tryz.prog 180 [] [rV a] (rV (((isq a.floor.toNat : Nat) : Int) : Rat)) [] := by
 have F := rFloor a ha
 have hfl : 0 ≤ a.floor := Rat.le_floor_iff.2 h0
 have hfs : (mg a.floor).size ≤ 1000000 := by
  have h1 := ha.mn
  have h4 := Int.natAbs_ediv_le_natAbs a.num (a.den : Int)
  rw [← floor_of] at h4
  have := mg_le h4
  omega
 have S := jSqrt a.floor hfl (by omega)
 rw [rV_int] at F
 rw [rV_int]
 generalize ((isq a.floor.toNat : Nat) : Int) = r at *
 generalize a.floor = f at *
 exact walk (code := Tryz.f180.body.getD .skip) [c F, c S] fol Tryz.func180 (by kernel_rfl) (fun xs w => Tryz.call180 xs w) (by kernel_rfl)
theorem grid_div (a : Rat) (n : Nat) : ((rtI a n : Int) : Rat) / ((p2 n : Int) : Rat) = gridQ a n := (Rat.divInt_eq_div ..).symm
theorem p2_rat (n : Nat) : 0 < ((p2 n : Int) : Rat) := by exact_mod_cast p2_pos n
theorem high_eq (a : Rat) (n : Nat) (h0 : 0 ≤ a) : (decide (((rtI a n : Int) : Rat) * ((rtI a n : Int) : Rat) < a * ((p2 n * p2 n : Int) : Rat)) = true ∧ highQ a n = (((rtI a n : Int) : Rat) + 1) / ((p2 n : Int) : Rat)) ∨
    (decide (((rtI a n : Int) : Rat) * ((rtI a n : Int) : Rat) < a * ((p2 n * p2 n : Int) : Rat)) = false ∧ highQ a n = ((rtI a n : Int) : Rat) / ((p2 n : Int) : Rat)) := by
 obtain ⟨h1, h2, h3⟩ := rtI_le a n h0
 have hp := p2_rat n
 have hg := grid_div a n
 rw [Rat.intCast_mul] at h2
 have hpp : ((p2 n * p2 n : Int) : Rat) = ((p2 n : Int) : Rat) * ((p2 n : Int) : Rat) := Rat.intCast_mul ..
 have hst : Rat.divInt 1 (p2 n) = 1 / ((p2 n : Int) : Rat) := Rat.divInt_eq_div ..
 rw [hpp] at h2 ⊢
 unfold highQ
 rw [hst, ← hg]
 clear hst hg h3 hpp
 generalize ((rtI a n : Int) : Rat) = r at *
 generalize ((p2 n : Int) : Rat) = p at *
 have hpi : p * p⁻¹ = 1 := Rat.mul_inv_cancel _ (by grind)
 by_cases hx : r / p * (r / p) = a
 ·right
  rw [if_pos hx]
  refine ⟨decide_eq_false ?_, rfl⟩
  have : a * (p * p) = r * r := by rw [← hx, Rat.div_def]; grind
  grind
 ·left
  rw [if_neg hx]
  refine ⟨decide_eq_true ?_, ?_⟩
  ·by_cases h : r * r < a * (p * p)
   ·exact h
   ·have h := Rat.le_antisymm h2 (Rat.not_lt.1 h)
    exfalso; apply hx
    have e : r / p * (r / p) = r * r * (p⁻¹ * p⁻¹) := by rw [Rat.div_def]; grind
    rw [e, h]; grind
  ·rw [Rat.div_def, Rat.div_def, Rat.div_def]; grind
theorem fSqrt (l h : Rat) (n : Nat) (hn : n ≤ 128) (hl : 0 ≤ l) (hh : 0 ≤ h) [HasSz l 40] [HasSz h 40] : Sp Tryz.prog 144 [] [oV l h, nV n] (oV (gridQ l n) (highQ h n)) [] := by
 have P := fPower n (by omega)
 have hP := p2_rat n
 have hpp : ((p2 n * p2 n : Int) : Rat) = ((p2 n : Int) : Rat) * ((p2 n : Int) : Rat) := Rat.intCast_mul ..
 haveI : HasSz ((p2 n : Int) : Rat) (33 + 1) := int_hs _ 33 (Nat.lt_of_lt_of_le (p2_abs n 33 (by omega)) (Nat.pow_le_pow_right (by omega) (by omega)))
 have PP := rMul ((p2 n : Int) : Rat) ((p2 n : Int) : Rat) fz fz
 have M1 := rMul l (((p2 n : Int) : Rat) * ((p2 n : Int) : Rat)) fz fz
 have M2 := rMul h (((p2 n : Int) : Rat) * ((p2 n : Int) : Rat)) fz fz
 have n1 : 0 ≤ l * (((p2 n : Int) : Rat) * ((p2 n : Int) : Rat)) := Rat.mul_nonneg hl (Rat.le_of_lt (Rat.mul_pos hP hP))
 have n2 : 0 ≤ h * (((p2 n : Int) : Rat) * ((p2 n : Int) : Rat)) := Rat.mul_nonneg hh (Rat.le_of_lt (Rat.mul_pos hP hP))
 have R1 := fRoot _ n1 fz
 have R2 := fRoot _ n2 fz
 rw [← hpp] at R1 R2 M1 M2 PP
 have f2 : Fits (h * ((p2 n * p2 n : Int) : Rat)) := by rw [hpp]; exact fz
 have t1 : ((isq (l * ((p2 n * p2 n : Int) : Rat)).floor.toNat : Nat) : Int) = rtI l n := rfl
 have t2 : ((isq (h * ((p2 n * p2 n : Int) : Rat)).floor.toNat : Nat) : Int) = rtI h n := rfl
 rw [t1] at R1
 rw [t2] at R2
 haveI : HasSz ((rtI l n : Int) : Rat) (110 + 1) := int_hs _ 110 (Nat.lt_of_lt_of_le (rtI_nd l n hl (by omega)) (Nat.pow_le_pow_right (by omega) (by omega)))
 haveI : HasSz ((rtI h n : Int) : Rat) (110 + 1) := int_hs _ 110 (Nat.lt_of_lt_of_le (rtI_nd h n hh (by omega)) (Nat.pow_le_pow_right (by omega) (by omega)))
 have Q := rMul ((rtI h n : Int) : Rat) ((rtI h n : Int) : Rat) fz fz
 have C := rCompare (((rtI h n : Int) : Rat) * ((rtI h n : Int) : Rat)) (h * ((p2 n * p2 n : Int) : Rat)) fz f2
 have D1 := rDiv ((rtI l n : Int) : Rat) ((p2 n : Int) : Rat) (by grind) fz fz
 rw [grid_div] at D1
 have A := rAdd ((rtI h n : Int) : Rat) 1 fz fz
 have O := rOne
 have D2 := rDiv ((rtI h n : Int) : Rat) ((p2 n : Int) : Rat) (by grind) fz fz
 have D3 := rDiv (((rtI h n : Int) : Rat) + 1) ((p2 n : Int) : Rat) (by grind) fz fz
 rcases high_eq h n hh with ⟨g1, g2⟩ | ⟨g1, g2⟩
 ·have e := cmpQ_lss g1
  rw [← g2] at D3
  clear t1 t2 n1 n2 hpp f2 g1 g2
  generalize highQ h n = hq at *
  generalize gridQ l n = gq at *
  generalize ((rtI h n : Int) : Rat) * ((rtI h n : Int) : Rat) = rr at *
  generalize ((rtI h n : Int) : Rat) + 1 = r1 at *
  generalize ((rtI h n : Int) : Rat) / ((p2 n : Int) : Rat) = x1 at *
  generalize r1 / ((p2 n : Int) : Rat) = x2 at *
  generalize ((rtI h n : Int) : Rat) = rh at *
  generalize ((rtI l n : Int) : Rat) = rl at *
  generalize h * ((p2 n * p2 n : Int) : Rat) = mh at *
  generalize l * ((p2 n * p2 n : Int) : Rat) = ml at *
  generalize ((p2 n * p2 n : Int) : Rat) = qq at *
  generalize ((p2 n : Int) : Rat) = p at *
  exact walk (code := Tryz.f144.body.getD .skip) [c P, c PP, c M1, c R1, c PP, c M2, c R2, c Q, c C, eb e, c O, c A, c D1, c D3] fol Tryz.func144 (by kernel_rfl) (fun xs w => Tryz.call144 xs w) (by kernel_rfl)
 ·have e := cmpQ_lss g1
  rw [← g2] at D2
  clear t1 t2 n1 n2 hpp f2 g1 g2
  generalize highQ h n = hq at *
  generalize gridQ l n = gq at *
  generalize ((rtI h n : Int) : Rat) * ((rtI h n : Int) : Rat) = rr at *
  generalize ((rtI h n : Int) : Rat) + 1 = r1 at *
  generalize ((rtI h n : Int) : Rat) / ((p2 n : Int) : Rat) = x1 at *
  generalize r1 / ((p2 n : Int) : Rat) = x2 at *
  generalize ((rtI h n : Int) : Rat) = rh at *
  generalize ((rtI l n : Int) : Rat) = rl at *
  generalize h * ((p2 n * p2 n : Int) : Rat) = mh at *
  generalize l * ((p2 n * p2 n : Int) : Rat) = ml at *
  generalize ((p2 n * p2 n : Int) : Rat) = qq at *
  generalize ((p2 n : Int) : Rat) = p at *
  exact walk (code := Tryz.f144.body.getD .skip) [c P, c PP, c M1, c R1, c PP, c M2, c R2, c Q, c C, eb e, c D1, c D2] fol Tryz.func144 (by kernel_rfl) (fun xs w => Tryz.call144 xs w) (by kernel_rfl)
end Go.Proofs.YtlblfgbpogljoaaGreatDoor
namespace Go.Proofs.YtlblfgbpogljoaaGreatDoor
open Go Go.RowKit Go.Sy
open Vi
theorem isq_eq {X r : Nat} (h : IsRt X r) : isq X = r := sqrt_unique (isq_spec X).1 (isq_spec X).2 h.1 h.2
theorem k5a : minQ (minQ (minQ (((-2 : Int) : Rat) * ((-1 : Int) : Rat)) (((-2 : Int) : Rat) * ((4 : Int) : Rat))) (((3 : Int) : Rat) * ((-1 : Int) : Rat))) (((3 : Int) : Rat) * ((4 : Int) : Rat)) = ((-8 : Int) : Rat) := by decide +kernel
theorem k5b : maxQ (maxQ (maxQ (((-2 : Int) : Rat) * ((-1 : Int) : Rat)) (((-2 : Int) : Rat) * ((4 : Int) : Rat))) (((3 : Int) : Rat) * ((-1 : Int) : Rat))) (((3 : Int) : Rat) * ((4 : Int) : Rat)) = ((12 : Int) : Rat) := by decide +kernel
theorem k5c : sqLow ((-2 : Int) : Rat) ((3 : Int) : Rat) = ((0 : Int) : Rat) := by decide +kernel
theorem k5d : maxQ (((-2 : Int) : Rat) * ((-2 : Int) : Rat)) (((3 : Int) : Rat) * ((3 : Int) : Rat)) = ((9 : Int) : Rat) := by decide +kernel
theorem k5e : minQ (minQ (minQ (((1 : Int) : Rat) * (1 / ((-2 : Int) : Rat))) (((1 : Int) : Rat) * (1 / ((-4 : Int) : Rat)))) (((2 : Int) : Rat) * (1 / ((-2 : Int) : Rat)))) (((2 : Int) : Rat) * (1 / ((-4 : Int) : Rat))) = Rat.divInt (-1) 1 := by decide +kernel
theorem k5f : maxQ (maxQ (maxQ (((1 : Int) : Rat) * (1 / ((-2 : Int) : Rat))) (((1 : Int) : Rat) * (1 / ((-4 : Int) : Rat)))) (((2 : Int) : Rat) * (1 / ((-2 : Int) : Rat)))) (((2 : Int) : Rat) * (1 / ((-4 : Int) : Rat))) = Rat.divInt (-1) 4 := by decide +kernel
theorem k5g : gridQ ((2 : Int) : Rat) 3 = Rat.divInt 11 8 := by
 unfold gridQ rtI
 rw [show (((2 : Int) : Rat) * ((p2 3 * p2 3 : Int) : Rat)).floor.toNat = 128 by decide +kernel, isq_eq (X := 128) (r := 11) ⟨by decide, by decide⟩]
 decide +kernel
theorem k5h : highQ ((2 : Int) : Rat) 3 = Rat.divInt 3 2 := by
 unfold highQ
 rw [k5g, if_neg (by decide +kernel)]
 decide +kernel
theorem vKnown5 : Sp Tryz.prog 16 [] [] (.bool true) [] := by
 have b1 := vBound (-2) 3 (by omega) (by omega) (by omega) (by omega)
 have b2 := vBound (-1) 4 (by omega) (by omega) (by omega) (by omega)
 have b3 := vBound 1 2 (by omega) (by omega) (by omega) (by omega)
 have b4 := vBound (-4) (-2) (by omega) (by omega) (by omega) (by omega)
 have b5 := vBound 2 2 (by omega) (by omega) (by omega) (by omega)
 have b6 := vBound (-8) 12 (by omega) (by omega) (by omega) (by omega)
 have b7 := vBound 0 9 (by omega) (by omega) (by omega) (by omega)
 have i1 := int_hs (-2) 0 (by decide)
 have i2 := int_hs (-1) 0 (by decide)
 have i3 := int_hs 3 0 (by decide)
 have i4 := int_hs 4 0 (by decide)
 have i5 := int_hs 1 0 (by decide)
 have i6 := int_hs 2 0 (by decide)
 have i7 := int_hs (-4) 0 (by decide)
 have M := eMul ((-2 : Int) : Rat) ((3 : Int) : Rat) ((-1 : Int) : Rat) ((4 : Int) : Rat) (0 + 1) (by omega)
 rw [k5a, k5b] at M
 have S := eSquare ((-2 : Int) : Rat) ((3 : Int) : Rat) (0 + 1) (by omega)
 rw [k5c, k5d] at S
 have D := eDiv ((1 : Int) : Rat) ((2 : Int) : Rat) ((-4 : Int) : Rat) ((-2 : Int) : Rat) (0 + 1) (by omega) (by decide +kernel) (by decide +kernel) (by decide +kernel)
 rw [k5e, k5f] at D
 haveI j6 : HasSz ((2 : Int) : Rat) 40 := hs_mono i6 (by omega)
 have R := eSqrt ((2 : Int) : Rat) ((2 : Int) : Rat) 3 (by omega) (by decide +kernel) (by decide +kernel)
 rw [k5g, k5h] at R
 have O1 := rOf (-1) 1 (by omega) (by omega) (by omega) (by omega) (by omega)
 have O2 := rOf (-1) 4 (by omega) (by omega) (by omega) (by omega) (by omega)
 have O3 := rOf 11 8 (by omega) (by omega) (by omega) (by omega) (by omega)
 have O4 := rOf 3 2 (by omega) (by omega) (by omega) (by omega) (by omega)
 clear i1 i2 i3 i4 i5 i6 i7 j6
 generalize Rat.divInt (-1) 1 = q1 at *
 generalize Rat.divInt (-1) 4 = q2 at *
 generalize Rat.divInt 11 8 = q3 at *
 generalize Rat.divInt 3 2 = q4 at *
 generalize ((-2 : Int) : Rat) = r1 at *
 generalize ((-1 : Int) : Rat) = r2 at *
 generalize ((3 : Int) : Rat) = r3 at *
 generalize ((4 : Int) : Rat) = r4 at *
 generalize ((1 : Int) : Rat) = r5 at *
 generalize ((2 : Int) : Rat) = r6 at *
 generalize ((-4 : Int) : Rat) = r7 at *
 generalize ((-8 : Int) : Rat) = r8 at *
 generalize ((12 : Int) : Rat) = r9 at *
 generalize ((0 : Int) : Rat) = r10 at *
 generalize ((9 : Int) : Rat) = r11 at *
 exact walk (code := Tryz.f16.body.getD .skip) [c b1, c b2, c M, c b3, c b4, c D, c b5, c R, c b6, x2 (sameO r8 r9), c b1, c S, c b7, x2 (sameO r10 r11), c O1, x2 (same q1), c O2, x2 (same q2), c O3, x2 (same q3), c O4, x2 (same q4)] fol Tryz.func16 (by kernel_rfl) (fun xs w => Tryz.call16 xs w) (by kernel_rfl)
def PairOk (n1 d1 n2 d2 : Int) : Prop := (-2147483648 ≤ n1 ∧ n1 ≤ 2147483647) ∧ (0 ≤ d1 ∧ d1 ≤ 65535) ∧ (-2147483648 ≤ n2 ∧ n2 ≤ 2147483647) ∧ (0 ≤ d2 ∧ d2 ≤ 65535)
end Go.Proofs.YtlblfgbpogljoaaGreatDoor

end
