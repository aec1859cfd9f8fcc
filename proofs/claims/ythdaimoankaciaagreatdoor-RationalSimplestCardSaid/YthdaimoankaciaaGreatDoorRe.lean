/- No program in sight: the real numbers as far as they are wanted: Cauchy sequences of fractions, their order, square roots of fractions, and a checker of ring identities. -/
set_option linter.unusedSimpArgs false
set_option linter.unusedVariables false
namespace Vi
def Cau (f : Nat → Rat) : Prop := ∀ e : Rat, 0 < e → ∃ N, ∀ m, N ≤ m → ∀ n, N ≤ n → f m - f n < e
def Nul (f : Nat → Rat) : Prop := ∀ e : Rat, 0 < e → ∃ N, ∀ n, N ≤ n → f n < e ∧ -e < f n
def Pst (f : Nat → Rat) : Prop := ∃ d : Rat, 0 < d ∧ ∃ N, ∀ n, N ≤ n → d ≤ f n
def Bdd (f : Nat → Rat) : Prop := ∃ B : Rat, 0 < B ∧ ∃ N, ∀ n, N ≤ n → f n < B ∧ -B < f n
theorem half_pos {e : Rat} (h : 0 < e) : 0 < e / 2 := by grind
theorem Cau.bdd {f : Nat → Rat} (h : Cau f) : Bdd f := by
 obtain ⟨N, hN⟩ := h 1 (by decide)
 by_cases h0 : f N < 0
 ·refine ⟨1 - f N, by grind, N, fun n hn => ?_⟩
  have h1 := hN n hn N (Nat.le_refl _)
  have h2 := hN N (Nat.le_refl _) n hn
  constructor <;> grind
 ·refine ⟨1 + f N, by grind, N, fun n hn => ?_⟩
  have h1 := hN n hn N (Nat.le_refl _)
  have h2 := hN N (Nat.le_refl _) n hn
  constructor <;> grind
theorem mul_in {x y a b : Rat} (h1 : x < a) (h2 : -a < x) (h3 : y < b) (h4 : -b < y) : x * y < a * b ∧ -(a * b) < x * y := by
 have p1 : 0 < (a - x) * (b + y) := Rat.mul_pos (by grind) (by grind)
 have p2 : 0 < (a + x) * (b - y) := Rat.mul_pos (by grind) (by grind)
 have p3 : 0 < (a - x) * (b - y) := Rat.mul_pos (by grind) (by grind)
 have p4 : 0 < (a + x) * (b + y) := Rat.mul_pos (by grind) (by grind)
 constructor <;> grind
theorem Cau.const (q : Rat) : Cau fun _ => q := fun e he => ⟨0, fun _ _ _ _ => by grind⟩
theorem Cau.add {f g : Nat → Rat} (hf : Cau f) (hg : Cau g) : Cau fun n => f n + g n := fun e he => by
 obtain ⟨N, hN⟩ := hf (e / 2) (half_pos he)
 obtain ⟨M, hM⟩ := hg (e / 2) (half_pos he)
 refine ⟨N + M, fun m hm n hn => ?_⟩
 have h1 := hN m (by omega) n (by omega)
 have h2 := hM m (by omega) n (by omega)
 grind
theorem Cau.neg {f : Nat → Rat} (hf : Cau f) : Cau fun n => -f n := fun e he => by
 obtain ⟨N, hN⟩ := hf e he
 refine ⟨N, fun m hm n hn => ?_⟩
 have h1 := hN n hn m hm
 grind
theorem div_small {e B : Rat} (he : 0 < e) (hB : 0 < B) : 0 < e / B := by
 rw [Rat.div_def]; exact Rat.mul_pos he (Rat.inv_pos.2 hB)
theorem div_mul {e B : Rat} (hB : 0 < B) : e / B * B = e := by
 rw [Rat.div_def, Rat.mul_assoc, Rat.inv_mul_cancel _ (by grind), Rat.mul_one]
theorem Nul.mul {f g : Nat → Rat} (hf : Nul f) (hg : Bdd g) : Nul fun n => f n * g n := fun e he => by
 obtain ⟨B, hB, M, hM⟩ := hg
 obtain ⟨N, hN⟩ := hf (e / B) (div_small he hB)
 refine ⟨N + M, fun n hn => ?_⟩
 have h1 := hN n (by omega)
 have h2 := hM n (by omega)
 have h3 := mul_in h1.1 h1.2 h2.1 h2.2
 rw [div_mul hB] at h3
 exact h3
theorem Nul.add {f g : Nat → Rat} (hf : Nul f) (hg : Nul g) : Nul fun n => f n + g n := fun e he => by
 obtain ⟨N, hN⟩ := hf (e / 2) (half_pos he)
 obtain ⟨M, hM⟩ := hg (e / 2) (half_pos he)
 refine ⟨N + M, fun n hn => ?_⟩
 have h1 := hN n (by omega)
 have h2 := hM n (by omega)
 constructor <;> grind
theorem Nul.neg {f : Nat → Rat} (hf : Nul f) : Nul fun n => -f n := fun e he => by
 obtain ⟨N, hN⟩ := hf e he
 refine ⟨N, fun n hn => ?_⟩
 have h1 := hN n hn
 constructor <;> grind
theorem Nul.zero : Nul fun _ => 0 := fun e he => ⟨0, fun _ _ => by constructor <;> grind⟩
theorem Cau.mul {f g : Nat → Rat} (hf : Cau f) (hg : Cau g) : Cau fun n => f n * g n := fun e he => by
 obtain ⟨A, hA, M1, hM1⟩ := hf.bdd
 obtain ⟨B, hB, M2, hM2⟩ := hg.bdd
 obtain ⟨N1, h1⟩ := hf (e / 2 / B) (div_small (half_pos he) hB)
 obtain ⟨N2, h2⟩ := hg (e / 2 / A) (div_small (half_pos he) hA)
 refine ⟨M1 + M2 + N1 + N2, fun m hm n hn => ?_⟩
 have a1 := h1 m (by omega) n (by omega)
 have a2 := h1 n (by omega) m (by omega)
 have a3 := h2 m (by omega) n (by omega)
 have a4 := h2 n (by omega) m (by omega)
 have b1 := hM1 n (by omega)
 have b2 := hM2 m (by omega)
 have c1 := mul_in (x := f m - f n) a1 (by grind) b2.1 b2.2
 have c2 := mul_in (x := g m - g n) a3 (by grind) b1.1 b1.2
 rw [div_mul hB] at c1
 rw [div_mul hA] at c2
 grind
theorem Cau.tri {f : Nat → Rat} (h : Cau f) : Nul f ∨ Pst f ∨ Pst fun n => -f n := by
 apply Classical.byContradiction
 intro hc
 have hn : ¬ Nul f := fun h => hc (.inl h)
 unfold Nul at hn
 obtain ⟨e, he⟩ := Classical.not_forall.1 hn
 obtain ⟨h0, he⟩ := Classical.not_imp.1 he
 obtain ⟨N, hN⟩ := h (e / 2) (half_pos h0)
 have h1 : ∃ n, N ≤ n ∧ ¬ (f n < e ∧ -e < f n) := by
  apply Classical.byContradiction
  intro h2
  exact he ⟨N, fun n hn => Classical.byContradiction fun h3 => h2 ⟨n, hn, h3⟩⟩
 obtain ⟨n, hn, h2⟩ := h1
 by_cases h3 : f n < e
 ·refine hc (.inr (.inr ⟨e / 2, half_pos h0, N, fun m hm => ?_⟩))
  have := hN m hm n hn
  grind
 ·refine hc (.inr (.inl ⟨e / 2, half_pos h0, N, fun m hm => ?_⟩))
  have := hN n hn m hm
  grind
theorem Pst.add {f g : Nat → Rat} (hf : Pst f) (hg : Pst g) : Pst fun n => f n + g n := by
 obtain ⟨d, h0, N, h1⟩ := hf
 obtain ⟨e, h2, M, h3⟩ := hg
 refine ⟨d, h0, N + M, fun n hn => ?_⟩
 have a := h1 n (by omega)
 have b := h3 n (by omega)
 grind
theorem Pst.mul {f g : Nat → Rat} (hf : Pst f) (hg : Pst g) : Pst fun n => f n * g n := by
 obtain ⟨d, h0, N, h1⟩ := hf
 obtain ⟨e, h2, M, h3⟩ := hg
 refine ⟨d * e, Rat.mul_pos h0 h2, N + M, fun n hn => ?_⟩
 have a := h1 n (by omega)
 have b := h3 n (by omega)
 have p1 : 0 ≤ (f n - d) * g n := Rat.mul_nonneg (by grind) (by grind)
 have p2 : 0 ≤ d * (g n - e) := Rat.mul_nonneg (by grind) (by grind)
 grind
theorem Pst.addNul {f g : Nat → Rat} (hf : Pst f) (hg : Nul g) : Pst fun n => f n + g n := by
 obtain ⟨d, h0, N, h1⟩ := hf
 obtain ⟨M, h3⟩ := hg (d / 2) (half_pos h0)
 refine ⟨d / 2, half_pos h0, N + M, fun n hn => ?_⟩
 have a := h1 n (by omega)
 have b := h3 n (by omega)
 grind
theorem Pst.notNul {f : Nat → Rat} (hf : Pst f) (hg : Nul f) : False := by
 obtain ⟨d, h0, N, h1⟩ := hf
 obtain ⟨M, h3⟩ := hg d h0
 have a := h1 (N + M) (by omega)
 have b := h3 (N + M) (by omega)
 grind
theorem Pst.notNeg {f : Nat → Rat} (hf : Pst f) (hg : Pst fun n => -f n) : False := by
 obtain ⟨d, h0, N, h1⟩ := hf
 obtain ⟨e, h2, M, h3⟩ := hg
 have a := h1 (N + M) (by omega)
 have b := h3 (N + M) (by omega)
 grind
structure CSeq where
 f : Nat → Rat
 c : Cau f
instance CSeq.setoid : Setoid CSeq where
 r a b := Nul fun n => a.f n - b.f n
 iseqv := {
  refl := fun a => by simpa [Rat.sub_self] using Nul.zero
  symm := fun {a b} h => by
   have := h.neg
   have e : (fun n => -(a.f n - b.f n)) = fun n => b.f n - a.f n := funext fun n => by grind
   rwa [e] at this
  trans := fun {a b c} h1 h2 => by
   have := h1.add h2
   have e : (fun n => a.f n - b.f n + (b.f n - c.f n)) = fun n => a.f n - c.f n := funext fun n => by grind
   rwa [e] at this }
def RR : Type := Quotient CSeq.setoid
namespace RR
def mk (a : CSeq) : RR := Quotient.mk CSeq.setoid a
theorem sound {a b : CSeq} (h : Nul fun n => a.f n - b.f n) : mk a = mk b := Quotient.sound h
theorem exact' {a b : CSeq} (h : mk a = mk b) : Nul fun n => a.f n - b.f n := Quotient.exact h
def ofRat (q : Rat) : RR := mk ⟨fun _ => q, Cau.const q⟩
def addS (a b : CSeq) : CSeq := ⟨_, a.c.add b.c⟩
def mulS (a b : CSeq) : CSeq := ⟨_, a.c.mul b.c⟩
def negS (a : CSeq) : CSeq := ⟨_, a.c.neg⟩
def add (x y : RR) : RR := Quotient.liftOn₂ x y (fun a b => mk (addS a b)) fun a b a' b' h1 h2 => sound (by
 have := Nul.add h1 h2
 have e : (fun n => a.f n - a'.f n + (b.f n - b'.f n)) = fun n => (a.f n + b.f n) - (a'.f n + b'.f n) := funext fun n => by grind
 rwa [e] at this)
def mul (x y : RR) : RR := Quotient.liftOn₂ x y (fun a b => mk (mulS a b)) fun a b a' b' h1 h2 => sound (by
 have := Nul.add (Nul.mul h1 b.c.bdd) (Nul.mul h2 a'.c.bdd)
 have e : (fun n => (a.f n - a'.f n) * b.f n + (b.f n - b'.f n) * a'.f n) = fun n => (a.f n * b.f n) - (a'.f n * b'.f n) := funext fun n => by grind
 rwa [e] at this)
def neg (x : RR) : RR := Quotient.liftOn x (fun a => mk (negS a)) fun a a' h1 => sound (by
 have := Nul.neg h1
 have e : (fun n => -(a.f n - a'.f n)) = fun n => (-a.f n) - (-a'.f n) := funext fun n => by grind
 rwa [e] at this)
instance : Add RR := ⟨add⟩
instance : Mul RR := ⟨mul⟩
instance : Neg RR := ⟨neg⟩
instance : Sub RR := ⟨fun x y => x + -y⟩
instance : Coe Rat RR := ⟨ofRat⟩
instance (n : Nat) : OfNat RR n := ⟨ofRat ((n : Nat) : Rat)⟩
theorem sub_eq (x y : RR) : x - y = x + -y := rfl
theorem num_eq (n : Nat) : (OfNat.ofNat n : RR) = ofRat ((n : Nat) : Rat) := rfl
theorem ind {p : RR → Prop} (h : ∀ a, p (mk a)) (x : RR) : p x := Quotient.ind h x
theorem same {a b : CSeq} (h : ∀ n, a.f n = b.f n) : mk a = mk b := by
 cases a; cases b
 congr 2
 exact funext h
theorem add_comm (x y : RR) : x + y = y + x := by
 induction x using ind with | h a => induction y using ind with | h b => exact same fun n => by simp only [addS]; grind
theorem add_assoc (x y z : RR) : x + y + z = x + (y + z) := by
 induction x using ind with | h a => induction y using ind with | h b => induction z using ind with | h c => exact same fun n => by simp only [addS]; grind
theorem mul_comm (x y : RR) : x * y = y * x := by
 induction x using ind with | h a => induction y using ind with | h b => exact same fun n => by simp only [mulS]; grind
theorem mul_assoc (x y z : RR) : x * y * z = x * (y * z) := by
 induction x using ind with | h a => induction y using ind with | h b => induction z using ind with | h c => exact same fun n => by simp only [mulS]; grind
theorem mul_add (x y z : RR) : x * (y + z) = x * y + x * z := by
 induction x using ind with | h a => induction y using ind with | h b => induction z using ind with | h c => exact same fun n => by simp only [mulS, addS]; grind
theorem rat_add (p q : Rat) : ofRat (p + q) = ofRat p + ofRat q := rfl
theorem rat_mul (p q : Rat) : ofRat (p * q) = ofRat p * ofRat q := rfl
theorem rat_neg (p : Rat) : ofRat (-p) = -ofRat p := rfl
theorem rat_sub (p q : Rat) : ofRat (p - q) = ofRat p - ofRat q := by rw [sub_eq, ← rat_neg, ← rat_add, Rat.sub_eq_add_neg]
theorem zero_add (x : RR) : ofRat 0 + x = x := by
 induction x using ind with | h a => exact same fun n => by simp only [addS]; grind
theorem one_mul (x : RR) : ofRat 1 * x = x := by
 induction x using ind with | h a => exact same fun n => by simp only [mulS]; grind
theorem zero_mul (x : RR) : ofRat 0 * x = ofRat 0 := by
 induction x using ind with | h a => exact same fun n => by simp only [mulS]; grind
theorem add_neg (x : RR) : x + -x = ofRat 0 := by
 induction x using ind with | h a => exact same fun n => by simp only [addS, negS]; grind
theorem neg_mul (x y : RR) : -x * y = -(x * y) := by
 induction x using ind with | h a => induction y using ind with | h b => exact same fun n => by simp only [mulS, negS]; grind
theorem neg_add (x y : RR) : -(x + y) = -x + -y := by
 induction x using ind with | h a => induction y using ind with | h b => exact same fun n => by simp only [addS, negS]; grind
theorem neg_neg (x : RR) : - -x = x := by
 induction x using ind with | h a => exact same fun n => by simp only [negS]; grind
end RR
end Vi
namespace Vi
inductive PE where
 | v (n : Nat)
 | z (k : Int)
 | a (x y : PE)
 | m (x y : PE)
 | n (x : PE)
namespace PE
def at' (ρ : List RR) (i : Nat) : RR := match ρ, i with
 | [], _ => RR.ofRat 0
 | x :: _, 0 => x
 | _ :: l, i + 1 => at' l i
def ofInt (k : Int) : RR := RR.ofRat (k : Rat)
def ev (ρ : List RR) : PE → RR
 | .v i => at' ρ i
 | .z k => ofInt k
 | .a x y => x.ev ρ + y.ev ρ
 | .m x y => x.ev ρ * y.ev ρ
 | .n x => -x.ev ρ
def evM (ρ : List RR) : List Nat → RR
 | [] => ofInt 1
 | i :: l => at' ρ i * evM ρ l
def evP (ρ : List RR) : List (Int × List Nat) → RR
 | [] => ofInt 0
 | (k, l) :: p => ofInt k * evM ρ l + evP ρ p
def insM (i : Nat) : List Nat → List Nat
 | [] => [i]
 | j :: l => match Nat.ble i j with
  | true => i :: j :: l
  | false => j :: insM i l
def mulM : List Nat → List Nat → List Nat
 | [], q => q
 | i :: l, q => insM i (mulM l q)
def eqM : List Nat → List Nat → Bool
 | [], [] => true
 | i :: l, j :: q => match Nat.beq i j with
  | true => eqM l q
  | false => false
 | _, _ => false
def addT (k : Int) (l : List Nat) : List (Int × List Nat) → List (Int × List Nat)
 | [] => [(k, l)]
 | (k', l') :: p => match eqM l l' with
  | true => (k + k', l') :: p
  | false => (k', l') :: addT k l p
def addP : List (Int × List Nat) → List (Int × List Nat) → List (Int × List Nat)
 | [], q => q
 | (k, l) :: p, q => addT k l (addP p q)
def mulT (k : Int) (l : List Nat) : List (Int × List Nat) → List (Int × List Nat)
 | [] => []
 | (k', l') :: p => addT (k * k') (mulM l l') (mulT k l p)
def mulP : List (Int × List Nat) → List (Int × List Nat) → List (Int × List Nat)
 | [], _ => []
 | (k, l) :: p, q => addP (mulT k l q) (mulP p q)
def norm : PE → List (Int × List Nat)
 | .v i => [(1, [i])]
 | .z k => [(k, [])]
 | .a x y => addP x.norm y.norm
 | .m x y => mulP x.norm y.norm
 | .n x => mulT (-1) [] x.norm
def isZ : List (Int × List Nat) → Bool
 | [] => true
 | (k, _) :: p => match decide (k = 0) with
  | true => isZ p
  | false => false
open RR
theorem i0 (x : RR) : ofInt 0 + x = x := RR.zero_add x
theorem i1 (x : RR) : ofInt 1 * x = x := RR.one_mul x
theorem iadd (j k : Int) : ofInt (j + k) = ofInt j + ofInt k := by unfold ofInt; rw [← rat_add, Rat.intCast_add]
theorem imul (j k : Int) : ofInt (j * k) = ofInt j * ofInt k := by unfold ofInt; rw [← rat_mul, Rat.intCast_mul]
theorem ineg (j : Int) : ofInt (-j) = -ofInt j := by unfold ofInt; rw [← rat_neg, Rat.intCast_neg]
theorem add_left (x y z : RR) : x + (y + z) = y + (x + z) := by rw [← RR.add_assoc, RR.add_comm x y, RR.add_assoc]
theorem mul_left (x y z : RR) : x * (y * z) = y * (x * z) := by rw [← RR.mul_assoc, RR.mul_comm x y, RR.mul_assoc]
theorem add_mul (x y z : RR) : (x + y) * z = x * z + y * z := by rw [RR.mul_comm, RR.mul_add, RR.mul_comm z x, RR.mul_comm z y]
theorem mul0 (x : RR) : x * ofInt 0 = ofInt 0 := by rw [RR.mul_comm]; exact RR.zero_mul x
theorem ev_insM (ρ : List RR) (i : Nat) : ∀ l, evM ρ (insM i l) = at' ρ i * evM ρ l
 | [] => rfl
 | j :: l => by
  unfold insM
  split
  ·rfl
  ·show at' ρ j * evM ρ (insM i l) = at' ρ i * (at' ρ j * evM ρ l)
   rw [ev_insM ρ i l, mul_left]
theorem ev_mulM (ρ : List RR) : ∀ l q, evM ρ (mulM l q) = evM ρ l * evM ρ q
 | [], q => (i1 _).symm
 | i :: l, q => by
  show evM ρ (insM i (mulM l q)) = at' ρ i * evM ρ l * evM ρ q
  rw [ev_insM, ev_mulM ρ l q, RR.mul_assoc]
theorem eqM_eq : ∀ l q, eqM l q = true → l = q
 | [], [], _ => rfl
 | i :: l, j :: q, h => by
  unfold eqM at h
  split at h
  ·rename_i h1
   rw [Nat.eq_of_beq_eq_true h1, eqM_eq l q h]
  ·cases h
 | [], _ :: _, h => by simp [eqM] at h
 | _ :: _, [], h => by simp [eqM] at h
theorem ev_addT (ρ : List RR) (k : Int) (l : List Nat) : ∀ p, evP ρ (addT k l p) = ofInt k * evM ρ l + evP ρ p
 | [] => rfl
 | (k', l') :: p => by
  unfold addT
  split
  ·rename_i h
   rw [eqM_eq l l' h]
   show ofInt (k + k') * evM ρ l' + evP ρ p = ofInt k * evM ρ l' + (ofInt k' * evM ρ l' + evP ρ p)
   rw [iadd, add_mul, RR.add_assoc]
  ·show ofInt k' * evM ρ l' + evP ρ (addT k l p) = ofInt k * evM ρ l + (ofInt k' * evM ρ l' + evP ρ p)
   rw [ev_addT ρ k l p, add_left]
theorem ev_addP (ρ : List RR) : ∀ p q, evP ρ (addP p q) = evP ρ p + evP ρ q
 | [], q => (i0 _).symm
 | (k, l) :: p, q => by
  show evP ρ (addT k l (addP p q)) = ofInt k * evM ρ l + evP ρ p + evP ρ q
  rw [ev_addT, ev_addP ρ p q, RR.add_assoc]
theorem ev_mulT (ρ : List RR) (k : Int) (l : List Nat) : ∀ p, evP ρ (mulT k l p) = ofInt k * evM ρ l * evP ρ p
 | [] => (mul0 _).symm
 | (k', l') :: p => by
  show evP ρ (addT (k * k') (mulM l l') (mulT k l p)) = ofInt k * evM ρ l * (ofInt k' * evM ρ l' + evP ρ p)
  rw [ev_addT, ev_mulT ρ k l p, ev_mulM, imul, RR.mul_add]
  congr 1
  rw [RR.mul_assoc, RR.mul_assoc, mul_left (ofInt k')]
theorem ev_mulP (ρ : List RR) : ∀ p q, evP ρ (mulP p q) = evP ρ p * evP ρ q
 | [], q => (RR.zero_mul _).symm
 | (k, l) :: p, q => by
  show evP ρ (addP (mulT k l q) (mulP p q)) = (ofInt k * evM ρ l + evP ρ p) * evP ρ q
  rw [ev_addP, ev_mulT, ev_mulP ρ p q, add_mul]
theorem ev_norm (ρ : List RR) : ∀ e : PE, evP ρ e.norm = e.ev ρ
 | .v i => by
  show ofInt 1 * (at' ρ i * ofInt 1) + ofInt 0 = at' ρ i
  rw [RR.add_comm, i0, i1, RR.mul_comm, i1]
 | .z k => by
  show ofInt k * ofInt 1 + ofInt 0 = ofInt k
  rw [RR.add_comm, i0, RR.mul_comm, i1]
 | .a x y => by
  show evP ρ (addP x.norm y.norm) = x.ev ρ + y.ev ρ
  rw [ev_addP, ev_norm ρ x, ev_norm ρ y]
 | .m x y => by
  show evP ρ (mulP x.norm y.norm) = x.ev ρ * y.ev ρ
  rw [ev_mulP, ev_norm ρ x, ev_norm ρ y]
 | .n x => by
  show evP ρ (mulT (-1) [] x.norm) = -x.ev ρ
  rw [ev_mulT, ev_norm ρ x]
  show ofInt (-1) * ofInt 1 * x.ev ρ = -x.ev ρ
  rw [ineg, RR.mul_assoc, i1, RR.neg_mul, i1]
theorem ev_isZ (ρ : List RR) : ∀ p, isZ p = true → evP ρ p = ofInt 0
 | [], _ => rfl
 | (k, l) :: p, h => by
  unfold isZ at h
  split at h
  ·rename_i h1
   obtain rfl := of_decide_eq_true h1
   show ofInt 0 * evM ρ l + evP ρ p = ofInt 0
   rw [ev_isZ ρ p h, RR.add_comm, i0]
   exact RR.zero_mul _
  ·cases h
end PE
class AtR (ρ : List RR) (x : RR) (i : outParam Nat) : Prop where
 eq : PE.at' ρ i = x
instance (x : RR) (l : List RR) : AtR (x :: l) x 0 := ⟨rfl⟩
instance (priority := low) (x y : RR) (l : List RR) (i : Nat) [h : AtR l x i] : AtR (y :: l) x (i + 1) := ⟨h.eq⟩
class QtR (ρ : List RR) (x : RR) (e : outParam PE) : Prop where
 eq : e.ev ρ = x
instance (priority := low) (ρ : List RR) (x : RR) (i : Nat) [h : AtR ρ x i] : QtR ρ x (.v i) := ⟨h.eq⟩
instance (ρ : List RR) (x y : RR) (e f : PE) [h : QtR ρ x e] [g : QtR ρ y f] : QtR ρ (x + y) (.a e f) := ⟨by show e.ev ρ + f.ev ρ = _; rw [h.eq, g.eq]⟩
instance (ρ : List RR) (x y : RR) (e f : PE) [h : QtR ρ x e] [g : QtR ρ y f] : QtR ρ (x * y) (.m e f) := ⟨by show e.ev ρ * f.ev ρ = _; rw [h.eq, g.eq]⟩
instance (ρ : List RR) (x y : RR) (e f : PE) [h : QtR ρ x e] [g : QtR ρ y f] : QtR ρ (x - y) (.a e (.n f)) := ⟨by show e.ev ρ + -f.ev ρ = _; rw [h.eq, g.eq]; rfl⟩
instance (ρ : List RR) (x : RR) (e : PE) [h : QtR ρ x e] : QtR ρ (-x) (.n e) := ⟨by show -e.ev ρ = _; rw [h.eq]⟩
instance (ρ : List RR) (n : Nat) : QtR ρ (no_index (OfNat.ofNat n : RR)) (.z n) := ⟨rfl⟩
instance (ρ : List RR) (p q : Rat) (e f : PE) [h : QtR ρ (RR.ofRat p) e] [g : QtR ρ (RR.ofRat q) f] : QtR ρ (RR.ofRat (p + q)) (.a e f) := ⟨by show e.ev ρ + f.ev ρ = _; rw [h.eq, g.eq]; rfl⟩
instance (ρ : List RR) (p q : Rat) (e f : PE) [h : QtR ρ (RR.ofRat p) e] [g : QtR ρ (RR.ofRat q) f] : QtR ρ (RR.ofRat (p * q)) (.m e f) := ⟨by show e.ev ρ * f.ev ρ = _; rw [h.eq, g.eq]; rfl⟩
instance (ρ : List RR) (p q : Rat) (e f : PE) [h : QtR ρ (RR.ofRat p) e] [g : QtR ρ (RR.ofRat q) f] : QtR ρ (RR.ofRat (p - q)) (.a e (.n f)) := ⟨by show e.ev ρ + -f.ev ρ = _; rw [h.eq, g.eq, RR.rat_sub]; rfl⟩
instance (ρ : List RR) (p : Rat) (e : PE) [h : QtR ρ (RR.ofRat p) e] : QtR ρ (RR.ofRat (-p)) (.n e) := ⟨by show -e.ev ρ = _; rw [h.eq]; rfl⟩
instance (ρ : List RR) (n : Nat) : QtR ρ (RR.ofRat (no_index (OfNat.ofNat n))) (.z n) := ⟨rfl⟩
namespace RR
theorem sub_zero' {x y : RR} (h : x + -y = ofRat 0) : x = y := by
 have : x + -y + y = ofRat 0 + y := by rw [h]
 rwa [add_assoc, add_comm (-y) y, add_neg, zero_add, add_comm, zero_add] at this
theorem ring (ρ : List RR) {x y : RR} {e f : PE} [h1 : QtR ρ x e] [h2 : QtR ρ y f] (h : PE.isZ (PE.norm (.a e (.n f))) = true) : x = y := by
 have := PE.ev_isZ ρ _ h
 rw [PE.ev_norm] at this
 have h3 : x + -y = ofRat 0 := by
  rw [← h1.eq, ← h2.eq]; exact this
 exact sub_zero' h3
theorem ring1 (ρ : List RR) {l r : RR} (hl : l = r) (k : RR) {x y : RR} {e f g u v : PE} [h1 : QtR ρ x e] [h2 : QtR ρ y f] [h3 : QtR ρ l u] [h4 : QtR ρ r v] [h5 : QtR ρ k g] (h : PE.isZ (PE.norm (.a (.a e (.n f)) (.n (.m g (.a u (.n v)))))) = true) : x = y := by
 have := PE.ev_isZ ρ _ h
 rw [PE.ev_norm] at this
 have h6 : (x + -y) + -(k * (l + -r)) = ofRat 0 := by
  rw [← h1.eq, ← h2.eq, ← h3.eq, ← h4.eq, ← h5.eq]; exact this
 rw [hl, add_neg, mul_comm, zero_mul] at h6
 have h7 : -(ofRat 0) = ofRat 0 := by have := add_neg (ofRat 0); rwa [zero_add] at this
 rw [h7, add_comm, zero_add] at h6
 exact sub_zero' h6
theorem ring2 (ρ : List RR) {l r : RR} (hl : l = r) (k : RR) {l' r' : RR} (hl' : l' = r') (k' : RR) {x y : RR} {e f g u v g' u' v' : PE} [h1 : QtR ρ x e] [h2 : QtR ρ y f] [h3 : QtR ρ l u] [h4 : QtR ρ r v] [h5 : QtR ρ k g] [h3' : QtR ρ l' u'] [h4' : QtR ρ r' v'] [h5' : QtR ρ k' g'] (h : PE.isZ (PE.norm (.a (.a (.a e (.n f)) (.n (.m g (.a u (.n v))))) (.n (.m g' (.a u' (.n v')))))) = true) : x = y := by
 have := PE.ev_isZ ρ _ h
 rw [PE.ev_norm] at this
 have h6 : ((x + -y) + -(k * (l + -r))) + -(k' * (l' + -r')) = ofRat 0 := by
  rw [← h1.eq, ← h2.eq, ← h3.eq, ← h4.eq, ← h5.eq, ← h3'.eq, ← h4'.eq, ← h5'.eq]; exact this
 have h7 : -(ofRat 0) = ofRat 0 := by have := add_neg (ofRat 0); rwa [zero_add] at this
 rw [hl, hl', add_neg, add_neg, mul_comm, zero_mul, mul_comm, zero_mul, h7, add_comm, zero_add, add_comm, zero_add] at h6
 exact sub_zero' h6
example (x y : RR) (p : Rat) : (x + y) * (x - ofRat (p + 2)) = x * x + y * x - (2 * x + p * x) - p * y - 2 * y := ring [x, y, p] (by decide +kernel)
end RR
end Vi
namespace Vi
namespace RR
def pos (x : RR) : Prop := Quotient.liftOn x (fun a => Pst a.f) fun a b h => propext ⟨fun p => by
    have := p.addNul (Nul.neg h)
    have e : (fun n => a.f n + -(a.f n - b.f n)) = b.f := funext fun n => by grind
    rwa [e] at this, fun p => by
    have := p.addNul h
    have e : (fun n => b.f n + (a.f n - b.f n)) = a.f := funext fun n => by grind
    rwa [e] at this⟩
instance : LT RR := ⟨fun x y => pos (y - x)⟩
instance : LE RR := ⟨fun x y => ¬ y < x⟩
theorem lt_iff {x y : RR} : x < y ↔ pos (y - x) := Iff.rfl
theorem le_iff {x y : RR} : x ≤ y ↔ ¬ y < x := Iff.rfl
theorem pos_add {x y : RR} : pos x → pos y → pos (x + y) := by
 induction x using ind with | h a => induction y using ind with | h b => exact fun h1 h2 => Pst.add h1 h2
theorem pos_mul {x y : RR} : pos x → pos y → pos (x * y) := by
 induction x using ind with | h a => induction y using ind with | h b => exact fun h1 h2 => Pst.mul h1 h2
theorem pos_neg {x : RR} : pos x → pos (-x) → False := by
 induction x using ind with | h a => exact fun h1 h2 => Pst.notNeg h1 h2
theorem pos_zero : ¬ pos (ofRat 0) := fun h => Pst.notNul (f := fun _ => 0) h Nul.zero
theorem pos_tri (x : RR) : x = 0 ∨ pos x ∨ pos (-x) := by
 induction x using ind with | h a =>
 rcases a.c.tri with h | h | h
 ·left
  exact sound (by
   have e : (fun n => a.f n - 0) = a.f := funext fun n => by grind
   have : Nul fun n => a.f n - 0 := by rw [e]; exact h
   exact this)
 ·exact .inr (.inl h)
 ·exact .inr (.inr h)
theorem pos_rat (q : Rat) : pos (ofRat q) ↔ 0 < q := by
 constructor
 ·intro h
  obtain ⟨d, h0, N, h1⟩ := (h : Pst fun _ => q)
  have := h1 N (Nat.le_refl _)
  grind
 ·intro h
  exact (⟨q, h, 0, fun _ _ => Rat.le_refl⟩ : Pst fun _ => q)
theorem zero_lt {x : RR} : 0 < x ↔ pos x := by
 rw [lt_iff, ring (x := x - 0) (y := x) [x] (by decide +kernel)]
theorem lt_of_pos {x y : RR} (t : RR) (h : 0 < t) (e : y - x = t) : x < y := by
 rw [lt_iff, e]; exact zero_lt.1 h
theorem lt_zero {x : RR} : x < 0 ↔ 0 < -x := by
 rw [zero_lt, lt_iff, ring (x := 0 - x) (y := -x) [x] (by decide +kernel)]
theorem sub_pos {x y : RR} : 0 < y - x ↔ x < y := by rw [zero_lt]; rfl
theorem lt_irrefl (x : RR) : ¬ x < x := fun h => by
 rw [lt_iff, ring (x := x - x) (y := ofRat 0) [x] (by decide +kernel)] at h
 exact pos_zero h
theorem lt_trans {x y z : RR} (h1 : x < y) (h2 : y < z) : x < z := by
 have := pos_add h1 h2
 rwa [ring (x := y - x + (z - y)) (y := z - x) [x, y, z] (by decide +kernel)] at this
theorem tri (x y : RR) : x < y ∨ x = y ∨ y < x := by
 rcases pos_tri (y - x) with h | h | h
 ·exact .inr (.inl (ring1 [x, y] h (-1) (by decide +kernel)))
 ·exact .inl h
 ·refine .inr (.inr ?_)
  rwa [ring (x := -(y - x)) (y := x - y) [x, y] (by decide +kernel)] at h
theorem le_refl (x : RR) : x ≤ x := lt_irrefl x
theorem le_of_lt {x y : RR} (h : x < y) : x ≤ y := fun h2 => lt_irrefl _ (lt_trans h h2)
theorem le_of_eq {x y : RR} (h : x = y) : x ≤ y := h ▸ le_refl x
theorem lt_or_eq {x y : RR} (h : x ≤ y) : x < y ∨ x = y := by
 rcases tri x y with h1 | h1 | h1
 ·exact .inl h1
 ·exact .inr h1
 ·exact absurd h1 h
theorem le_trans {x y z : RR} (h1 : x ≤ y) (h2 : y ≤ z) : x ≤ z := by
 rcases lt_or_eq h1 with h1 | rfl
 ·rcases lt_or_eq h2 with h2 | rfl
  ·exact le_of_lt (lt_trans h1 h2)
  ·exact le_of_lt h1
 ·exact h2
theorem lt_of_lt_of_le {x y z : RR} (h1 : x < y) (h2 : y ≤ z) : x < z := by
 rcases lt_or_eq h2 with h2 | rfl
 ·exact lt_trans h1 h2
 ·exact h1
theorem lt_of_le_of_lt {x y z : RR} (h1 : x ≤ y) (h2 : y < z) : x < z := by
 rcases lt_or_eq h1 with h1 | rfl
 ·exact lt_trans h1 h2
 ·exact h2
theorem le_antisymm {x y : RR} (h1 : x ≤ y) (h2 : y ≤ x) : x = y := by
 rcases lt_or_eq h1 with h1 | h1
 ·exact absurd h1 h2
 ·exact h1
theorem not_lt {x y : RR} : ¬ x < y ↔ y ≤ x := Iff.rfl
theorem not_le {x y : RR} : ¬ x ≤ y ↔ y < x := Classical.not_not
theorem le_total (x y : RR) : x ≤ y ∨ y ≤ x := by
 rcases tri x y with h | h | h
 ·exact .inl (le_of_lt h)
 ·exact .inl (le_of_eq h)
 ·exact .inr (le_of_lt h)
theorem ne_of_lt {x y : RR} (h : x < y) : x ≠ y := fun e => lt_irrefl x (by rw [← e] at h; exact h)
theorem add_pos {x y : RR} (h1 : 0 < x) (h2 : 0 < y) : 0 < x + y := zero_lt.2 (pos_add (zero_lt.1 h1) (zero_lt.1 h2))
theorem mul_pos {x y : RR} (h1 : 0 < x) (h2 : 0 < y) : 0 < x * y := zero_lt.2 (pos_mul (zero_lt.1 h1) (zero_lt.1 h2))
theorem mul_neg {x y : RR} (h1 : 0 < x) (h2 : y < 0) : x * y < 0 := by
 rw [lt_zero] at *
 have := mul_pos h1 h2
 rwa [ring (x := x * -y) (y := -(x * y)) [x, y] (by decide +kernel)] at this
theorem neg_pos {x : RR} : 0 < -x ↔ x < 0 := lt_zero.symm
theorem neg_lt_zero {x : RR} : -x < 0 ↔ 0 < x := by rw [lt_zero, neg_neg]
theorem mul_neg_neg {x y : RR} (h1 : x < 0) (h2 : y < 0) : 0 < x * y := by
 rw [lt_zero] at *
 have := mul_pos h1 h2
 rwa [ring (x := -x * -y) (y := x * y) [x, y] (by decide +kernel)] at this
theorem add_nonneg {x y : RR} (h1 : 0 ≤ x) (h2 : 0 ≤ y) : 0 ≤ x + y := by
 rcases lt_or_eq h1 with h1 | rfl
 ·rcases lt_or_eq h2 with h2 | rfl
  ·exact le_of_lt (add_pos h1 h2)
  ·rw [ring (x := x + 0) (y := x) [x] (by decide +kernel)]; exact le_of_lt h1
 ·rw [ring (x := 0 + y) (y := y) [y] (by decide +kernel)]; exact h2
theorem add_pos_of_nonneg {x y : RR} (h1 : 0 < x) (h2 : 0 ≤ y) : 0 < x + y := by
 rcases lt_or_eq h2 with h2 | rfl
 ·exact add_pos h1 h2
 ·rw [ring (x := x + 0) (y := x) [x] (by decide +kernel)]; exact h1
theorem mul_nonneg {x y : RR} (h1 : 0 ≤ x) (h2 : 0 ≤ y) : 0 ≤ x * y := by
 rcases lt_or_eq h1 with h1 | rfl
 ·rcases lt_or_eq h2 with h2 | rfl
  ·exact le_of_lt (mul_pos h1 h2)
  ·rw [ring (x := x * 0) (y := 0) [x] (by decide +kernel)]; exact le_refl _
 ·rw [ring (x := 0 * y) (y := 0) [y] (by decide +kernel)]; exact le_refl _
theorem sub_nonneg {x y : RR} : 0 ≤ y - x ↔ x ≤ y := by
 rw [← not_lt, ← not_lt, lt_zero, ring (x := -(y - x)) (y := x - y) [x, y] (by decide +kernel), sub_pos]
theorem le_of_nonneg {x y : RR} (t : RR) (h : 0 ≤ t) (e : y - x = t) : x ≤ y := by
 rw [← sub_nonneg, e]; exact h
theorem sq_nonneg (x : RR) : 0 ≤ x * x := by
 rcases tri x 0 with h | rfl | h
 ·exact le_of_lt (mul_neg_neg h h)
 ·rw [ring (x := (0 : RR) * 0) (y := 0) [] (by decide +kernel)]; exact le_refl _
 ·exact le_of_lt (mul_pos h h)
theorem mul_ne {x y : RR} (hx : x ≠ 0) (hy : y ≠ 0) : x * y ≠ 0 := by
 rcases tri x 0 with h | h | h
 ·rcases tri y 0 with g | g | g
  ·exact (ne_of_lt (mul_neg_neg h g)).symm
  ·exact absurd g hy
  ·rw [mul_comm]; exact ne_of_lt (mul_neg g h)
 ·exact absurd h hx
 ·rcases tri y 0 with g | g | g
  ·exact ne_of_lt (mul_neg h g)
  ·exact absurd g hy
  ·exact (ne_of_lt (mul_pos h g)).symm
theorem rat_lt {p q : Rat} : ofRat p < ofRat q ↔ p < q := by
 rw [lt_iff, ← rat_sub, pos_rat]
 constructor <;> intro h <;> grind
theorem rat_le {p q : Rat} : ofRat p ≤ ofRat q ↔ p ≤ q := by
 rw [← not_lt, rat_lt, Rat.not_lt]
theorem rat_inj {p q : Rat} (h : ofRat p = ofRat q) : p = q := by
 have h1 : ¬ p < q := fun g => ne_of_lt (rat_lt.2 g) h
 have h2 : ¬ q < p := fun g => ne_of_lt (rat_lt.2 g) h.symm
 exact Rat.le_antisymm (Rat.not_lt.1 h2) (Rat.not_lt.1 h1)
theorem rat_zero : ofRat 0 = (0 : RR) := rfl
theorem rat_one : ofRat 1 = (1 : RR) := rfl
theorem dense {x y : RR} : x < y → ∃ q : Rat, x < ofRat q ∧ ofRat q < y := by
 induction x using ind with | h a => induction y using ind with | h b =>
 intro h
 obtain ⟨d, h0, N, h1⟩ := (h : Pst fun n => b.f n + -(a.f n))
 have h1 : ∀ n, N ≤ n → d ≤ b.f n + -(a.f n) := h1
 have h4 : 0 < d / 4 := by grind
 obtain ⟨M, h2⟩ := a.c (d / 4) h4
 refine ⟨a.f (N + M) + d / 2, (?_ : Pst fun n => (a.f (N + M) + d / 2) + -(a.f n)), (?_ : Pst fun n => b.f n + -(a.f (N + M) + d / 2))⟩
 ·refine ⟨d / 4, h4, N + M, fun n hn => ?_⟩
  have := h2 n (by omega) (N + M) (by omega)
  grind
 ·refine ⟨d / 4, h4, N + M, fun n hn => ?_⟩
  have := h2 (N + M) (by omega) n (by omega)
  have := h1 n (by omega)
  grind
end RR
noncomputable def sgR (x : RR) : Int := open Classical in if 0 < x then 1 else if x < 0 then -1 else 0
namespace RR
theorem sg_pos {x : RR} (h : 0 < x) : sgR x = 1 := if_pos h
theorem sg_neg {x : RR} (h : x < 0) : sgR x = -1 := by unfold sgR; rw [if_neg (le_of_lt h), if_pos h]
theorem sg_zero {x : RR} (h : x = 0) : sgR x = 0 := by subst h; unfold sgR; rw [if_neg (lt_irrefl 0), if_neg (lt_irrefl 0)]
theorem sg_cases (x : RR) : (sgR x = -1 ∧ x < 0) ∨ (sgR x = 0 ∧ x = 0) ∨ (sgR x = 1 ∧ 0 < x) := by
 rcases tri x 0 with h | h | h
 ·exact .inl ⟨sg_neg h, h⟩
 ·exact .inr (.inl ⟨sg_zero h, h⟩)
 ·exact .inr (.inr ⟨sg_pos h, h⟩)
theorem sg_mul (x y : RR) : sgR (x * y) = sgR x * sgR y := by
 rcases sg_cases x with ⟨h1, h⟩ | ⟨h1, rfl⟩ | ⟨h1, h⟩ <;> rcases sg_cases y with ⟨g1, g⟩ | ⟨g1, rfl⟩ | ⟨g1, g⟩ <;> simp only [h1, g1]
 ·exact sg_pos (mul_neg_neg h g)
 ·exact sg_zero (ring [x] (by decide +kernel))
 ·rw [mul_comm]; exact sg_neg (mul_neg g h)
 ·exact sg_zero (ring [y] (by decide +kernel))
 ·exact sg_zero (ring [] (by decide +kernel))
 ·exact sg_zero (ring [y] (by decide +kernel))
 ·exact sg_neg (mul_neg h g)
 ·exact sg_zero (ring [x] (by decide +kernel))
 ·exact sg_pos (mul_pos h g)
theorem sg_opp (x : RR) : sgR (-x) = -sgR x := by
 rw [ring (x := -x) (y := ofRat (-1) * x) [x] (by decide +kernel), sg_mul, sg_neg (x := ofRat (-1)) (rat_lt.2 (by decide))]
 omega
theorem sg_iff0 {x : RR} : sgR x = 0 ↔ x = 0 := by
 rcases sg_cases x with ⟨h1, h⟩ | ⟨h1, h⟩ | ⟨h1, h⟩ <;> rw [h1]
 ·exact ⟨fun e => by omega, fun e => absurd e (ne_of_lt h)⟩
 ·exact ⟨fun _ => h, fun _ => rfl⟩
 ·exact ⟨fun e => by omega, fun e => absurd e.symm (ne_of_lt h)⟩
theorem sg_iff1 {x : RR} : sgR x = 1 ↔ 0 < x := by
 rcases sg_cases x with ⟨h1, h⟩ | ⟨h1, rfl⟩ | ⟨h1, h⟩ <;> rw [h1]
 ·exact ⟨fun e => by omega, fun e => absurd e (le_of_lt h)⟩
 ·exact ⟨fun e => by omega, fun e => absurd e (lt_irrefl _)⟩
 ·exact ⟨fun _ => h, fun _ => rfl⟩
theorem sg_iff2 {x : RR} : sgR x = -1 ↔ x < 0 := by
 rcases sg_cases x with ⟨h1, h⟩ | ⟨h1, rfl⟩ | ⟨h1, h⟩ <;> rw [h1]
 ·exact ⟨fun _ => h, fun _ => rfl⟩
 ·exact ⟨fun e => by omega, fun e => absurd e (lt_irrefl _)⟩
 ·exact ⟨fun e => by omega, fun e => absurd e (le_of_lt h)⟩
theorem sg_add_same {x y : RR} (h : sgR x = sgR y ∨ sgR y = 0) : sgR (x + y) = sgR x := by
 rcases h with h | h
 ·rcases sg_cases y with ⟨g1, g⟩ | ⟨g1, g⟩ | ⟨g1, g⟩ <;> rw [g1] at h
  ·have h2 := sg_iff2.1 h
   rw [h]
   refine sg_iff2.2 ?_
   rw [lt_zero] at *
   have := add_pos h2 g
   rwa [ring (x := -x + -y) (y := -(x + y)) [x, y] (by decide +kernel)] at this
  ·obtain rfl := sg_iff0.1 h
   subst g
   rw [ring (x := (0 : RR) + 0) (y := 0) [] (by decide +kernel)]
  ·rw [h]
   exact sg_iff1.2 (add_pos (sg_iff1.1 h) g)
 ·obtain rfl := sg_iff0.1 h
  rw [ring (x := x + 0) (y := x) [x] (by decide +kernel)]
theorem sg_add_diff {x y : RR} (h : sgR x = -sgR y) (h0 : sgR x ≠ 0) : sgR (x + y) = sgR x * sgR (x * x - y * y) := by
 have e : x * x - y * y = (x + y) * (x - y) := ring [x, y] (by decide +kernel)
 have h1 : sgR (x - y) = sgR x := by
  rw [sub_eq]
  refine sg_add_same (.inl ?_)
  rw [sg_opp]; exact h
 rw [e, sg_mul, h1]
 rcases sg_cases x with ⟨g1, _⟩ | ⟨g1, _⟩ | ⟨g1, _⟩ <;> rw [g1] at h0 ⊢ <;> omega
end RR
end Vi
namespace Vi
theorem rsq_ex (r : Rat) (hr : 0 ≤ r) (n : Nat) : ∃ u : Rat, 0 ≤ u ∧ u * u ≤ r ∧ r < (u + 1 / ((n + 1 : Nat) : Rat)) * (u + 1 / ((n + 1 : Nat) : Rat)) := by
 obtain ⟨d, hd⟩ : ∃ d : Rat, d = ((n + 1 : Nat) : Rat) := ⟨_, rfl⟩
 have d0 : 0 < d := by rw [hd]; exact_mod_cast Nat.succ_pos n
 rw [← hd]
 obtain ⟨X, hX⟩ : ∃ X : Rat, X = r * (d * d) := ⟨_, rfl⟩
 have x0 : 0 ≤ X := by rw [hX]; exact Rat.mul_nonneg hr (Rat.le_of_lt (Rat.mul_pos d0 d0))
 have f0 : 0 ≤ X.floor := Rat.le_floor_iff.2 x0
 have root : ∀ N : Nat, ∃ s : Nat, s * s ≤ N ∧ N < (s + 1) * (s + 1) := by
  intro N
  induction N with
  | zero => exact ⟨0, by omega⟩
  | succ N ih =>
   obtain ⟨s, h1, h2⟩ := ih
   by_cases h : N + 1 < (s + 1) * (s + 1)
   ·exact ⟨s, by omega, h⟩
   ·refine ⟨s + 1, by omega, ?_⟩
    have e : (s + 1 + 1) * (s + 1 + 1) = (s + 1) * (s + 1) + 2 * s + 3 := by grind
    omega
 obtain ⟨s, h1, h2⟩ := root X.floor.toNat
 obtain ⟨S, hS⟩ : ∃ S : Rat, S = (s : Rat) := ⟨_, rfl⟩
 have S0 : 0 ≤ S := by rw [hS]; exact_mod_cast Nat.zero_le s
 have a1 : S * S ≤ X := by
  have h3 : ((s * s : Nat) : Int) ≤ X.floor := by omega
  have h4 := Rat.le_floor_iff.1 h3
  rw [hS]
  have h5 : (((s * s : Nat) : Int) : Rat) = (s : Rat) * (s : Rat) := by push_cast; rfl
  rwa [h5] at h4
 have a2 : X < (S + 1) * (S + 1) := by
  have h3 : X.floor < (((s + 1) * (s + 1) : Nat) : Int) := by omega
  have h4 := Rat.floor_lt_iff.1 h3
  have h5 : ((((s + 1) * (s + 1) : Nat) : Int) : Rat) = ((s : Rat) + 1) * ((s : Rat) + 1) := by push_cast; rfl
  rw [h5] at h4
  rw [hS]; exact h4
 have di : d * d⁻¹ = 1 := Rat.mul_inv_cancel _ (by grind)
 have i0 : 0 < d⁻¹ := Rat.inv_pos.2 d0
 have hr2 : r = X * (d⁻¹ * d⁻¹) := by rw [hX]; grind
 refine ⟨S * d⁻¹, Rat.mul_nonneg S0 (Rat.le_of_lt i0), ?_, ?_⟩
 ·have := Rat.mul_nonneg (show 0 ≤ X - S * S by grind) (Rat.le_of_lt (Rat.mul_pos i0 i0))
  grind
 ·have := Rat.mul_pos (show 0 < (S + 1) * (S + 1) - X by grind) (Rat.mul_pos i0 i0)
  have e : (1 : Rat) / d = d⁻¹ := by rw [Rat.div_def, Rat.one_mul]
  rw [e]
  grind
theorem small_inv (e : Rat) (he : 0 < e) : ∃ N : Nat, ∀ n : Nat, N ≤ n → 1 / ((n + 1 : Nat) : Rat) < e := by
 refine ⟨e⁻¹.floor.toNat, fun n hn => ?_⟩
 obtain ⟨d, hd⟩ : ∃ d : Rat, d = ((n + 1 : Nat) : Rat) := ⟨_, rfl⟩
 have d0 : 0 < d := by rw [hd]; exact_mod_cast Nat.succ_pos n
 have h1 : e⁻¹ < d := by
  have : e⁻¹.floor < ((n + 1 : Nat) : Int) := by omega
  have := Rat.floor_lt_iff.1 this
  rw [hd]; exact_mod_cast this
 rw [← hd, Rat.div_def, Rat.one_mul]
 have i0 : 0 < d⁻¹ := Rat.inv_pos.2 d0
 have e0 : 0 < e⁻¹ := Rat.inv_pos.2 he
 have := Rat.mul_pos (show 0 < d - e⁻¹ by grind) (Rat.mul_pos i0 he)
 have x1 : d * d⁻¹ = 1 := Rat.mul_inv_cancel _ (by grind)
 have x2 : e * e⁻¹ = 1 := Rat.mul_inv_cancel _ (by grind)
 generalize e⁻¹ = e' at *
 generalize d⁻¹ = d' at *
 clear hd hn h1
 rw [show (d - e') * (d' * e) = (d * d') * e - (e * e') * d' by grind, x1, x2] at this
 grind
theorem lt_of_sq {a b : Rat} (hb : 0 ≤ b) (h : a * a < b * b) : a < b := by
 apply Rat.not_le.1
 intro hc
 have := Rat.mul_nonneg (show 0 ≤ a - b by grind) (show 0 ≤ a + b by grind)
 grind
noncomputable def sqSeq (r : Rat) (hr : 0 ≤ r) (n : Nat) : Rat := Classical.choose (rsq_ex r hr n)
theorem sqSeq_spec (r : Rat) (hr : 0 ≤ r) (n : Nat) : 0 ≤ sqSeq r hr n ∧ sqSeq r hr n * sqSeq r hr n ≤ r ∧ r < (sqSeq r hr n + 1 / ((n + 1 : Nat) : Rat)) * (sqSeq r hr n + 1 / ((n + 1 : Nat) : Rat)) := Classical.choose_spec (rsq_ex r hr n)
theorem one_div_pos (n : Nat) : 0 < 1 / ((n + 1 : Nat) : Rat) := by
 have d0 : (0 : Rat) < ((n + 1 : Nat) : Rat) := by exact_mod_cast Nat.succ_pos n
 rw [Rat.div_def, Rat.one_mul]; exact Rat.inv_pos.2 d0
theorem sq_cau (r : Rat) (hr : 0 ≤ r) : Cau (sqSeq r hr) := fun e he => by
 obtain ⟨N, hN⟩ := small_inv e he
 refine ⟨N, fun m hm n hn => ?_⟩
 obtain ⟨a0, a1, a2⟩ := sqSeq_spec r hr m
 obtain ⟨b0, b1, b2⟩ := sqSeq_spec r hr n
 have c1 := hN n hn
 have p := one_div_pos n
 have := lt_of_sq (a := sqSeq r hr m) (b := sqSeq r hr n + 1 / ((n + 1 : Nat) : Rat)) (by grind) (by grind)
 grind
namespace RR
open Classical in
noncomputable def sqrt (r : Rat) : RR := if hr : 0 ≤ r then mk ⟨sqSeq r hr, sq_cau r hr⟩ else 0
theorem sqrt_nonneg (r : Rat) : 0 ≤ sqrt r := by
 unfold sqrt
 split
 ·rename_i hr
  rw [← not_lt, lt_zero, zero_lt]
  intro h
  obtain ⟨d, d0, N, hN⟩ := (h : Pst fun n => -(sqSeq r hr n))
  have h1 : d ≤ -(sqSeq r hr N) := hN N (Nat.le_refl _)
  have h2 := (sqSeq_spec r hr N).1
  grind
 ·exact le_refl _
theorem sqrt_sq (r : Rat) (hr : 0 ≤ r) : sqrt r * sqrt r = r := by
 unfold sqrt
 rw [dif_pos hr]
 refine sound (b := ⟨fun _ => r, Cau.const r⟩) ?_
 have goal : Nul fun n => sqSeq r hr n * sqSeq r hr n - r := by
  intro e he
  obtain ⟨B, hB, M, hM⟩ := (sq_cau r hr).bdd
  have hC : 0 < 2 * B + 1 := by grind
  obtain ⟨N, hN⟩ := small_inv (e / (2 * B + 1)) (div_small he hC)
  obtain ⟨N1, hN1⟩ := small_inv 1 (by decide)
  refine ⟨M + N + N1, fun n hn => ?_⟩
  obtain ⟨b0, b1, b2⟩ := sqSeq_spec r hr n
  have c1 := hM n (by omega)
  have c2 := hN n (by omega)
  have c3 := hN1 n (by omega)
  have c4 := one_div_pos n
  have c5 := div_mul (e := e) hC
  show sqSeq r hr n * sqSeq r hr n - r < e ∧ -e < sqSeq r hr n * sqSeq r hr n - r
  generalize sqSeq r hr n = u at *
  generalize 1 / ((n + 1 : Nat) : Rat) = t at *
  generalize e / (2 * B + 1) = q at *
  have d1 := Rat.mul_pos (show 0 < q - t by grind) hC
  have d2 := Rat.mul_pos c4 (show 0 < B - u by grind)
  have d3 := Rat.mul_pos c4 (show 0 < 1 - t by grind)
  constructor <;> grind
 exact goal
theorem sqrt_pos {r : Rat} (h : 0 < r) : 0 < sqrt r := by
 rcases lt_or_eq (sqrt_nonneg r) with h1 | h1
 ·exact h1
 ·exfalso
  have h2 := sqrt_sq r (Rat.le_of_lt h)
  rw [← h1, ring (x := (0 : RR) * 0) (y := ofRat 0) [] (by decide +kernel)] at h2
  have := rat_inj h2
  rw [← this] at h
  exact Rat.lt_irrefl h
theorem sqrt_zero : sqrt 0 = 0 := by
 have h2 := sqrt_sq 0 (by decide)
 rcases tri (sqrt 0) 0 with h | h | h
 ·exact absurd h (sqrt_nonneg 0)
 ·exact h
 ·exact absurd (mul_pos h h) (by rw [h2]; exact lt_irrefl _)
theorem sg_sqrt {r : Rat} (h : 0 ≤ r) : sgR (sqrt r) = sgR (ofRat r) := by
 rcases tri (ofRat r) 0 with g | g | g
 ·exact absurd (rat_lt.1 g) (Rat.not_lt.2 h)
 ·have : r = 0 := rat_inj g
  subst this
  rw [sqrt_zero]; rfl
 ·rw [sg_pos g, sg_pos (sqrt_pos (rat_lt.1 g))]
end RR
end Vi
