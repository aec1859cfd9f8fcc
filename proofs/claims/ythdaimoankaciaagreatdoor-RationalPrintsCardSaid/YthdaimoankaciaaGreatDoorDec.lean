import Derived.Test.YthdaimoankaciaaGreatDoorMag
/- No program in sight: numbers in decimal digits, read from a list of bytes. -/
namespace Vi
def dgt (s : ByteArray) (k : Nat) : Nat := (s.data.toList.getD k 0).toNat - 48
def isD (b : UInt8) : Bool := decide (48 ≤ b.toNat) && decide (b.toNat ≤ 57)
def cv (s : ByteArray) (k : Nat) : Nat → Nat
 | 0 => 0
 | n + 1 => cv s k n * 10 + dgt s (k + n)
def pv (s : ByteArray) (n : Nat) : Nat := cv s 0 n
theorem pv_succ (s : ByteArray) (n : Nat) : pv s (n + 1) = pv s n * 10 + dgt s n := by
 unfold pv
 rw [cv, Nat.zero_add]
theorem cv_add (s : ByteArray) (k n : Nat) : pv s (k + n) = pv s k * 10 ^ n + cv s k n := by
 induction n with
 | zero => simp [cv]
 | succ n ih =>
  rw [show k + (n + 1) = k + n + 1 by omega, pv_succ, ih, cv, Nat.pow_succ, Nat.add_mul, Nat.mul_assoc]
  omega
theorem dgt_le (s : ByteArray) (k : Nat) (hk : k < s.size) (h : isD (s[k]'hk) = true) : dgt s k ≤ 9 ∧ (s[k]'hk).toNat = 48 + dgt s k := by
 unfold isD at h
 simp only [Bool.and_eq_true, decide_eq_true_eq] at h
 have e : s.data.toList.getD k 0 = s[k]'hk := by
  rw [List.getD_eq_getElem?_getD, List.getElem?_eq_getElem (by simpa using hk)]
  rfl
 unfold dgt
 rw [e]
 omega
theorem cv_lt (s : ByteArray) (k : Nat) : ∀ n, (∀ i, i < n → dgt s (k + i) ≤ 9) → cv s k n < 10 ^ n
 | 0, _ => by simp [cv]
 | n + 1, h => by
  have h1 := cv_lt s k n fun i hi => h i (by omega)
  have h2 := h n (by omega)
  rw [cv, Nat.pow_succ]
  omega
theorem pv_lt (s : ByteArray) (n : Nat) (h : ∀ i, i < n → dgt s i ≤ 9) : pv s n < 10 ^ n :=
 cv_lt s 0 n fun i hi => by rw [Nat.zero_add]; exact h i hi
end Vi
