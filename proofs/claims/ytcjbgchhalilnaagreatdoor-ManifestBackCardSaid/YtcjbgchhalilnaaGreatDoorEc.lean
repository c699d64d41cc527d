/- Names of files, plain: six digits, in the order of their numbers. -/
import Derived.Lib.ItoaMem
import Derived.Lib.Repeat
namespace Go.Proofs.YtcjbgchhalilnaaGreatDoor
open Go

/-- The last k digits of a number. -/
def padL : Nat → Nat → List UInt8
  | 0, _ => []
  | k + 1, n => padL k (n / 10) ++ [UInt8.ofNat (48 + n % 10)]
theorem padL_length : ∀ k n, (padL k n).length = k
  | 0, _ => rfl
  | k + 1, n => by simp [padL, padL_length k]
theorem padL_zero : ∀ k, padL k 0 = List.replicate k 48
  | 0 => rfl
  | k + 1 => by
    have : (48 + 0 % 10) = 48 := rfl
    rw [padL, padL_zero k, List.replicate_succ']
    rfl
theorem dec_step {n : Nat} (h : 10 ≤ n) : Lib.decDigits n = Lib.decDigits (n / 10) ++ [UInt8.ofNat (48 + n % 10)] := by
  conv => lhs; rw [Lib.decDigits]
  rw [dif_neg (by omega)]
theorem dec_len {k : Nat} : ∀ n, n < 10 ^ (k + 1) → (Lib.decDigits n).length ≤ k + 1 := by
  induction k with
  | zero => intro n h; rw [Lib.decDigits_one (by omega)]; simp
  | succ k ih =>
    intro n h
    by_cases h10 : n < 10
    · rw [Lib.decDigits_one h10]; simp
    · rw [dec_step (by omega), List.length_append]
      have := ih (n / 10) (by rw [Nat.pow_succ] at h; omega)
      simp only [List.length_cons, List.length_nil]
      omega
theorem dec_pos (n : Nat) : 1 ≤ (Lib.decDigits n).length := by
  by_cases h10 : n < 10
  · rw [Lib.decDigits_one h10]; simp
  · rw [dec_step (by omega)]; simp
theorem pad_dec {k : Nat} : ∀ n, n < 10 ^ (k + 1) → List.replicate (k + 1 - (Lib.decDigits n).length) 48 ++ Lib.decDigits n = padL (k + 1) n := by
  induction k with
  | zero =>
    intro n h
    rw [Lib.decDigits_one (by omega), padL, padL]
    simp [show n % 10 = n by omega]
  | succ k ih =>
    intro n h
    by_cases h10 : n < 10
    · rw [Lib.decDigits_one h10, padL, show n / 10 = 0 by omega, padL_zero]
      simp [show n % 10 = n by omega]
    · have h1 : n / 10 < 10 ^ (k + 1) := by rw [Nat.pow_succ] at h; omega
      rw [dec_step (by omega), padL, ← ih (n / 10) h1]
      simp [List.append_assoc]

theorem byte_of {x : Nat} (h : x < 256) : (UInt8.ofNat x).toNat = x := by rw [UInt8.toNat_ofNat']; omega
theorem padL_inj : ∀ (k : Nat) {a b : Nat}, a < 10 ^ k → b < 10 ^ k → padL k a = padL k b → a = b
  | 0, a, b, ha, hb, _ => by simp at ha hb; omega
  | k + 1, a, b, ha, hb, h => by
    rw [padL, padL] at h
    obtain ⟨h1, h2⟩ := List.append_inj' h (by simp)
    have h3 := padL_inj k (a := a / 10) (b := b / 10) (by rw [Nat.pow_succ] at ha; omega) (by rw [Nat.pow_succ] at hb; omega) h1
    have h4 : (UInt8.ofNat (48 + a % 10)).toNat = (UInt8.ofNat (48 + b % 10)).toNat := by rw [List.singleton_inj.1 h2]
    rw [byte_of (by omega), byte_of (by omega)] at h4
    omega
theorem less_snoc : ∀ (l m : List UInt8) (x y : UInt8), l.length = m.length → Op.bytesLess (l ++ [x]) (m ++ [y]) = (Op.bytesLess l m || (l == m && decide (x < y)))
  | [], [], x, y, _ => by simp [Op.bytesLess]
  | a :: l, b :: m, x, y, h => by
    have := less_snoc l m x y (by simpa using h)
    simp only [List.cons_append, Op.bytesLess, this]
    by_cases h1 : a < b
    · simp [h1]
    · by_cases h2 : a = b
      · subst h2; simp
      · have h3 : (a == b) = false := by simp [h2]
        simp [h1, h3]
theorem padL_less : ∀ (k : Nat) {a b : Nat}, a < 10 ^ k → b < 10 ^ k → Op.bytesLess (padL k a) (padL k b) = decide (a < b)
  | 0, a, b, ha, hb => by simp at ha hb; subst ha hb; rfl
  | k + 1, a, b, ha, hb => by
    have ha' : a / 10 < 10 ^ k := by rw [Nat.pow_succ] at ha; omega
    have hb' : b / 10 < 10 ^ k := by rw [Nat.pow_succ] at hb; omega
    rw [padL, padL, less_snoc _ _ _ _ (by rw [padL_length, padL_length]), padL_less k ha' hb']
    have h1 : (padL k (a / 10) == padL k (b / 10)) = decide (a / 10 = b / 10) := by
      by_cases h : a / 10 = b / 10
      · simp [h]
      · have : padL k (a / 10) ≠ padL k (b / 10) := fun e => h (padL_inj k ha' hb' e)
        simp [h, this]
    have h2 : (UInt8.ofNat (48 + a % 10) < UInt8.ofNat (48 + b % 10)) ↔ a % 10 < b % 10 := by
      rw [UInt8.lt_iff_toNat_lt, byte_of (by omega), byte_of (by omega)]
      omega
    rw [h1, decide_eq_decide.2 h2, ← Bool.decide_and, ← Bool.decide_or]
    apply decide_eq_decide.2
    omega

/-- A name's kind, as it is written. -/
def kindB (k : Nat) : UInt8 := if k < 97 ∨ 122 < k then 120 else UInt8.ofNat k
/-- A name's number, as it is written. -/
def numB (n : Int) : Nat := (min (max n 0) 999999).toNat
def nameL (k : Nat) (n : Int) : List UInt8 := [kindB k] ++ padL 6 (numB n)
theorem numB_lt (n : Int) : numB n < 10 ^ 6 := by unfold numB; omega
theorem nameL_length (k : Nat) (n : Int) : (nameL k n).length = 7 := by simp [nameL, padL_length]
end Go.Proofs.YtcjbgchhalilnaaGreatDoor
