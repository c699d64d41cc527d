/- Plain arithmetic of the varint layer: turning there and back, the number of bytes. No program is in sight here. -/
import Derived.Lib.Zigzag
import Derived.Lib.VarintBits
import Derived.IntWalk
import Derived.Laws.Bits64b
import Derived.Laws.Wrap64
namespace Go.Proofs.YtcjbgchhalilnaaGreatDoor
open Go Go.RowKit

/-- A number of 64 bits. Behind a name, so that the walk meets no long numeral. -/
def U64 (n : Nat) : Prop := n < 18446744073709551616
theorem U64.div {n : Nat} (h : U64 n) (k : Nat) : U64 (n / k) := Nat.lt_of_le_of_lt (Nat.div_le_self _ _) h

def I64 (n : Int) : Prop := -9223372036854775808 ≤ n ∧ n ≤ 9223372036854775807
theorem I64.zigzag {n : Int} (h : I64 n) : U64 (Lib.zigzag n) := Lib.zigzag_lt h.1 h.2

theorem bits_xor_u64_zero (a : Int) (h0 : 0 ≤ a) (h1 : a < 18446744073709551616) : bits .xor .u64 a 0 = a := by
  obtain ⟨n, rfl⟩ := Int.eq_ofNat_of_zero_le h0
  have h := bits_xor_u64_nat n 0 (by omega) (by omega)
  simpa using h

theorem bits_xor_u64_ones (a : Int) (h0 : 0 ≤ a) (h1 : a < 18446744073709551616) : bits .xor .u64 a 18446744073709551615 = 18446744073709551615 - a := by
  obtain ⟨n, rfl⟩ := Int.eq_ofNat_of_zero_le h0
  have h := bits_xor_u64_nat n (2 ^ 64 - 1) (by omega) (by decide)
  rw [Nat.xor_comm, Lib.xor_ones64 n (by omega)] at h
  have e : ((2 ^ 64 - 1 : Nat) : Int) = 18446744073709551615 := by decide
  rw [e] at h
  rw [h]
  omega

/-- Go's own way of turning: 'uint64(n<<1) ^ uint64(n>>63)'. -/
theorem zig_bits (n : Int) (h0 : -9223372036854775808 ≤ n) (h1 : n ≤ 9223372036854775807) :
    bits .xor .u64 (IntKind.u64.wrap (wrap64 (n * 2))) (IntKind.u64.wrap (n / 9223372036854775808)) = ((Lib.zigzag n : Nat) : Int) := by
  have e1 : IntKind.u64.wrap (wrap64 (n * 2)) = (n * 2) % 18446744073709551616 := by
    rw [IntKind.wrap_u64]
    unfold wrap64
    omega
  rw [e1, IntKind.wrap_u64]
  by_cases h : 0 ≤ n
  · have e2 : n / 9223372036854775808 % 18446744073709551616 = 0 := by omega
    rw [e2, bits_xor_u64_zero _ (by omega) (by omega), Lib.zigzag, if_pos h]
    omega
  · have e2 : n / 9223372036854775808 % 18446744073709551616 = 18446744073709551615 := by omega
    rw [e2, bits_xor_u64_ones _ (by omega) (by omega), Lib.zigzag, if_neg h]
    omega

/-- The number that turned is u. -/
def zag (u : Nat) : Int := if u % 2 = 0 then ((u / 2 : Nat) : Int) else -((u / 2 : Nat) : Int) - 1

theorem zag_range {u : Nat} (h : u < 18446744073709551616) : -9223372036854775808 ≤ zag u ∧ zag u ≤ 9223372036854775807 := by
  unfold zag
  split <;> omega

theorem zag_zigzag (n : Int) : zag (Lib.zigzag n) = n := by
  unfold zag Lib.zigzag
  split <;> split <;> omega

theorem zigzag_zag (u : Nat) : Lib.zigzag (zag u) = u := by
  unfold zag Lib.zigzag
  split <;> split <;> omega

theorem zag_bits (u : Nat) (h : u < 18446744073709551616) :
    bits .xor .i64 (((u / 2 : Nat) : Int)) (-(((u % 2 : Nat) : Int))) = zag u := by
  unfold zag
  have hu : u / 2 < 9223372036854775808 := by omega
  rcases Nat.mod_two_eq_zero_or_one u with e | e
  · rw [e, if_pos rfl]
    show IntKind.i64.wrap ((BitVec.ofInt 64 ((u / 2 : Nat) : Int) ^^^ BitVec.ofInt 64 (-((0 : Nat) : Int))).toNat : Int) = _
    have h2 : (BitVec.ofInt 64 ((u / 2 : Nat) : Int)).toNat = u / 2 := by
      rw [BitVec.ofInt_natCast, BitVec.toNat_ofNat]; exact Nat.mod_eq_of_lt (by omega)
    have h3 : (BitVec.ofInt 64 (-((0 : Nat) : Int))).toNat = 0 := by decide
    rw [BitVec.toNat_xor, h2, h3, IntKind.wrap_i64, Nat.xor_zero]
    omega
  · rw [e, if_neg (by decide)]
    have := Lib.i64_not (u / 2) hu
    rw [← this]
    show IntKind.i64.wrap ((BitVec.ofInt 64 ((u / 2 : Nat) : Int) ^^^ BitVec.ofInt 64 (-((1 : Nat) : Int))).toNat : Int) = IntKind.i64.wrap ((BitVec.ofInt 64 (-1) ^^^ BitVec.ofInt 64 ((u / 2 : Nat) : Int)).toNat : Int)
    rw [BitVec.xor_comm]
    rfl

/-- Go's own way of turning back. -/
theorem zag_walk (u : Nat) (h : U64 u) :
    bits .xor .i64 ((u : Int) / 2) (wrap64 (-wrap64 (bits .and .u64 (u : Int) 1))) = zag u := by
  have h' : u < 18446744073709551616 := h
  rw [Lib.u64_and1 (u : Int) (by omega) (by omega)]
  have e : wrap64 (-wrap64 ((u : Int) % 2)) = -(((u % 2 : Nat) : Int)) := by unfold wrap64; omega
  have e2 : (u : Int) / 2 = ((u / 2 : Nat) : Int) := by omega
  rw [e, e2]
  exact zag_bits u h

/-- How many bytes a number takes. -/
def ulen (u : Nat) : Nat := (Lib.uvarint u).length
theorem ulen_le {u : Nat} (h : U64 u) : ulen u ≤ 10 := Lib.uvarint_length64 h
theorem ulen_pos (u : Nat) : 1 ≤ ulen u := Lib.uvarint_pos u
theorem ulen_big {x : Nat} (h : 128 ≤ x) : ulen x = ulen (x / 128) + 1 := by
  unfold ulen
  rw [Lib.uvarint_big h, List.length_cons]
theorem ulen_small {x : Nat} (h : x < 128) : ulen x = 1 := by
  unfold ulen
  rw [Lib.uvarint_small h]; rfl
theorem byte_more (y : Nat) : bits .or .u8 ((y : Int) % 256) 128 = (((y % 128 + 128).toUInt8.toNat : Nat) : Int) := by
  rw [Lib.u8_or128_any _ (by omega) (by omega)]
  have e : (y % 128 + 128).toUInt8.toNat = y % 128 + 128 := by
    rw [Nat.toUInt8, UInt8.toNat_ofNat']
    omega
  rw [e]
  omega
theorem byte_rem (y : Nat) : (y : Int) % 128 + 128 = (((y % 128 + 128).toUInt8.toNat : Nat) : Int) := by
  have e : (y % 128 + 128).toUInt8.toNat = y % 128 + 128 := by
    rw [Nat.toUInt8, UInt8.toNat_ofNat']
    omega
  rw [e]
  omega
theorem byte_last {y : Nat} (h : y < 128) : (y : Int) = ((y.toUInt8.toNat : Nat) : Int) := by
  have e : y.toUInt8.toNat = y := by
    rw [Nat.toUInt8, UInt8.toNat_ofNat']
    omega
  rw [e]
theorem uvarint_more {y : Nat} (h : 128 ≤ y) (pre l : List UInt8) (hp : pre ++ Lib.uvarint y = l) : (pre ++ [(y % 128 + 128).toUInt8]) ++ Lib.uvarint (y / 128) = l := by
  rw [Lib.uvarint_big h] at hp
  rw [List.append_assoc]
  exact hp
theorem uvarint_last {y : Nat} (h : y < 128) (pre l : List UInt8) (hp : pre ++ Lib.uvarint y = l) : pre ++ [y.toUInt8] = l := by
  rw [Lib.uvarint_small h] at hp
  exact hp
theorem uvarint_pre {u y : Nat} (hu : U64 u) {pre : List UInt8} (hp : pre ++ Lib.uvarint y = Lib.uvarint u) : pre.length ≤ 9 := by
  have h1 := ulen_le hu
  have h2 := ulen_pos y
  unfold ulen at h1 h2
  rw [← hp, List.length_append] at h1
  omega

/-! ### What 'take' tells of any bytes -/

/-- One byte more: the low seven bits of c, at their place. -/
def takeAcc (acc n : Nat) (c : UInt8) : Nat := acc + c.toNat % 128 * 2 ^ (7 * n) % 18446744073709551616

/-- The number, how many bytes, the error: n bytes have been gone through, their number is acc. -/
def takeF (n acc : Nat) : List UInt8 → Nat × Nat × Nat
  | [] => if n = 10 then (0, 0, 11) else (0, 0, 10)
  | c :: r => if n = 10 then (0, 0, 11) else
      if c.toNat < 128 then (if n = 9 ∧ 1 < c.toNat ∨ 1 ≤ n ∧ c.toNat = 0 then (0, 0, 11) else (takeAcc acc n c, n + 1, 0))
      else takeF (n + 1) (takeAcc acc n c) r

theorem takeF_end (n acc : Nat) (h : n ≠ 10) : takeF n acc [] = (0, 0, 10) := by simp [takeF, h]
theorem takeF_ten (acc : Nat) (l : List UInt8) : takeF 10 acc l = (0, 0, 11) := by cases l <;> simp [takeF]
theorem takeF_more {n acc : Nat} {c : UInt8} {r : List UInt8} (h : n ≠ 10) (hc : ¬ c.toNat < 128) : takeF n acc (c :: r) = takeF (n + 1) (takeAcc acc n c) r := by simp [takeF, h, hc]
theorem takeF_bad {n acc : Nat} {c : UInt8} {r : List UInt8} (h : n ≠ 10) (hc : c.toNat < 128) (hb : n = 9 ∧ 1 < c.toNat ∨ 1 ≤ n ∧ c.toNat = 0) : takeF n acc (c :: r) = (0, 0, 11) := by simp [takeF, h, hc, hb]
theorem takeF_good {n acc : Nat} {c : UInt8} {r : List UInt8} (h : n ≠ 10) (hc : c.toNat < 128) (hb : ¬ (n = 9 ∧ 1 < c.toNat ∨ 1 ≤ n ∧ c.toNat = 0)) : takeF n acc (c :: r) = (takeAcc acc n c, n + 1, 0) := by
  simp only [takeF, if_neg h, if_pos hc, if_neg hb]

theorem pow7 {n : Nat} (h : n ≤ 9) : 2 ^ (7 * n) * 2 ^ (64 - 7 * n) = 18446744073709551616 := by
  rw [← Nat.pow_add, show 7 * n + (64 - 7 * n) = 64 by omega]
theorem takeAcc_lt {acc n : Nat} {c : UInt8} (hn : n ≤ 9) (h : acc < 2 ^ (7 * n)) : U64 (takeAcc acc n c) ∧ (n ≤ 8 → takeAcc acc n c < 2 ^ (7 * (n + 1))) := by
  have hp := pow7 hn
  have hm : c.toNat % 128 * 2 ^ (7 * n) % 18446744073709551616 = c.toNat % 128 % 2 ^ (64 - 7 * n) * 2 ^ (7 * n) := by
    rw [← hp, Nat.mul_comm (2 ^ (7 * n)), Nat.mul_mod_mul_right]
  constructor
  · unfold U64 takeAcc
    rw [hm]
    have h1 : c.toNat % 128 % 2 ^ (64 - 7 * n) < 2 ^ (64 - 7 * n) := Nat.mod_lt _ (Nat.pow_pos (by decide))
    have h2 := Nat.mul_le_mul_right (2 ^ (7 * n)) h1
    rw [Nat.succ_mul, Nat.mul_comm (2 ^ (64 - 7 * n)), hp] at h2
    omega
  · intro h8
    unfold takeAcc
    have h1 : c.toNat % 128 * 2 ^ (7 * n) % 18446744073709551616 ≤ c.toNat % 128 * 2 ^ (7 * n) := Nat.mod_le _ _
    have h2 : c.toNat % 128 * 2 ^ (7 * n) ≤ 127 * 2 ^ (7 * n) := Nat.mul_le_mul_right _ (by omega)
    have h3 : 2 ^ (7 * (n + 1)) = 2 ^ (7 * n) * 128 := by rw [Nat.mul_add, Nat.pow_add]
    omega

theorem take_bits {acc n : Nat} {c : UInt8} (hn : n ≤ 9) (h : acc < 2 ^ (7 * n)) :
    bits .or .u64 (acc : Int) (IntKind.u64.wrap (IntKind.u64.wrap (bits .and .u8 (c.toNat : Int) 127) * 2 ^ (7 * n))) = ((takeAcc acc n c : Nat) : Int) := by
  have hc : c.toNat < 256 := c.toNat_lt
  have hp := pow7 hn
  have hm : c.toNat % 128 * 2 ^ (7 * n) % 18446744073709551616 = c.toNat % 128 % 2 ^ (64 - 7 * n) * 2 ^ (7 * n) := by
    rw [← hp, Nat.mul_comm (2 ^ (7 * n)), Nat.mul_mod_mul_right]
  have hacc : acc < 18446744073709551616 := by
    have : 2 ^ (7 * n) ≤ 2 ^ 64 := Nat.pow_le_pow_right (by decide) (by omega)
    exact Nat.lt_of_lt_of_le h this
  rw [u8_and127 _ (by omega) (by omega), IntKind.wrap_u64, IntKind.wrap_u64]
  have e1 : ((c.toNat : Int) % 128 % 18446744073709551616 * 2 ^ (7 * n)) % 18446744073709551616 = ((c.toNat % 128 * 2 ^ (7 * n) % 18446744073709551616 : Nat) : Int) := by
    have : (c.toNat : Int) % 128 % 18446744073709551616 = ((c.toNat % 128 : Nat) : Int) := by omega
    rw [this]
    have e2 : (2 : Int) ^ (7 * n) = ((2 ^ (7 * n) : Nat) : Int) := by simp
    rw [e2, ← Int.natCast_mul]
    omega
  rw [e1, bits_or_u64_nat _ _ hacc (Nat.mod_lt _ (by decide)), hm, Nat.or_comm, Nat.mul_comm, ← Nat.two_pow_add_eq_or_of_lt h]
  unfold takeAcc
  rw [hm, Nat.mul_comm (2 ^ (7 * n))]
  omega

/-- What takeF's three results are: an error and zeros; or a number of 64 bits, and of how many bytes. -/
theorem takeF_spec (l : List UInt8) : ∀ (n acc : Nat), n ≤ 10 → (n ≤ 9 → acc < 2 ^ (7 * n)) →
    (takeF n acc l = (0, 0, 10) ∨ takeF n acc l = (0, 0, 11) ∨ ∃ u k, takeF n acc l = (u, k, 0) ∧ U64 u ∧ n < k ∧ k ≤ 10 ∧ k ≤ n + l.length) := by
  induction l with
  | nil =>
    intro n acc hn _
    by_cases h : n = 10
    · subst h; exact .inr (.inl (takeF_ten _ _))
    · exact .inl (takeF_end _ _ h)
  | cons c r ih =>
    intro n acc hn hacc
    by_cases h : n = 10
    · subst h; exact .inr (.inl (takeF_ten _ _))
    · have hl := takeAcc_lt (c := c) (show n ≤ 9 by omega) (hacc (by omega))
      by_cases hc : c.toNat < 128
      · by_cases hb : n = 9 ∧ 1 < c.toNat ∨ 1 ≤ n ∧ c.toNat = 0
        · exact .inr (.inl (takeF_bad h hc hb))
        · exact .inr (.inr ⟨_, _, takeF_good h hc hb, hl.1, by omega, by omega, by simp⟩)
      · rw [takeF_more h hc]
        rcases ih (n + 1) (takeAcc acc n c) (by omega) (fun h8 => hl.2 (by omega)) with h1 | h1 | ⟨u, k, h1, h2, h3, h4, h5⟩
        · exact .inl h1
        · exact .inr (.inl h1)
        · exact .inr (.inr ⟨u, k, h1, h2, by omega, h4, by simp; omega⟩)
theorem take_spec (l : List UInt8) :
    takeF 0 0 l = (0, 0, 10) ∨ takeF 0 0 l = (0, 0, 11) ∨ ∃ u k, takeF 0 0 l = (u, k, 0) ∧ U64 u ∧ 1 ≤ k ∧ k ≤ 10 ∧ k ≤ l.length := by
  have := takeF_spec l 0 0 (by omega) (by simp)
  simp only [Nat.zero_add] at this
  exact this

/-- Of a number's own bytes, whatever lies behind. -/
theorem takeF_uvarint (rest : List UInt8) : ∀ (m n acc y : Nat), y ≤ m → n ≤ 9 → acc < 2 ^ (7 * n) → y * 2 ^ (7 * n) < 18446744073709551616 → (1 ≤ n → 1 ≤ y) →
    takeF n acc (Lib.uvarint y ++ rest) = (acc + y * 2 ^ (7 * n), n + (Lib.uvarint y).length, 0) := by
  intro m
  induction m with
  | zero =>
    intro n acc y hy hn hacc hlt h1
    have hy0 : y = 0 := by omega
    subst hy0
    rw [Lib.uvarint_small (by decide)]
    rw [List.singleton_append, takeF_good (by omega) (by decide) (by have : Nat.toUInt8 0 = 0 := rfl; rw [this]; simp; omega)]
    simp [takeAcc]
  | succ m ih =>
    intro n acc y hy hn hacc hlt h1
    by_cases hb : y < 128
    · rw [Lib.uvarint_small hb]
      have e : y.toUInt8.toNat = y := by rw [Nat.toUInt8, UInt8.toNat_ofNat']; omega
      have h9 : n = 9 → y ≤ 1 := by
        rintro rfl
        have : y * 9223372036854775808 < 18446744073709551616 := hlt
        omega
      rw [List.singleton_append, takeF_good (by omega) (by rw [e]; exact hb) (by rw [e]; omega)]
      simp only [takeAcc, e, List.length_singleton]
      rw [Nat.mod_eq_of_lt hb, Nat.mod_eq_of_lt hlt]
    · have h128 : 128 ≤ y := by omega
      have e : (y % 128 + 128).toUInt8.toNat = y % 128 + 128 := by rw [Nat.toUInt8, UInt8.toNat_ofNat']; omega
      have hn8 : n ≤ 8 := by
        refine Nat.le_of_not_lt fun h => ?_
        have hn9 : n = 9 := by omega
        subst hn9
        have : y * 9223372036854775808 < 18446744073709551616 := hlt
        omega
      have hp : 2 ^ (7 * (n + 1)) = 2 ^ (7 * n) * 128 := by rw [Nat.mul_add, Nat.pow_add]
      have hq : 0 < 2 ^ (7 * n) := Nat.pow_pos (by decide)
      have hacc2 : takeAcc acc n (y % 128 + 128).toUInt8 = acc + y % 128 * 2 ^ (7 * n) := by
        unfold takeAcc
        rw [e]
        have e3 : (y % 128 + 128) % 128 = y % 128 := by omega
        rw [e3, Nat.mod_eq_of_lt (Nat.lt_of_le_of_lt (Nat.mul_le_mul_right _ (Nat.mod_le _ _)) hlt)]
      have hdiv : y / 128 * 2 ^ (7 * (n + 1)) + y % 128 * 2 ^ (7 * n) = y * 2 ^ (7 * n) := by
        rw [hp, Nat.mul_comm (2 ^ (7 * n)) 128, ← Nat.mul_assoc, ← Nat.add_mul]
        congr 1
        omega
      rw [Lib.uvarint_big h128, List.cons_append, takeF_more (by omega) (by rw [e]; omega), hacc2]
      have hmm : y % 128 * 2 ^ (7 * n) ≤ 127 * 2 ^ (7 * n) := Nat.mul_le_mul_right _ (by omega)
      rw [ih (n + 1) _ (y / 128) (by omega) (by omega) (by rw [hp]; omega) (by omega) (by omega)]
      simp only [List.length_cons]
      refine Prod.ext ?_ (Prod.ext ?_ rfl)
      · simp only; omega
      · simp only; omega
theorem take_uvarint {u : Nat} (hu : U64 u) (rest : List UInt8) : takeF 0 0 (Lib.uvarint u ++ rest) = (u, (Lib.uvarint u).length, 0) := by
  have := takeF_uvarint rest u 0 0 u (Nat.le_refl _) (by omega) (by simp) (by simpa [U64] using hu) (by omega)
  simpa using this

/-- Of a number's bytes without the last of them: they end too early. -/
theorem takeF_cut : ∀ (m n acc y : Nat), y ≤ m → n + (Lib.uvarint y).length ≤ 10 → takeF n acc (Lib.uvarint y).dropLast = (0, 0, 10) := by
  intro m
  induction m with
  | zero =>
    intro n acc y hy hn
    have hy0 : y = 0 := by omega
    subst hy0
    rw [Lib.uvarint_small (by decide)] at hn ⊢
    exact takeF_end _ _ (by simp at hn; omega)
  | succ m ih =>
    intro n acc y hy hn
    by_cases hb : y < 128
    · rw [Lib.uvarint_small hb] at hn ⊢
      exact takeF_end _ _ (by simp at hn; omega)
    · have h128 : 128 ≤ y := by omega
      have e : (y % 128 + 128).toUInt8.toNat = y % 128 + 128 := by rw [Nat.toUInt8, UInt8.toNat_ofNat']; omega
      have hne : Lib.uvarint (y / 128) ≠ [] := List.ne_nil_of_length_pos (Lib.uvarint_pos _)
      rw [Lib.uvarint_big h128] at hn ⊢
      rw [List.length_cons] at hn
      rw [List.dropLast_cons_of_ne_nil hne, takeF_more (by have := Lib.uvarint_pos (y / 128); omega) (by rw [e]; omega)]
      exact ih _ _ _ (by omega) (by omega)
theorem take_cut {u : Nat} (hu : U64 u) : takeF 0 0 (Lib.uvarint u).dropLast = (0, 0, 10) := takeF_cut u 0 0 u (Nat.le_refl _) (by have := ulen_le hu; unfold ulen at this; omega)

end Go.Proofs.YtcjbgchhalilnaaGreatDoor
