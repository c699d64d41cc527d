/- VarintSizes: the walk of the law. -/
import Derived.Test.YtmdojdpokghihaaVf
import Derived.Test.YtmdojdpokghihaaVg
namespace Go.Proofs.Ytmdojdpokghihaa
open Go Go.RowKit

theorem ulen_mono : ∀ (m a b : Nat), a ≤ m → a ≤ b → ulen a ≤ ulen b := by
  intro m
  induction m with
  | zero =>
    intro a b h _
    rw [ulen_small (x := a) (by omega)]
    exact ulen_pos b
  | succ m ih =>
    intro a b h hab
    by_cases ha : a < 128
    · rw [ulen_small ha]
      exact ulen_pos b
    · rw [ulen_big (x := a) (by omega), ulen_big (x := b) (by omega)]
      have := ih (a / 128) (b / 128) (by omega) (Nat.div_le_div_right hab)
      omega
theorem ulen_pow (k : Nat) : ulen (2 ^ k) = k / 7 + 1 := by
  induction k using Nat.strongRecOn with
  | ind k ih =>
    by_cases h : k < 7
    · rw [ulen_small]
      · omega
      · calc 2 ^ k ≤ 2 ^ 6 := Nat.pow_le_pow_right (by decide) (by omega)
          _ < 128 := by decide
    · have e : 2 ^ k = 2 ^ (k - 7) * 128 := by
        rw [show (128 : Nat) = 2 ^ 7 from rfl, ← Nat.pow_add]
        congr 1
        omega
      have hp : 1 ≤ 2 ^ (k - 7) := Nat.pow_pos (by decide)
      rw [ulen_big (by omega), e, Nat.mul_div_cancel _ (by decide), ih (k - 7) (by omega)]
      omega
theorem ulen_one {a : Nat} : 1 < ulen a ↔ 127 < a := by
  by_cases h : a < 128
  · rw [ulen_small h]; omega
  · rw [ulen_big (by omega)]
    have := ulen_pos (a / 128)
    omega

theorem size_pow (bit : Int) (w : World) (h0 : 0 ≤ bit) :
    Calls Try.prog 15 #[.int .u64 (IntKind.u64.wrap (2 ^ (bit % 64).toNat))] w fun e w' => e = .returned (.int .i64 (bit % 64 / 7 + 1)) ∧ w = w' := by
  have hk : (bit % 64).toNat < 64 := by omega
  have hu : U64 (2 ^ (bit % 64).toNat) := by
    unfold U64
    calc 2 ^ (bit % 64).toNat ≤ 2 ^ 63 := Nat.pow_le_pow_right (by decide) (by omega)
      _ < 18446744073709551616 := by decide
  have e1 : IntKind.u64.wrap (2 ^ (bit % 64).toNat) = ((2 ^ (bit % 64).toNat : Nat) : Int) := by
    have hu' : 2 ^ (bit % 64).toNat < 18446744073709551616 := hu
    have e2 : (2 : Int) ^ (bit % 64).toNat = ((2 ^ (bit % 64).toNat : Nat) : Int) := by simp
    rw [IntKind.wrap_u64, e2]
    generalize (2 : Nat) ^ (bit % 64).toNat = m at hu'
    omega
  have h := size_any _ w hu
  rw [← e1, ulen_pow] at h
  have e3 : (((bit % 64).toNat / 7 + 1 : Nat) : Int) = bit % 64 / 7 + 1 := by omega
  rw [e3] at h
  exact h

theorem put_nil (u : Nat) (w : World) (hu : U64 u) : Calls Try.prog 11 #[.slice none 0 0, .int .u64 (u : Int)] w fun e w' => ∃ ad cap, e = .returned (.slice ad (ulen u) cap) ∧ Below w.heap.size w w' := by
  refine (Put_any (.slice none 0 0) [] u w hu (by simp) (Reads.nil _ _)).mono ?_
  rintro e w1 ⟨v1, rfl, hown1, hb1⟩
  obtain ⟨a1, c1, rfl⟩ := owns_slice hown1
  exact ⟨a1, c1, by rw [List.nil_append]; rfl, hb1⟩

set_option maxRecDepth 100000 in
set_option maxHeartbeats 1000000 in
theorem sizes_walk (a b : Nat) (bit : Int) (w : World) (ha : U64 a) (hb : U64 b) (h0 : 0 ≤ bit) (h1 : bit ≤ 255) :
    Calls Try.prog 5 #[.int .u64 (a : Int), .int .u64 (b : Int), .int .u8 bit] w (TrueEnd w) := by
  have hA1 := ulen_pos a
  have hA2 := ulen_le ha
  have hc1 : b < a ∨ (a ≤ b ∧ ulen a ≤ ulen b) := by
    rcases Nat.lt_or_ge b a with h | h
    · exact .inl h
    · exact .inr ⟨h, ulen_mono a a b (Nat.le_refl _) h⟩
  have hc2 : (127 < a ∧ 1 < ulen a) ∨ (a ≤ 127 ∧ ulen a ≤ 1) := by
    have := @ulen_one a
    omega
  rcases hc1 with h2 | ⟨h2, h3⟩ <;> rcases hc2 with ⟨h4, h5⟩ | ⟨h4, h5⟩
  all_goals
    go_enter Try.func5, Try.ntmps5
    go_wp2_with fail
    refine (awake_any w).mono ?_
    rintro e w1 ⟨rfl, hb1⟩
    go_wp2_with fail
    refine (size_any a w1 ha).mono ?_
    rintro e w2 ⟨rfl, rfl⟩
    go_wp2_with fail
    refine (size_any b w1 hb).mono ?_
    rintro e w2 ⟨rfl, rfl⟩
    go_wp2_with fail
    refine (size_pow bit w1 h0).mono ?_
    rintro e w2 ⟨rfl, rfl⟩
    go_wp2_with fail
    refine (put_nil a w1 ha).mono ?_
    rintro e w2 ⟨a2, c2, rfl, hb2⟩
    go_wp2_with fail
    go_ret
    first | exact ⟨rfl, hb1.trans (hb2.mono hb1.size)⟩ | exact ⟨by simp; omega, hb1.trans (hb2.mono hb1.size)⟩

end Go.Proofs.Ytmdojdpokghihaa
