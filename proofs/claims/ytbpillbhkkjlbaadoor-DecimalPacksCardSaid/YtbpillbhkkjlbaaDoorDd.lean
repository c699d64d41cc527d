/- The least exponent of values, and how many values from the first on have one exponent. -/
import Derived.Test.YtbpillbhkkjlbaaDoorDc
namespace Go.Proofs.YtbpillbhkkjlbaaDoor
open Go Go.RowKit

instance (a : V3) : Decidable (NumV a) := by unfold NumV; exact inferInstance
/-- The least exponent of the numbers, and whether there is one. -/
def stepS (c : Int × Bool) (a : V3) : Int × Bool := if NumV a then (if c.2 then min a.e c.1 else a.e, true) else c
def leastS (l : List V3) : Int × Bool := l.foldl stepS (0, false)
theorem leastS_snoc (l : List V3) (a : V3) : leastS (l ++ [a]) = stepS (leastS l) a := by simp [leastS]

theorem least_facts (l : List V3) : (∀ a ∈ l, NumV a → (leastS l).2 = true ∧ (leastS l).1 ≤ a.e) ∧ ((leastS l).2 = true → ∃ a ∈ l, NumV a ∧ (leastS l).1 = a.e) ∧ ((leastS l).2 = false → (leastS l).1 = 0) := by
  suffices h : ∀ (r l : List V3), l = r.reverse → (∀ a ∈ l, NumV a → (leastS l).2 = true ∧ (leastS l).1 ≤ a.e) ∧ ((leastS l).2 = true → ∃ a ∈ l, NumV a ∧ (leastS l).1 = a.e) ∧ ((leastS l).2 = false → (leastS l).1 = 0) from
    h l.reverse l (by simp)
  intro r
  induction r with
  | nil =>
    rintro l rfl
    exact ⟨fun a ha => (by simp at ha), fun h => (by simp [leastS] at h), fun _ => rfl⟩
  | cons b r ih =>
    rintro l rfl
    obtain ⟨h1, h2, h3⟩ := ih r.reverse rfl
    rw [List.reverse_cons, leastS_snoc]
    generalize leastS r.reverse = c at h1 h2 h3
    obtain ⟨e, s⟩ := c
    by_cases hb : NumV b
    · rw [stepS, if_pos hb]
      cases s with
      | true =>
        rw [if_pos rfl]
        refine ⟨fun a ha hn => ⟨rfl, ?_⟩, fun _ => ?_, fun h => by cases h⟩
        · rcases List.mem_append.1 ha with h | h
          · have := (h1 a h hn).2
            simp only at this ⊢
            omega
          · obtain rfl : a = b := by simpa using h
            simp only
            omega
        · obtain ⟨a, ha, hn, he⟩ := h2 rfl
          by_cases hle : b.e ≤ e
          · exact ⟨b, by simp, hb, by simp only; omega⟩
          · exact ⟨a, by simp at ha ⊢; exact .inl ha, hn, by simp only at he ⊢; omega⟩
      | false =>
        refine ⟨fun a ha hn => ⟨rfl, ?_⟩, fun _ => ⟨b, by simp, hb, rfl⟩, fun h => by cases h⟩
        rcases List.mem_append.1 ha with h | h
        · have := (h1 a h hn).1
          cases this
        · obtain rfl : a = b := by simpa using h
          simp
    · rw [stepS, if_neg hb]
      refine ⟨fun a ha hn => ?_, fun h => ?_, h3⟩
      · rcases List.mem_append.1 ha with h | h
        · exact h1 a h hn
        · obtain rfl : a = b := by simpa using h
          exact absurd hn hb
      · obtain ⟨a, ha, hn, he⟩ := h2 h
        exact ⟨a, by simp at ha ⊢; exact .inl ha, hn, he⟩

/-- The values from the first on, so many, have one exponent. -/
def PackN (l : List V3) (k : Nat) : Prop := ∀ a ∈ l.take k, RightV a ∧ (NumV a → FitsV a (leastS (l.take k)).1)

theorem RightV.num {a : V3} (h : RightV a) (hn : NumV a) : -1000000000000000 < a.m ∧ a.m < 1000000000000000 ∧ -300 ≤ a.e ∧ a.e ≤ 290 := by
  unfold RightV at h
  unfold NumV at hn
  omega

theorem least_range {l : List V3} (h : ∀ a ∈ l, RightV a) : -300 ≤ (leastS l).1 ∧ (leastS l).1 ≤ 290 := by
  obtain ⟨h1, h2, h3⟩ := least_facts l
  cases hs : (leastS l).2 with
  | true =>
    obtain ⟨a, ha, hn, he⟩ := h2 hs
    have := (h a ha).num hn
    omega
  | false => have := h3 hs; omega

theorem FitsV.up {a : V3} {e e' : Int} (h : FitsV a e) (h1 : e ≤ e') (h2 : e' ≤ a.e) : FitsV a e' := by
  obtain ⟨h3, h4, h5⟩ := h
  refine ⟨h2, by omega, Int.lt_of_le_of_lt ?_ h5⟩
  refine Int.mul_le_mul_of_nonneg_left ?_ (by unfold sizeI; split <;> omega)
  have : 10 ^ (a.e - e').toNat ≤ 10 ^ (a.e - e).toNat := Nat.pow_le_pow_right (by decide) (by omega)
  omega

theorem least_mono {l m : List V3} (h : ∀ a ∈ m, a ∈ l) {a : V3} (ha : a ∈ m) (hn : NumV a) : (leastS l).1 ≤ (leastS m).1 ∧ (leastS m).1 ≤ a.e := by
  obtain ⟨h1, h2, h3⟩ := least_facts l
  obtain ⟨k1, k2, k3⟩ := least_facts m
  obtain ⟨hs, hle⟩ := k1 a ha hn
  obtain ⟨b, hb, hbn, hbe⟩ := k2 hs
  have := (h1 b (h b hb) hbn).2
  exact ⟨by omega, hle⟩

theorem pack_sub {l m : List V3} (h : ∀ a ∈ m, a ∈ l) (hp : ∀ a ∈ l, RightV a ∧ (NumV a → FitsV a (leastS l).1)) : ∀ a ∈ m, RightV a ∧ (NumV a → FitsV a (leastS m).1) := by
  intro a ha
  obtain ⟨h1, h2⟩ := hp a (h a ha)
  refine ⟨h1, fun hn => ?_⟩
  obtain ⟨h3, h4⟩ := least_mono h ha hn
  exact (h2 hn).up h3 h4

theorem PackN.mono {l : List V3} {j k : Nat} (h : PackN l k) (hj : j ≤ k) : PackN l j :=
  pack_sub (fun a ha => by
    rw [show l.take j = (l.take k).take j by rw [List.take_take, Nat.min_eq_left hj]] at ha
    exact List.mem_of_mem_take ha) h

/-- How many it is. -/
def PackIs (l : List V3) (k : Nat) : Prop := k ≤ l.length ∧ PackN l k ∧ (k < l.length → ¬ PackN l (k + 1))
theorem PackIs.unique {l : List V3} {j k : Nat} (hj : PackIs l j) (hk : PackIs l k) : j = k := by
  rcases Nat.lt_trichotomy j k with h | h | h
  · exact absurd (hk.2.1.mono (by omega : j + 1 ≤ k)) (hj.2.2 (by have := hk.1; omega))
  · exact h
  · exact absurd (hj.2.1.mono (by omega : k + 1 ≤ j)) (hk.2.2 (by have := hj.1; omega))

/-- The mantissa of a value by an exponent. -/
def mantV (e : Int) (a : V3) : Int := if a.s = 0 then (if a.m = 0 then 0 else a.m * ((10 ^ (a.e - e).toNat : Nat) : Int)) else -9223372036854775808 + a.s
def mantL (l : List V3) : List Int := l.map (mantV (leastS l).1)
theorem mantV_num {a : V3} {e : Int} (hs : a.s = 0) (h : RightV a ∧ (NumV a → FitsV a e)) : -1000000000000000000 < mantV e a ∧ mantV e a < 1000000000000000000 := by
  obtain ⟨h1, h2⟩ := h
  rw [mantV, if_pos hs]
  split
  · omega
  · rename_i hm
    obtain ⟨_, _, h3⟩ := h2 ⟨hs, hm⟩
    have hp : (0 : Int) ≤ ((10 ^ (a.e - e).toNat : Nat) : Int) := Int.natCast_nonneg _
    generalize ((10 ^ (a.e - e).toNat : Nat) : Int) = p at h3 hp
    unfold sizeI at h3
    split at h3
    · have := Int.mul_le_mul_of_nonneg_right (show a.m ≤ 0 by omega) hp
      rw [Int.neg_mul] at h3
      omega
    · have := Int.mul_nonneg (show 0 ≤ a.m by omega) hp
      omega
theorem mantV_kind {a : V3} {e : Int} (hs : a.s ≠ 0) : mantV e a = -9223372036854775808 + a.s := by rw [mantV, if_neg hs]
theorem mantV_i64 {a : V3} {e : Int} (h : RightV a ∧ (NumV a → FitsV a e)) : I64 (mantV e a) := by
  by_cases hs : a.s = 0
  · have := mantV_num hs h
    unfold I64
    omega
  · rw [mantV_kind hs]
    have h1 := h.1
    unfold RightV at h1
    unfold I64
    omega
end Go.Proofs.YtbpillbhkkjlbaaDoor
