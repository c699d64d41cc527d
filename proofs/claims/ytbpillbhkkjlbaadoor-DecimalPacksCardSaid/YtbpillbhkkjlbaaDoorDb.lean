/- Whether a number has a mantissa by an exponent: the walk of decimal.fits. -/
import Derived.Test.YtbpillbhkkjlbaaDoorDa
import Derived.BigQuiet
namespace Go.Proofs.YtbpillbhkkjlbaaDoor
open Go Go.RowKit

/-- The table of the powers of ten lies in its place. -/
def Tens (w : World) : Prop := 0 < w.heap.size ∧ ∀ i : Nat, i < 19 → w.cell? ⟨0, i, none⟩ = some (.int .i64 ((10 ^ i : Nat) : Int))
theorem Tens.below {w w' : World} {B : Nat} (h : Tens w) (hb : Below B w w') (hB : w.heap.size ≤ B) : Tens w' :=
  ⟨Nat.lt_of_lt_of_le h.1 hb.size, fun i hi => (hb.cell (p := ⟨0, i, none⟩) (by have := h.1; show 0 < B; omega)).trans (h.2 i hi)⟩

def FitsV (a : V3) (e : Int) : Prop := e ≤ a.e ∧ a.e - e ≤ 18 ∧ sizeI a.m * ((10 ^ (a.e - e).toNat : Nat) : Int) < 1000000000000000000

theorem ten_split {d : Nat} (h : d ≤ 18) : ∃ p q : Nat, 10 ^ d = p ∧ p * q = 1000000000000000000 ∧ 1 ≤ p ∧ 1 ≤ q ∧ p ≤ 1000000000000000000 ∧ q ≤ 1000000000000000000 := by
  refine ⟨10 ^ d, 10 ^ (18 - d), rfl, ?_, Nat.one_le_pow _ _ (by decide), Nat.one_le_pow _ _ (by decide), ?_, ?_⟩
  · rw [← Nat.pow_add, show d + (18 - d) = 18 by omega]
  · exact Nat.le_trans (Nat.pow_le_pow_right (by decide) h) (by decide)
  · exact Nat.le_trans (Nat.pow_le_pow_right (by decide) (show 18 - d ≤ 18 by omega)) (by decide)

set_option maxRecDepth 100000 in
theorem fits_any (a : V3) (e : Int) (w : World) (hT : Tens w) (hm : -1000000000000000 < a.m ∧ a.m < 1000000000000000) (he : -300 ≤ a.e ∧ a.e ≤ 290) (he2 : -300 ≤ e ∧ e ≤ 290) :
    Calls Tryd.prog 19 #[vv a, .int .i64 e] w (BoolEnd (FitsV a e) w) := by
  obtain ⟨m, f, s⟩ := a
  simp only at hm he
  unfold vv
  obtain ⟨x, hx⟩ : ∃ x, f - e = x := ⟨_, rfl⟩
  have HX := Lib.hid hx
  by_cases h1 : x < 0
  · go_enter Tryd.func19, Tryd.ntmps19
    have hz : decide (0 ≤ x) = false := decide_eq_false (by omega)
    go_wp2_with fail
    clear hx
    go_quiet (fail)
    go_wp2_with fail
    go_ret
    exact ⟨_, rfl, by have := HX.out; simp only [Told, FitsV, Bool.false_eq_true, false_iff]; omega, Below.drewN ((Below.refl _ _).alloc (Nat.le_refl _) _) _⟩
  by_cases h2 : 18 < x
  · go_enter Tryd.func19, Tryd.ntmps19
    have hz : decide (x ≤ 18) = false := decide_eq_false (by omega)
    go_wp2_with fail
    clear hx
    go_quiet (fail)
    go_wp2_with fail
    go_ret
    exact ⟨_, rfl, by have := HX.out; simp only [Told, FitsV, Bool.false_eq_true, false_iff]; omega, Below.drewN ((Below.refl _ _).alloc (Nat.le_refl _) _) _⟩
  obtain ⟨d, rfl⟩ : ∃ d : Nat, x = (d : Int) := ⟨x.toNat, by omega⟩
  have hd18 : d ≤ 18 := by omega
  obtain ⟨p, q, hp, hpq, hp1, hq1, hp2, hq2⟩ := ten_split hd18
  have hc := hT.2 d (by omega)
  have hc18 : w.cell? ⟨0, 18, none⟩ = some (.int .i64 1000000000000000000) := hT.2 18 (by omega)
  rw [hp] at hc
  have hquo : Int.tdiv 1000000000000000000 (p : Int) = (q : Int) := by
    rw [Int.tdiv_eq_ediv_of_nonneg (by omega)]
    rw [show (1000000000000000000 : Int) = ((p * q : Nat) : Int) by rw [hpq]; rfl]
    rw [← Int.natCast_ediv, Nat.mul_div_cancel_left _ (by omega)]
  have hrem : Int.tmod 1000000000000000000 (p : Int) = 0 := by
    rw [Int.tmod_eq_emod_of_nonneg (by omega)]
    rw [show (1000000000000000000 : Int) = ((p * q : Nat) : Int) by rw [hpq]; rfl]
    rw [← Int.natCast_emod, Nat.mul_mod_right]
    rfl
  have hp0 : (p : Int) ≠ 0 := by omega
  have hB := hT.1
  have HP := Lib.hid hp
  have HPQ := Lib.hid hpq
  clear hp hpq
  go_enter Tryd.func19, Tryd.ntmps19
  go_wp2_with fail
  clear hx
  have hd0 : (0 : Int) ≤ d := by omega
  go_quiet ((go_at_call 24; refine Calls.quiet_of_same ((size_any m _ (by omega) (by omega)).mono fun _ _ h => ⟨h.1, h.2.symm⟩)))
  go_wp2_with fail
  go_ret
  refine ⟨_, rfl, ?_, Below.drewN ((Below.refl _ _).alloc (Nat.le_refl _) _) _⟩
  simp only [Told, FitsV, decide_eq_true_eq]
  rw [HX.out, Int.toNat_natCast, HP.out, show (1000000000000000000 : Int) = (q : Int) * (p : Int) by
    have h1 : ((p * q : Nat) : Int) = 1000000000000000000 := by rw [HPQ.out]; rfl
    rw [Int.natCast_mul] at h1
    rw [Int.mul_comm]
    exact h1.symm]
  constructor
  · intro h
    exact ⟨by have := HX.out; omega, h2, Int.mul_lt_mul_of_pos_right h (by omega)⟩
  · rintro ⟨_, _, h⟩
    exact Int.lt_of_mul_lt_mul_right h (by omega)
end Go.Proofs.YtbpillbhkkjlbaaDoor
