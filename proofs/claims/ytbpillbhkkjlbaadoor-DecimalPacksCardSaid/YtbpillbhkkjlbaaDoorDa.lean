/- Values of three numbers; whether one may be: the walks of float.Right and of the reference's. -/
import Derived.Test.YtbpillbhkkjlbaaDoorKa
import Derived.Test.YtbpillbhkkjlbaaDoorProg
namespace Go.Proofs.YtbpillbhkkjlbaaDoor
open Go Go.RowKit

def I64 (n : Int) : Prop := -9223372036854775808 ≤ n ∧ n ≤ 9223372036854775807
/-- A value: mantissa, exponent, kind. -/
structure V3 where
  m : Int
  e : Int
  s : Int
def OkV (a : V3) : Prop := I64 a.m ∧ I64 a.e ∧ I64 a.s
def cellsV (a : V3) : List Value := [.int .i64 a.m, .int .i64 a.e, .int .i64 a.s]
def vv (a : V3) : Value := .agg #[.int .i64 a.m, .int .i64 a.e, .int .i64 a.s]

/-- A value may be. -/
def RightV (a : V3) : Prop :=
  (a.s ≠ 0 ∧ 1 ≤ a.s ∧ a.s ≤ 4 ∧ a.m = 0 ∧ a.e = 0) ∨
  (a.s = 0 ∧ -1000000000000000 < a.m ∧ a.m < 1000000000000000 ∧ ((a.m = 0 ∧ a.e = 0) ∨ (a.m ≠ 0 ∧ a.m % 10 ≠ 0 ∧ -300 ≤ a.e ∧ a.e ≤ 290)))
def Told (t : Bool) (p : Prop) : Prop := t = true ↔ p
def BoolEnd (p : Prop) (w : World) (e : Ending) (w' : World) : Prop := ∃ t : Bool, e = .returned (.bool t) ∧ Told t p ∧ Below w.heap.size w w'

theorem tmod10 (m : Int) : m.tmod 10 = 0 ↔ m % 10 = 0 := by
  rw [← Int.dvd_iff_tmod_eq_zero, Int.dvd_iff_emod_eq_zero]

set_option maxRecDepth 100000 in
theorem Right_any (a : V3) (w : World) (ha : OkV a) : Calls Tryd.prog 17 #[vv a] w (BoolEnd (RightV a) w) := by
  obtain ⟨m, e, s⟩ := a
  obtain ⟨hm, he, hs⟩ := ha
  simp only [I64] at hm he hs
  unfold vv
  have ht := tmod10 m
  have HT := Lib.hid ht
  clear ht
  go_enter Tryd.func17, Tryd.ntmps17
  go_wp2_with fail
  all_goals
    go_ret
    refine ⟨_, rfl, ?_, (Below.refl _ _).alloc (Nat.le_refl _) _⟩
    have ht := HT.out
    simp only [Told, RightV]
    simp only [bne_iff_ne, ne_eq, beq_iff_eq, bne_eq_false_iff_eq, beq_eq_false_iff_ne, decide_eq_true_eq, Bool.false_eq_true, Bool.and_eq_true, false_iff] at *
    omega

set_option maxRecDepth 100000 in
theorem refRight_any (a : V3) (w : World) (ha : OkV a) : Calls Tryd.prog 16 #[vv a] w (BoolEnd (RightV a) w) := by
  obtain ⟨m, e, s⟩ := a
  obtain ⟨hm, he, hs⟩ := ha
  simp only [I64] at hm he hs
  unfold vv
  have ht := tmod10 m
  have HT := Lib.hid ht
  clear ht
  go_enter Tryd.func16, Tryd.ntmps16
  go_wp2_with fail
  all_goals
    go_ret
    refine ⟨_, rfl, ?_, (Below.refl _ _).alloc (Nat.le_refl _) _⟩
    have ht := HT.out
    simp only [Told, RightV]
    simp only [bne_iff_ne, ne_eq, beq_iff_eq, bne_eq_false_iff_eq, beq_eq_false_iff_ne, decide_eq_true_eq, Bool.false_eq_true, Bool.and_eq_true, false_iff] at *
    omega

/-- A value is a number that isn't 0. -/
def NumV (a : V3) : Prop := a.s = 0 ∧ a.m ≠ 0
theorem number_any (a : V3) (w : World) : Calls Tryd.prog 18 #[vv a] w (BoolEnd (NumV a) w) := by
  obtain ⟨m, e, s⟩ := a
  unfold vv
  go_enter Tryd.func18, Tryd.ntmps18
  go_wp2_with fail
  all_goals
    go_ret
    refine ⟨_, rfl, ?_, (Below.refl _ _).alloc (Nat.le_refl _) _⟩
    simp only [Told, NumV]
    simp only [bne_iff_ne, ne_eq, Bool.false_eq_true, false_iff] at *
    omega

def sizeI (m : Int) : Int := if m < 0 then -m else m
theorem size_any (m : Int) (w : World) (hm : -9223372036854775808 < m) (hm2 : m ≤ 9223372036854775807) : Calls Tryd.prog 24 #[.int .i64 m] w fun e w' => e = .returned (.int .i64 (sizeI m)) ∧ w = w' := by
  by_cases h : m < 0
  · go_enter Tryd.func24, Tryd.ntmps24
    go_wp2_with fail
    go_ret
    exact ⟨by rw [sizeI, if_pos h]; rfl, rfl⟩
  · go_enter Tryd.func24, Tryd.ntmps24
    go_wp2_with fail
    go_ret
    exact ⟨by rw [sizeI, if_neg (by omega)]; rfl, rfl⟩
end Go.Proofs.YtbpillbhkkjlbaaDoor
