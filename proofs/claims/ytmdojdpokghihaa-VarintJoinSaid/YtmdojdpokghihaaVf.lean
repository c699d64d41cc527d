/- awake: the document's examples. -/
import Derived.Test.YtmdojdpokghihaaVe
import Derived.Test.YtmdojdpokghihaaKb
import Derived.WalkSpells
namespace Go.Proofs.Ytmdojdpokghihaa
open Go Go.RowKit

def TrueEnd (w : World) (e : Ending) (w' : World) : Prop := e = .returned (.bool true) ∧ Below w.heap.size w w'

theorem zig_m2 (w : World) : Calls Try.prog 9 #[.int .i64 (-2)] w fun e w' => e = .returned (.int .u64 3) ∧ w = w' := zig_any (-2) w (by decide) (by decide)
theorem zag_1 (w : World) : Calls Try.prog 10 #[.int .u64 1] w fun e w' => e = .returned (.int .i64 (-1)) ∧ w = w' := zag_any 1 w (by unfold U64; decide)
theorem uv300 : Lib.uvarint 300 = [172, 2] := by
  rw [Lib.uvarint_big (by decide), Lib.uvarint_small (by decide)]
  rfl
theorem put_300 (w : World) : Calls Try.prog 11 #[.slice none 0 0, .int .u64 300] w (NewBytes [172, 2] w) := by
  have h := Put_any (.slice none 0 0) [] 300 w (by unfold U64; decide) (by simp) (Reads.nil _ _)
  rw [List.nil_append, uv300] at h
  exact h

theorem str_of {w : World} {v : Value} {l : List UInt8} (h : Reads w b8 v l) : (convert 27 9 v).run Try.prog w = .ok (.string ⟨l.toArray⟩) w :=
  run_string_of h _ _ 5 Try.underlying27 Try.underlying5 Try.underlying9

set_option maxRecDepth 100000 in
theorem awake_any (w : World) : Calls Try.prog 8 #[] w (TrueEnd w) := by
  have t1 : Hid (takeF 0 0 [172, 2, 9] = (300, 2, 0)) := by rw [Hid]; decide
  have t2 : Hid (takeF 0 0 [128, 0] = (0, 0, 11)) := by rw [Hid]; decide
  go_enter Try.func8, Try.ntmps8
  go_wp2_with fail
  refine (Take_any _ [172, 2, 9] _ (by simp) (Reads.built _ _ _ 3 b8 [172, 2, 9] rfl rfl (by simp [maxLen]))).mono ?_
  rintro e w1 ⟨v1, rfl, hown1, hb1⟩
  rw [t1.out]
  go_wp2_with fail
  refine (Take_any _ [128, 0] _ (by simp) (Reads.built _ _ _ 2 b8 [128, 0] rfl rfl (by simp [maxLen]))).mono ?_
  rintro e w2 ⟨v2, rfl, hown2, hb2⟩
  rw [t2.out]
  have e1 : takeRest [172, 2, 9] = [9] := by rw [takeRest, t1.out]; rfl
  rw [e1] at hown1
  obtain ⟨a1, c1, rfl⟩ := owns_slice hown1
  clear hown1 hown2 e1 t1 t2
  go_wp2_with fail
  refine region_free (by kernel_rfl) (fun i => ([Spec.is (.int .u64 3), Spec.is (.bool true), Spec.is (.bool true), Spec.is (.int .i64 (-1)), Spec.is (.bool true), Spec.is (.bool true), Spec.is (.bool true), Spec.rd b8 [172, 2], Spec.is (.string ⟨([172, 2]).toArray⟩), Spec.rd b8 [172, 2], Spec.is (.string ⟨([172, 2]).toArray⟩), Spec.is (.bool true), Spec.is (.bool true), Spec.is (.bool true), Spec.is (.int .u64 300), Spec.is (.bool true), Spec.is (.bool true), Spec.is (.bool true), Spec.is (.slice a1 1 c1), Spec.is (.int .i64 1), Spec.is (.bool true), Spec.is (.bool true), Spec.is (.bool true), Spec.is (.int .i64 0), Spec.is (.bool true), Spec.is (.bool true), Spec.is (.bool true), Spec.is (.int .i64 11), Spec.is (.bool true), Spec.is (.bool true), Spec.is (.bool true)] : List Spec).getD i Spec.any) (by kernel_rfl) (ops_all ?_) ?_
  · refine ⟨?_, ?_, ?_, ?_, ?_, ?_, ?_, ?_, ?_, ?_, ?_, ?_, ?_, ?_, ?_, ?_, ?_, ?_, ?_, ?_, ?_, ?_, ?_, ?_, ?_, ?_, ?_, ?_, ?_, ?_, ?_, trivial⟩
    · intro ho a w hb hd hold
      refine ob_call (args := #[.int .i64 (-2)]) ho (met_none rfl) (run_callf Try.func9 (by kernel_rfl) rfl rfl (by simp [Act.eval])) ?_
      refine Calls.mono (zig_m2 _) ?_
      rintro e w' ⟨rfl, rfl⟩
      exact ⟨_, rfl, rfl, Below.refl _ _⟩
    · intro ho a w hb hd hold
      have x19 : a.tmps.getD 19 undef = .int .u64 3 := hd 0 rfl
      exact ob_is ho (met_none rfl) (by go_simp) rfl
    · intro ho a w hb hd hold
      have x20 : a.tmps.getD 20 undef = .bool true := hd 1 rfl
      exact ob_is ho (met_none rfl) (by go_simp) rfl
    · intro ho a w hb hd hold
      refine ob_call (args := #[.int .u64 1]) ho (met_some rfl (hd 2 rfl)) (run_callf Try.func10 (by kernel_rfl) rfl rfl (by simp [Act.eval])) ?_
      refine Calls.mono (zag_1 _) ?_
      rintro e w' ⟨rfl, rfl⟩
      exact ⟨_, rfl, rfl, Below.refl _ _⟩
    · intro ho a w hb hd hold
      have x22 : a.tmps.getD 22 undef = .int .i64 (-1) := hd 3 rfl
      exact ob_is ho (met_some rfl (hd 2 rfl)) (by go_simp) rfl
    · intro ho a w hb hd hold
      have x21 : a.tmps.getD 21 undef = .bool true := hd 2 rfl
      have x23 : a.tmps.getD 23 undef = .bool true := hd 4 rfl
      exact ob_is ho (met_none rfl) (by go_simp) rfl
    · intro ho a w hb hd hold
      have x24 : a.tmps.getD 24 undef = .bool true := hd 5 rfl
      exact ob_is ho (met_none rfl) (by go_simp) rfl
    · intro ho a w hb hd hold
      refine ob_call (args := #[.slice none 0 0, .int .u64 300]) ho (met_some rfl (hd 6 rfl)) (run_callf Try.func11 (by kernel_rfl) rfl rfl (by simp [Act.eval])) ?_
      refine Calls.mono (put_300 _) ?_
      rintro e w' ⟨v3, rfl, hown3, hb3⟩
      exact ⟨v3, rfl, Reads.of_owns hown3, hb3⟩
    · intro ho a w hb hd hold
      have x26 : Reads w b8 (a.tmps.getD 26 undef) [172, 2] := hd 7 rfl
      exact ob_is ho (met_some rfl (hd 6 rfl)) (run_convert rfl rfl (str_of x26)) rfl
    · intro ho a w hb hd hold
      exact ob_val (v := .slice (some ⟨w.heap.size, 0, none⟩) 2 2) (w' := w.alloc (.cells #[.int .u8 172, .int .u8 2] 5)) ho (met_some rfl (hd 6 rfl)) (by go_simp) ((Below.refl _ _).alloc (Nat.le_refl _) _) (Reads.built w _ _ 2 b8 [172, 2] rfl rfl (by simp [maxLen]))
    · intro ho a w hb hd hold
      have x28 : Reads w b8 (a.tmps.getD 28 undef) [172, 2] := hd 9 rfl
      exact ob_is ho (met_some rfl (hd 6 rfl)) (run_convert rfl rfl (str_of x28)) rfl
    · intro ho a w hb hd hold
      have x27 : a.tmps.getD 27 undef = .string ⟨([172, 2]).toArray⟩ := hd 8 rfl
      have x29 : a.tmps.getD 29 undef = .string ⟨([172, 2]).toArray⟩ := hd 10 rfl
      exact ob_is ho (met_some rfl (hd 6 rfl)) (by go_simp) rfl
    · intro ho a w hb hd hold
      have x25 : a.tmps.getD 25 undef = .bool true := hd 6 rfl
      have x30 : a.tmps.getD 30 undef = .bool true := hd 11 rfl
      exact ob_is ho (met_none rfl) (by go_simp) rfl
    · intro ho a w hb hd hold
      have x31 : a.tmps.getD 31 undef = .bool true := hd 12 rfl
      exact ob_is ho (met_none rfl) (by go_simp) rfl
    · intro ho a w hb hd hold
      have x1 : a.tmps.getD 1 undef = .int .u64 300 := hold 1 rfl
      exact ob_is ho (met_some rfl (hd 13 rfl)) (by go_simp) rfl
    · intro ho a w hb hd hold
      have x33 : a.tmps.getD 33 undef = .int .u64 300 := hd 14 rfl
      exact ob_is ho (met_some rfl (hd 13 rfl)) (by go_simp) rfl
    · intro ho a w hb hd hold
      have x32 : a.tmps.getD 32 undef = .bool true := hd 13 rfl
      have x34 : a.tmps.getD 34 undef = .bool true := hd 15 rfl
      exact ob_is ho (met_none rfl) (by go_simp) rfl
    · intro ho a w hb hd hold
      have x35 : a.tmps.getD 35 undef = .bool true := hd 16 rfl
      exact ob_is ho (met_none rfl) (by go_simp) rfl
    · intro ho a w hb hd hold
      have x2 : a.tmps.getD 2 undef = .slice a1 1 c1 := hold 2 rfl
      exact ob_is ho (met_some rfl (hd 17 rfl)) (by go_simp) rfl
    · intro ho a w hb hd hold
      have x37 : a.tmps.getD 37 undef = .slice a1 1 c1 := hd 18 rfl
      exact ob_is ho (met_some rfl (hd 17 rfl)) (by go_simp) rfl
    · intro ho a w hb hd hold
      have x38 : a.tmps.getD 38 undef = .int .i64 1 := hd 19 rfl
      exact ob_is ho (met_some rfl (hd 17 rfl)) (by go_simp) rfl
    · intro ho a w hb hd hold
      have x36 : a.tmps.getD 36 undef = .bool true := hd 17 rfl
      have x39 : a.tmps.getD 39 undef = .bool true := hd 20 rfl
      exact ob_is ho (met_none rfl) (by go_simp) rfl
    · intro ho a w hb hd hold
      have x40 : a.tmps.getD 40 undef = .bool true := hd 21 rfl
      exact ob_is ho (met_none rfl) (by go_simp) rfl
    · intro ho a w hb hd hold
      have x3 : a.tmps.getD 3 undef = .int .i64 0 := hold 3 rfl
      exact ob_is ho (met_some rfl (hd 22 rfl)) (by go_simp) rfl
    · intro ho a w hb hd hold
      have x42 : a.tmps.getD 42 undef = .int .i64 0 := hd 23 rfl
      exact ob_is ho (met_some rfl (hd 22 rfl)) (by go_simp) rfl
    · intro ho a w hb hd hold
      have x41 : a.tmps.getD 41 undef = .bool true := hd 22 rfl
      have x43 : a.tmps.getD 43 undef = .bool true := hd 24 rfl
      exact ob_is ho (met_none rfl) (by go_simp) rfl
    · intro ho a w hb hd hold
      have x44 : a.tmps.getD 44 undef = .bool true := hd 25 rfl
      exact ob_is ho (met_none rfl) (by go_simp) rfl
    · intro ho a w hb hd hold
      have x6 : a.tmps.getD 6 undef = .int .i64 11 := hold 6 rfl
      exact ob_is ho (met_some rfl (hd 26 rfl)) (by go_simp) rfl
    · intro ho a w hb hd hold
      have x46 : a.tmps.getD 46 undef = .int .i64 11 := hd 27 rfl
      exact ob_is ho (met_some rfl (hd 26 rfl)) (by go_simp) rfl
    · intro ho a w hb hd hold
      have x45 : a.tmps.getD 45 undef = .bool true := hd 26 rfl
      have x47 : a.tmps.getD 47 undef = .bool true := hd 28 rfl
      exact ob_is ho (met_none rfl) (by go_simp) rfl
    · intro ho a w hb hd hold
      have x48 : a.tmps.getD 48 undef = .bool true := hd 29 rfl
      exact ob_is ho (met_none rfl) (by go_simp) rfl
  · intro a w' hb hS hold hsz hdf
    have r : a.tmps.getD 0 undef = .bool true := hS 30 _ rfl
    go_wp2_with fail
    refine ret_at rfl r hdf ⟨rfl, ?_⟩
    have b1 : Below w.heap.size w w1 := ((Below.refl w.heap.size w).alloc (Nat.le_refl _) _).trans (hb1.mono (by simp))
    have b2 : Below w.heap.size w w2 := (b1.alloc b1.size _).trans (hb2.mono (by have := b1.size; simp; omega))
    exact b2.trans (hb.mono b2.size)

end Go.Proofs.Ytmdojdpokghihaa
