/- awake: the document's examples. -/
import Derived.Test.YtgegbfhjophdfaaCf
import Derived.Test.YtgegbfhjophdfaaKb
import Derived.WalkSpells
namespace Go.Proofs.Ytgegbfhjophdfaa
open Go Go.RowKit

def TrueEnd (w : World) (e : Ending) (w' : World) : Prop := e = .returned (.bool true) ∧ Below w.heap.size w w'

theorem str_of {w : World} {v : Value} {l : List UInt8} (h : Reads w b8 v l) : (convert 24 9 v).run Try.prog w = .ok (.string ⟨l.toArray⟩) w :=
  run_string_of h _ _ 5 Try.underlying24 Try.underlying5 Try.underlying9

theorem uv_small (n : Nat) (h : n < 128) : Lib.uvarint n = [UInt8.ofNat n] := Lib.uvarint_small h
theorem asL_eq {kind : Int} {l x : List Int} (hk : kindL kind l = some x) (hl : l.length < 128) : asL kind l = some (UInt8.ofNat kind.toNat :: UInt8.ofNat l.length :: allBytes x) := by
  rw [asL, if_neg (by omega), hk, uv_small _ hl]
  rfl
theorem asL_no {kind : Int} {l : List Int} (hk : kindL kind l = none) : asL kind l = none := by
  rw [asL, hk]
  split <;> rfl
theorem allBytes_small : ∀ l : List Int, (∀ n ∈ l, 0 ≤ n ∧ n < 64) → allBytes l = l.map fun n => UInt8.ofNat (2 * n).toNat
  | [], _ => rfl
  | n :: l, h => by
    have h0 := h n (by simp)
    have h1 : Lib.zigzag n = (2 * n).toNat := by rw [Lib.zigzag, if_pos h0.1]
    rw [show allBytes (n :: l) = Lib.uvarint (Lib.zigzag n) ++ allBytes l from rfl, h1, uv_small _ (by omega), allBytes_small l fun m hm => h m (by simp [hm])]
    rfl

theorem best_555 : bestL [5, 5, 5] = (0, [0, 3, 10]) := by
  have hd : ∀ i, 1 ≤ i → i < 3 → df [5, 5, 5] i = 0 := by
    intro i h1 h2
    rcases (show i = 1 ∨ i = 2 by omega) with rfl | rfl <;> kernel_rfl
  have k2 : kindL 2 [5, 5, 5] = some [5, 0, 0] := by kernel_rfl
  have k3 : kindL 3 [5, 5, 5] = some [5, 0, 0] := by kernel_rfl
  have k1 : kindL 1 [5, 5, 5] = some [5, 0] := by
    show kind1 [5, 5, 5] = _
    rw [kind1, if_pos ⟨by decide, fun i h1 h2 => by rw [hd i h1 h2, hd 1 (by omega) (by omega)]⟩]
    kernel_rfl
  have k0 : kindL 0 [5, 5, 5] = some [5] := by
    show kind0 [5, 5, 5] = _
    refine if_pos ⟨by decide, fun i h1 h2 => ?_⟩
    rcases (show i = 0 ∨ i = 1 ∨ i = 2 by simp at h2; omega) with rfl | rfl | rfl <;> rfl
  have a2 := asL_eq k2 (by decide)
  have a3 := asL_eq k3 (by decide)
  have a1 := asL_eq k1 (by decide)
  have a0 := asL_eq k0 (by decide)
  rw [allBytes_small _ (by decide)] at a2 a3 a1 a0
  rw [bestL, a2]
  simp only [List.foldl_cons, List.foldl_nil]
  simp [bestStep, a3, a1, a0]

theorem best_nil : bestL [] = (2, [2, 0]) := by
  have k2 : kindL 2 [] = some [] := rfl
  have k3 : kindL 3 [] = none := rfl
  have k1 : kindL 1 [] = none := by
    show kind1 [] = _
    exact if_neg (by simp)
  have k0 : kindL 0 [] = none := by
    show kind0 [] = _
    exact if_neg (by simp)
  have a2 := asL_eq k2 (by decide)
  rw [bestL, a2]
  simp only [List.foldl_cons, List.foldl_nil, bestStep, asL_no k3, asL_no k1, asL_no k0]
  rfl

theorem best_123 : (bestL [10, 20, 30]).1 = 1 := by
  have k2 : kindL 2 [10, 20, 30] = some [10, 10, 10] := by kernel_rfl
  have k3 : kindL 3 [10, 20, 30] = some [10, 10, 0] := by kernel_rfl
  have k1 : kindL 1 [10, 20, 30] = some [10, 10] := by
    show kind1 [10, 20, 30] = _
    rw [kind1, if_pos ⟨by decide, fun i h1 h2 => by
      rcases (show i = 1 ∨ i = 2 by simp at h2; omega) with rfl | rfl <;> kernel_rfl⟩]
    kernel_rfl
  have k0 : kindL 0 [10, 20, 30] = none := by
    show kind0 [10, 20, 30] = _
    exact if_neg (fun h => absurd (h.2 1 (by omega) (by decide)) (by decide))
  have a2 := asL_eq k2 (by decide)
  have a3 := asL_eq k3 (by decide)
  have a1 := asL_eq k1 (by decide)
  rw [allBytes_small _ (by decide)] at a2 a3 a1
  rw [bestL, a2]
  simp only [List.foldl_cons, List.foldl_nil]
  simp [bestStep, a3, a1, asL_no k0]

theorem enc_555 (v : Value) (w : World) (hr : Reads w vi64 v [5, 5, 5]) : Calls Try.prog 13 #[v] w fun e w' => ∃ v', e = .returned v' ∧ Reads w' b8 v' [0, 3, 10] ∧ Below w.heap.size w w' := by
  have h := Encode_any v [5, 5, 5] w (by unfold I64; decide) hr
  rw [best_555] at h
  exact h
theorem enc_nil (w : World) : Calls Try.prog 13 #[.slice none 0 0] w fun e w' => ∃ v', e = .returned v' ∧ Reads w' b8 v' [2, 0] ∧ Below w.heap.size w w' := by
  have h := Encode_any (.slice none 0 0) [] w (by simp) (Reads.nil _ _)
  rw [best_nil] at h
  exact h
theorem choose_123 (v : Value) (w : World) (hr : Reads w vi64 v [10, 20, 30]) : Calls Try.prog 12 #[v] w fun e w' => e = .returned (.int .i64 1) ∧ Below w.heap.size w w' := by
  have h := Choose_any v [10, 20, 30] w (by unfold I64; decide) hr
  rw [best_123] at h
  exact h

set_option maxRecDepth 100000 in
theorem awake_any (w : World) : Calls Try.prog 8 #[] w (TrueEnd w) := by
  have t1 : takeF 0 0 [3, 20, 20, 9] = (3, 1, 0) := by decide
  have t2 : takeN (haveOf 1 3) (([3, 20, 20, 9] : List UInt8).drop 1) = ([10, 10], [9], 0) := by decide
  have t3 : undoL 1 [10, 10] 3 = [10, 20, 30] := by kernel_rfl
  have hdec := Decode_good 1 (.slice (some ⟨w.heap.size, 0, none⟩) 5 5) [3, 20, 20, 9] 3 1 [10, 10] [9] (w.alloc (.cells #[.int .u8 1, .int .u8 3, .int .u8 20, .int .u8 20, .int .u8 9] 5)) (by decide) (Reads.built _ _ _ 5 b8 [1, 3, 20, 20, 9] rfl rfl (by simp [maxLen])) (by decide) t1 (by decide) (by decide) t2 rfl
  rw [t3] at hdec
  clear t1 t2 t3
  go_enter Try.func8, Try.ntmps8
  go_wp2_with fail
  refine hdec.mono ?_
  rintro e w1 ⟨v1, v2, rfl, hr1, hr2, hb1⟩
  clear hdec
  obtain ⟨a1, c1, rfl⟩ := hr1.slice
  obtain ⟨a2, c2, rfl⟩ := hr2.slice
  have hb01 : Below w.heap.size w w1 := ((Below.refl w.heap.size w).alloc (Nat.le_refl _) _).trans (hb1.mono (by simp))
  clear hb1
  go_wp2_with fail
  refine region_free (by kernel_rfl) (fun i => ([Spec.rd vi64 [5, 5, 5], Spec.rd b8 [0, 3, 10], Spec.is (.string ⟨([0, 3, 10]).toArray⟩), Spec.rd b8 [0, 3, 10], Spec.is (.string ⟨([0, 3, 10]).toArray⟩), Spec.is (.bool true), Spec.is (.bool true), Spec.rd b8 [2, 0], Spec.is (.string ⟨([2, 0]).toArray⟩), Spec.rd b8 [2, 0], Spec.is (.string ⟨([2, 0]).toArray⟩), Spec.is (.bool true), Spec.is (.bool true), Spec.is (.bool true), Spec.is (.int .i64 0), Spec.is (.bool true), Spec.is (.bool true), Spec.is (.bool true), Spec.rd vi64 [10, 20, 30], Spec.rd vi64 [10, 20, 30], Spec.is (.bool true), Spec.is (.bool true), Spec.is (.bool true), Spec.is (.slice a2 1 c2), Spec.is (.int .i64 1), Spec.is (.bool true), Spec.is (.bool true), Spec.is (.bool true), Spec.rd vi64 [10, 20, 30], Spec.is (.int .i64 1), Spec.is (.bool true), Spec.is (.bool true), Spec.is (.bool true)] : List Spec).getD i Spec.any) (by kernel_rfl) (ops_all ?_) ?_
  · refine ⟨?_, ?_, ?_, ?_, ?_, ?_, ?_, ?_, ?_, ?_, ?_, ?_, ?_, ?_, ?_, ?_, ?_, ?_, ?_, ?_, ?_, ?_, ?_, ?_, ?_, ?_, ?_, ?_, ?_, ?_, ?_, ?_, ?_, trivial⟩
    · intro ho a w hb hd hold
      exact ob_val (v := .slice (some ⟨w.heap.size, 0, none⟩) 3 3) (w' := w.alloc (.cells #[.int .i64 5, .int .i64 5, .int .i64 5] 2)) ho (met_none rfl) (by go_simp) ((Below.refl _ _).alloc (Nat.le_refl _) _) (Reads.built w _ _ 3 vi64 [5, 5, 5] rfl rfl (by simp [maxLen]))
    · intro ho a w hb hd hold
      have x10 : Reads w vi64 (a.tmps.getD 10 undef) [5, 5, 5] := hd 0 rfl
      refine ob_call (args := #[a.tmps.getD 10 undef]) ho (met_none rfl) (run_callf Try.func13 (by kernel_rfl) rfl rfl (by simp [Act.eval])) ?_
      refine Calls.mono (enc_555 _ _ x10) ?_
      rintro e w' ⟨v3, rfl, hr3, hb3⟩
      exact ⟨v3, rfl, hr3, hb3⟩
    · intro ho a w hb hd hold
      have x11 : Reads w b8 (a.tmps.getD 11 undef) [0, 3, 10] := hd 1 rfl
      exact ob_is ho (met_none rfl) (run_convert rfl rfl (str_of x11)) rfl
    · intro ho a w hb hd hold
      exact ob_val (v := .slice (some ⟨w.heap.size, 0, none⟩) 3 3) (w' := w.alloc (.cells #[.int .u8 0, .int .u8 3, .int .u8 10] 5)) ho (met_none rfl) (by go_simp) ((Below.refl _ _).alloc (Nat.le_refl _) _) (Reads.built w _ _ 3 b8 [0, 3, 10] rfl rfl (by simp [maxLen]))
    · intro ho a w hb hd hold
      have x13 : Reads w b8 (a.tmps.getD 13 undef) [0, 3, 10] := hd 3 rfl
      exact ob_is ho (met_none rfl) (run_convert rfl rfl (str_of x13)) rfl
    · intro ho a w hb hd hold
      have x12 : a.tmps.getD 12 undef = .string ⟨([0, 3, 10]).toArray⟩ := hd 2 rfl
      have x14 : a.tmps.getD 14 undef = .string ⟨([0, 3, 10]).toArray⟩ := hd 4 rfl
      exact ob_is ho (met_none rfl) (by go_simp) rfl
    · intro ho a w hb hd hold
      have x15 : a.tmps.getD 15 undef = .bool true := hd 5 rfl
      exact ob_is ho (met_none rfl) (by go_simp) rfl
    · intro ho a w hb hd hold
      refine ob_call (args := #[.slice none 0 0]) ho (met_some rfl (hd 6 rfl)) (run_callf Try.func13 (by kernel_rfl) rfl rfl (by simp [Act.eval])) ?_
      refine Calls.mono (enc_nil _) ?_
      rintro e w' ⟨v3, rfl, hr3, hb3⟩
      exact ⟨v3, rfl, hr3, hb3⟩
    · intro ho a w hb hd hold
      have x17 : Reads w b8 (a.tmps.getD 17 undef) [2, 0] := hd 7 rfl
      exact ob_is ho (met_some rfl (hd 6 rfl)) (run_convert rfl rfl (str_of x17)) rfl
    · intro ho a w hb hd hold
      exact ob_val (v := .slice (some ⟨w.heap.size, 0, none⟩) 2 2) (w' := w.alloc (.cells #[.int .u8 2, .int .u8 0] 5)) ho (met_some rfl (hd 6 rfl)) (by go_simp) ((Below.refl _ _).alloc (Nat.le_refl _) _) (Reads.built w _ _ 2 b8 [2, 0] rfl rfl (by simp [maxLen]))
    · intro ho a w hb hd hold
      have x19 : Reads w b8 (a.tmps.getD 19 undef) [2, 0] := hd 9 rfl
      exact ob_is ho (met_some rfl (hd 6 rfl)) (run_convert rfl rfl (str_of x19)) rfl
    · intro ho a w hb hd hold
      have x18 : a.tmps.getD 18 undef = .string ⟨([2, 0]).toArray⟩ := hd 8 rfl
      have x20 : a.tmps.getD 20 undef = .string ⟨([2, 0]).toArray⟩ := hd 10 rfl
      exact ob_is ho (met_some rfl (hd 6 rfl)) (by go_simp) rfl
    · intro ho a w hb hd hold
      have x16 : a.tmps.getD 16 undef = .bool true := hd 6 rfl
      have x21 : a.tmps.getD 21 undef = .bool true := hd 11 rfl
      exact ob_is ho (met_none rfl) (by go_simp) rfl
    · intro ho a w hb hd hold
      have x22 : a.tmps.getD 22 undef = .bool true := hd 12 rfl
      exact ob_is ho (met_none rfl) (by go_simp) rfl
    · intro ho a w hb hd hold
      have x3 : a.tmps.getD 3 undef = .int .i64 0 := hold 3 rfl
      exact ob_is ho (met_some rfl (hd 13 rfl)) (by go_simp) rfl
    · intro ho a w hb hd hold
      have x24 : a.tmps.getD 24 undef = .int .i64 0 := hd 14 rfl
      exact ob_is ho (met_some rfl (hd 13 rfl)) (by go_simp) rfl
    · intro ho a w hb hd hold
      have x23 : a.tmps.getD 23 undef = .bool true := hd 13 rfl
      have x25 : a.tmps.getD 25 undef = .bool true := hd 15 rfl
      exact ob_is ho (met_none rfl) (by go_simp) rfl
    · intro ho a w hb hd hold
      have x26 : a.tmps.getD 26 undef = .bool true := hd 16 rfl
      exact ob_is ho (met_none rfl) (by go_simp) rfl
    · intro ho a w hb hd hold
      have x1 : Reads w vi64 (a.tmps.getD 1 undef) [10, 20, 30] := by rw [show a.tmps.getD 1 undef = _ from hold 1 rfl]; exact (hr1.drew).below hb (Nat.le_refl _)
      exact ob_is ho (met_some rfl (hd 17 rfl)) (run_move _ rfl rfl) x1
    · intro ho a w hb hd hold
      exact ob_val (v := .slice (some ⟨w.heap.size, 0, none⟩) 3 3) (w' := w.alloc (.cells #[.int .i64 10, .int .i64 20, .int .i64 30] 2)) ho (met_some rfl (hd 17 rfl)) (by go_simp) ((Below.refl _ _).alloc (Nat.le_refl _) _) (Reads.built w _ _ 3 vi64 [10, 20, 30] rfl rfl (by simp [maxLen]))
    · intro ho a w hb hd hold
      have x28 : Reads w vi64 (a.tmps.getD 28 undef) [10, 20, 30] := hd 18 rfl
      have x29 : Reads w vi64 (a.tmps.getD 29 undef) [10, 20, 30] := hd 19 rfl
      refine ob_call (args := #[a.tmps.getD 28 undef, a.tmps.getD 29 undef]) ho (met_some rfl (hd 17 rfl)) (run_callf Try.func15 (by kernel_rfl) rfl rfl (by simp [Act.eval])) ?_
      refine Calls.mono (Same_true _ _ [10, 20, 30] _ x28 x29) ?_
      rintro e w' ⟨rfl, m, rfl⟩
      exact ⟨_, rfl, rfl, Below.drewN (Below.refl _ _) m⟩
    · intro ho a w hb hd hold
      have x27 : a.tmps.getD 27 undef = .bool true := hd 17 rfl
      have x30 : a.tmps.getD 30 undef = .bool true := hd 20 rfl
      exact ob_is ho (met_none rfl) (by go_simp) rfl
    · intro ho a w hb hd hold
      have x31 : a.tmps.getD 31 undef = .bool true := hd 21 rfl
      exact ob_is ho (met_none rfl) (by go_simp) rfl
    · intro ho a w hb hd hold
      have x2 : a.tmps.getD 2 undef = .slice a2 1 c2 := hold 2 rfl
      exact ob_is ho (met_some rfl (hd 22 rfl)) (by go_simp) rfl
    · intro ho a w hb hd hold
      have x33 : a.tmps.getD 33 undef = .slice a2 1 c2 := hd 23 rfl
      exact ob_is ho (met_some rfl (hd 22 rfl)) (by go_simp) rfl
    · intro ho a w hb hd hold
      have x34 : a.tmps.getD 34 undef = .int .i64 1 := hd 24 rfl
      exact ob_is ho (met_some rfl (hd 22 rfl)) (by go_simp) rfl
    · intro ho a w hb hd hold
      have x32 : a.tmps.getD 32 undef = .bool true := hd 22 rfl
      have x35 : a.tmps.getD 35 undef = .bool true := hd 25 rfl
      exact ob_is ho (met_none rfl) (by go_simp) rfl
    · intro ho a w hb hd hold
      have x36 : a.tmps.getD 36 undef = .bool true := hd 26 rfl
      exact ob_is ho (met_none rfl) (by go_simp) rfl
    · intro ho a w hb hd hold
      have x1 : Reads w vi64 (a.tmps.getD 1 undef) [10, 20, 30] := by rw [show a.tmps.getD 1 undef = _ from hold 1 rfl]; exact (hr1.drew).below hb (Nat.le_refl _)
      exact ob_is ho (met_some rfl (hd 27 rfl)) (run_move _ rfl rfl) x1
    · intro ho a w hb hd hold
      have x38 : Reads w vi64 (a.tmps.getD 38 undef) [10, 20, 30] := hd 28 rfl
      refine ob_call (args := #[a.tmps.getD 38 undef]) ho (met_some rfl (hd 27 rfl)) (run_callf Try.func12 (by kernel_rfl) rfl rfl (by simp [Act.eval])) ?_
      refine Calls.mono (choose_123 _ _ x38) ?_
      rintro e w' ⟨rfl, hb3⟩
      exact ⟨_, rfl, rfl, hb3⟩
    · intro ho a w hb hd hold
      have x39 : a.tmps.getD 39 undef = .int .i64 1 := hd 29 rfl
      exact ob_is ho (met_some rfl (hd 27 rfl)) (by go_simp) rfl
    · intro ho a w hb hd hold
      have x37 : a.tmps.getD 37 undef = .bool true := hd 27 rfl
      have x40 : a.tmps.getD 40 undef = .bool true := hd 30 rfl
      exact ob_is ho (met_none rfl) (by go_simp) rfl
    · intro ho a w hb hd hold
      have x41 : a.tmps.getD 41 undef = .bool true := hd 31 rfl
      exact ob_is ho (met_none rfl) (by go_simp) rfl
  · intro a w' hb hS hold hsz hdf
    have r : a.tmps.getD 0 undef = .bool true := hS 32 _ rfl
    go_wp2_with fail
    refine ret_at rfl r hdf ⟨rfl, ?_⟩
    exact hb01.trans (hb.mono hb01.size)

end Go.Proofs.Ytgegbfhjophdfaa
