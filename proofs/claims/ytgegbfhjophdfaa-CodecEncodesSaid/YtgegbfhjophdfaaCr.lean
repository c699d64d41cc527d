/- CodecEncodes: the walk. -/
import Derived.Test.YtgegbfhjophdfaaCq
namespace Go.Proofs.Ytgegbfhjophdfaa
open Go Go.RowKit

theorem step_as {l : List Int} {c : Int × List UInt8} (k : Int) (h : (asL c.1 l).getD [] = c.2) : (asL (bestStep l c k).1 l).getD [] = (bestStep l c k).2 := by
  cases hx : asL k l with
  | none => rw [step_none hx]; exact h
  | some x =>
    by_cases h2 : x.length < c.2.length ∨ (x.length = c.2.length ∧ k < c.1)
    · rw [step_yes hx h2]
      show (asL k l).getD [] = x
      rw [hx]
      rfl
    · rw [step_no hx h2]; exact h
theorem best_as (l : List Int) : (asL (bestL l).1 l).getD [] = (bestL l).2 := by
  show (asL (bestStep l (bestStep l (bestStep l (2, (asL 2 l).getD []) 3) 1) 0).1 l).getD [] = (bestStep l (bestStep l (bestStep l (2, (asL 2 l).getD []) 3) 1) 0).2
  exact step_as 0 (step_as 1 (step_as 3 rfl))

set_option maxRecDepth 100000 in
set_option maxHeartbeats 4000000 in
theorem encodes_walk (v : Value) (l : List Int) (kind : Int) (w : World) (hl : ∀ n ∈ l, I64 n) (hr : Reads w vi64 v l) :
    Calls Try.prog 3 #[v, .int .i64 kind] w (TrueEnd w) := by
  have hcode := fun W (hW : Below w.heap.size w W) => As_any kind v l W hl (hr.below hW (Nat.le_refl _))
  have href := fun W (hW : Below w.heap.size w W) => refAs_any kind v l W hl (hr.below hW (Nat.le_refl _))
  have hchoose := fun W (hW : Below w.heap.size w W) => refChoose_any v l W hl (hr.below hW (Nat.le_refl _))
  have hlast := fun W (hW : Below w.heap.size w W) => refAs_any (bestL l).1 v l W hl (hr.below hW (Nat.le_refl _))
  have hCh := fun v' W (hW : Reads W vi64 v' l) => Choose_any v' l W hl hW
  have hEn := fun v' W (hW : Reads W vi64 v' l) => Encode_any v' l W hl hW
  have hba := best_as l
  unfold AsEnd at hcode href hlast
  rw [hba] at hlast
  clear hba
  generalize (asL (bestL l).1 l).isSome = bl at hlast
  generalize (bestL l).2 = xb at hlast hEn
  generalize (bestL l).1 = kb at hlast hchoose hCh
  generalize (asL kind l).isSome = bs at hcode href
  generalize (asL kind l).getD [] = xa at hcode href
  have HL := Lib.hid hlast
  have HCh := Lib.hid hCh
  have HEn := Lib.hid hEn
  have HR := Lib.hid href
  have HC := Lib.hid hcode
  have HO := Lib.hid hchoose
  clear hlast hCh hEn href hcode hchoose
  obtain ⟨ad, cap, rfl⟩ := hr.slice
  by_cases hbig : 5000 < l.length
  · go_enter Try.func3, Try.ntmps3
    go_wp2_with fail
    refine (awake_any w).mono ?_
    rintro e w1 ⟨rfl, hb1⟩
    go_wp2_with fail
    go_ret
    exact ⟨rfl, hb1⟩
  go_enter Try.func3, Try.ntmps3
  go_wp2_with fail
  refine (awake_any w).mono ?_
  rintro e w1 ⟨rfl, hb1⟩
  go_wp2_with fail
  refine (HC.out w1 hb1).mono ?_
  rintro e w2 ⟨v2, rfl, hown2, hb2⟩
  have hb02 := hb1.trans (hb2.mono hb1.size)
  have hr2 := Reads.of_owns hown2
  clear hown2 hb2 hb1
  go_wp2_with fail
  refine (HR.out w2 hb02).mono ?_
  rintro e w3 ⟨v3, rfl, hown3, hb3⟩
  have hb03 := hb02.trans (hb3.mono hb02.size)
  have hr3 := Reads.of_owns hown3
  have hr23 := hr2.below hb3 (Nat.le_refl _)
  clear hown3 hb3 hb02 hr2
  go_wp2_with fail
  refine (HO.out w3 hb03).mono ?_
  rintro e w4 ⟨rfl, hb4⟩
  have hb04 := hb03.trans (hb4.mono hb03.size)
  have hr34 := hr3.below hb4 (Nat.le_refl _)
  have hr24 := hr23.below hb4 (Nat.le_refl _)
  clear hb4 hb03 hr3 hr23
  go_wp2_with fail
  refine (HL.out w4 hb04).mono ?_
  rintro e w5 ⟨v5, rfl, hown5, hb5⟩
  have hb05 := hb04.trans (hb5.mono hb04.size)
  have hr5 := Reads.of_owns hown5
  have hr35 := hr34.below hb5 (Nat.le_refl _)
  have hr25 := hr24.below hb5 (Nat.le_refl _)
  have hrl5 := hr.below hb05 (Nat.le_refl _)
  clear hown5 hb5 hb04 hr34 hr24
  go_wp2_with fail
  refine region_free (by kernel_rfl) (fun i => ([Spec.is (.bool bs), Spec.is (.bool bs), Spec.is (.bool true), Spec.is (.bool true), Spec.rd b8 xa, Spec.is (.string ⟨(xa).toArray⟩), Spec.rd b8 xa, Spec.is (.string ⟨(xa).toArray⟩), Spec.is (.bool true), Spec.is (.bool true), Spec.is (.bool true), Spec.rd vi64 l, Spec.is (.int .i64 kb), Spec.is (.int .i64 kb), Spec.is (.bool true), Spec.is (.bool true), Spec.is (.bool true), Spec.rd vi64 l, Spec.rd b8 xb, Spec.is (.string ⟨(xb).toArray⟩), Spec.rd b8 xb, Spec.is (.string ⟨(xb).toArray⟩), Spec.is (.bool true), Spec.is (.bool true), Spec.is (.bool true)] : List Spec).getD i Spec.any) (by kernel_rfl) (ops_all ?_) ?_
  · refine ⟨?_, ?_, ?_, ?_, ?_, ?_, ?_, ?_, ?_, ?_, ?_, ?_, ?_, ?_, ?_, ?_, ?_, ?_, ?_, ?_, ?_, ?_, ?_, ?_, ?_, trivial⟩
    · intro ho a w hb hd hold
      have x7 : a.tmps.getD 7 undef = .bool bs := hold 7 rfl
      exact ob_is ho (met_none rfl) (by go_simp) rfl
    · intro ho a w hb hd hold
      have x9 : a.tmps.getD 9 undef = .bool bs := hold 9 rfl
      exact ob_is ho (met_none rfl) (by go_simp) rfl
    · intro ho a w hb hd hold
      have x39 : a.tmps.getD 39 undef = .bool bs := hd 0 rfl
      have x40 : a.tmps.getD 40 undef = .bool bs := hd 1 rfl
      exact ob_is ho (met_none rfl) (by go_simp) rfl
    · intro ho a w hb hd hold
      have x41 : a.tmps.getD 41 undef = .bool true := hd 2 rfl
      exact ob_is ho (met_none rfl) (by go_simp) rfl
    · intro ho a w hb hd hold
      have x6 : Reads w b8 (a.tmps.getD 6 undef) xa := by rw [show a.tmps.getD 6 undef = _ from hold 6 rfl]; exact (hr25.drew).below hb (Nat.le_refl _)
      exact ob_is ho (met_some rfl (hd 3 rfl)) (run_move _ rfl rfl) x6
    · intro ho a w hb hd hold
      have x43 : Reads w b8 (a.tmps.getD 43 undef) xa := hd 4 rfl
      exact ob_is ho (met_some rfl (hd 3 rfl)) (run_convert rfl rfl (str_of x43)) rfl
    · intro ho a w hb hd hold
      have x8 : Reads w b8 (a.tmps.getD 8 undef) xa := by rw [show a.tmps.getD 8 undef = _ from hold 8 rfl]; exact (hr35.drew).below hb (Nat.le_refl _)
      exact ob_is ho (met_some rfl (hd 3 rfl)) (run_move _ rfl rfl) x8
    · intro ho a w hb hd hold
      have x45 : Reads w b8 (a.tmps.getD 45 undef) xa := hd 6 rfl
      exact ob_is ho (met_some rfl (hd 3 rfl)) (run_convert rfl rfl (str_of x45)) rfl
    · intro ho a w hb hd hold
      have x44 : a.tmps.getD 44 undef = .string ⟨(xa).toArray⟩ := hd 5 rfl
      have x46 : a.tmps.getD 46 undef = .string ⟨(xa).toArray⟩ := hd 7 rfl
      exact ob_is ho (met_some rfl (hd 3 rfl)) (by go_simp) rfl
    · intro ho a w hb hd hold
      have x42 : a.tmps.getD 42 undef = .bool true := hd 3 rfl
      have x47 : a.tmps.getD 47 undef = .bool true := hd 8 rfl
      exact ob_is ho (met_none rfl) (by go_simp) rfl
    · intro ho a w hb hd hold
      have x48 : a.tmps.getD 48 undef = .bool true := hd 9 rfl
      exact ob_is ho (met_none rfl) (by go_simp) rfl
    · intro ho a w hb hd hold
      have x0 : Reads w vi64 (a.tmps.getD 0 undef) l := by rw [show a.tmps.getD 0 undef = _ from hold 0 rfl]; exact (hrl5.drew).below hb (Nat.le_refl _)
      exact ob_is ho (met_some rfl (hd 10 rfl)) (run_move _ rfl rfl) x0
    · intro ho a w hb hd hold
      have x50 : Reads w vi64 (a.tmps.getD 50 undef) l := hd 11 rfl
      refine ob_call (args := #[a.tmps.getD 50 undef]) ho (met_some rfl (hd 10 rfl)) (run_callf Try.func12 (by kernel_rfl) rfl rfl (by simp [Act.eval])) ?_
      refine Calls.mono (HCh.out _ _ x50) ?_
      rintro e w' ⟨rfl, hb3⟩
      exact ⟨_, rfl, rfl, hb3⟩
    · intro ho a w hb hd hold
      have x10 : a.tmps.getD 10 undef = .int .i64 kb := hold 10 rfl
      exact ob_is ho (met_some rfl (hd 10 rfl)) (by go_simp) rfl
    · intro ho a w hb hd hold
      have x51 : a.tmps.getD 51 undef = .int .i64 kb := hd 12 rfl
      have x52 : a.tmps.getD 52 undef = .int .i64 kb := hd 13 rfl
      exact ob_is ho (met_some rfl (hd 10 rfl)) (by go_simp) rfl
    · intro ho a w hb hd hold
      have x49 : a.tmps.getD 49 undef = .bool true := hd 10 rfl
      have x53 : a.tmps.getD 53 undef = .bool true := hd 14 rfl
      exact ob_is ho (met_none rfl) (by go_simp) rfl
    · intro ho a w hb hd hold
      have x54 : a.tmps.getD 54 undef = .bool true := hd 15 rfl
      exact ob_is ho (met_none rfl) (by go_simp) rfl
    · intro ho a w hb hd hold
      have x0 : Reads w vi64 (a.tmps.getD 0 undef) l := by rw [show a.tmps.getD 0 undef = _ from hold 0 rfl]; exact (hrl5.drew).below hb (Nat.le_refl _)
      exact ob_is ho (met_some rfl (hd 16 rfl)) (run_move _ rfl rfl) x0
    · intro ho a w hb hd hold
      have x56 : Reads w vi64 (a.tmps.getD 56 undef) l := hd 17 rfl
      refine ob_call (args := #[a.tmps.getD 56 undef]) ho (met_some rfl (hd 16 rfl)) (run_callf Try.func13 (by kernel_rfl) rfl rfl (by simp [Act.eval])) ?_
      refine Calls.mono (HEn.out _ _ x56) ?_
      rintro e w' ⟨v3, rfl, hr3, hb3⟩
      exact ⟨v3, rfl, hr3, hb3⟩
    · intro ho a w hb hd hold
      have x57 : Reads w b8 (a.tmps.getD 57 undef) xb := hd 18 rfl
      exact ob_is ho (met_some rfl (hd 16 rfl)) (run_convert rfl rfl (str_of x57)) rfl
    · intro ho a w hb hd hold
      have x11 : Reads w b8 (a.tmps.getD 11 undef) xb := by rw [show a.tmps.getD 11 undef = _ from hold 11 rfl]; exact (hr5.drew).below hb (Nat.le_refl _)
      exact ob_is ho (met_some rfl (hd 16 rfl)) (run_move _ rfl rfl) x11
    · intro ho a w hb hd hold
      have x59 : Reads w b8 (a.tmps.getD 59 undef) xb := hd 20 rfl
      exact ob_is ho (met_some rfl (hd 16 rfl)) (run_convert rfl rfl (str_of x59)) rfl
    · intro ho a w hb hd hold
      have x58 : a.tmps.getD 58 undef = .string ⟨(xb).toArray⟩ := hd 19 rfl
      have x60 : a.tmps.getD 60 undef = .string ⟨(xb).toArray⟩ := hd 21 rfl
      exact ob_is ho (met_some rfl (hd 16 rfl)) (by go_simp) rfl
    · intro ho a w hb hd hold
      have x55 : a.tmps.getD 55 undef = .bool true := hd 16 rfl
      have x61 : a.tmps.getD 61 undef = .bool true := hd 22 rfl
      exact ob_is ho (met_none rfl) (by go_simp) rfl
    · intro ho a w hb hd hold
      have x62 : a.tmps.getD 62 undef = .bool true := hd 23 rfl
      exact ob_is ho (met_none rfl) (by go_simp) rfl
  · intro a w' hb hS hold hsz hdf
    have r : a.tmps.getD 4 undef = .bool true := hS 24 _ rfl
    go_wp2_with fail
    refine ret_at rfl r hdf ⟨rfl, ?_⟩
    exact hb05.trans (hb.mono hb05.size)

end Go.Proofs.Ytgegbfhjophdfaa
