/- ManifestRow: its region that leaves its order open. Printed by man_row.py. -/
import Derived.Test.YtcjbgchhalilnaaGreatDoorFf
import Derived.Test.YtcjbgchhalilnaaGreatDoorEf
import Derived.WalkLawsBesides
namespace Go.Proofs.YtcjbgchhalilnaaGreatDoor
open Go Go.RowKit Go.Lib
set_option linter.unusedVariables false

theorem run_idx0 {a : Act} {w : World} {o : Oper} {t : Tmp} {X : List UInt8} {k : Nat} (h : o.op = .index 9 (.tmp t) (.const (.int .i64 0))) (hx : a.tmps.getD t undef = .string ⟨X.toArray⟩) (hX : X.head?.map UInt8.toNat = some k) : (execOp a.eval o).run Tryz.prog w = .ok (.value (.int .u8 (k : Int))) w := by
  cases X with
  | nil => cases hX
  | cons c r =>
    simp at hX
    subst hX
    have hx' : (a.tmps[t]?).getD undef = .string ⟨(c :: r).toArray⟩ := by simpa using hx
    unfold execOp
    simp [h, hx', go_sem]
    rfl
theorem run_eqs {a : Act} {w : World} {o : Oper} {t u : Tmp} {X Y : List UInt8} {b : Bool} (h : o.op = .binOp .eql 9 (.tmp t) (.tmp u) 9) (hx : a.tmps.getD t undef = .string ⟨X.toArray⟩) (hy : a.tmps.getD u undef = .string ⟨Y.toArray⟩) (hb : (X == Y) = b) : (execOp a.eval o).run Tryz.prog w = .ok (.value (.bool b)) w := by
  have hx' : (a.tmps[t]?).getD undef = .string ⟨X.toArray⟩ := by simpa using hx
  have hy' : (a.tmps[u]?).getD undef = .string ⟨Y.toArray⟩ := by simpa using hy
  unfold execOp
  simp [h, hx', hy', go_sem]
  exact hb
theorem run_neqs {a : Act} {w : World} {o : Oper} {t u : Tmp} {X Y : List UInt8} (h : o.op = .binOp .neq 9 (.tmp t) (.tmp u) 9) (hx : a.tmps.getD t undef = .string ⟨X.toArray⟩) (hy : a.tmps.getD u undef = .string ⟨Y.toArray⟩) (hb : (X == Y) = false) : (execOp a.eval o).run Tryz.prog w = .ok (.value (.bool true)) w := by
  have hx' : (a.tmps[t]?).getD undef = .string ⟨X.toArray⟩ := by simpa using hx
  have hy' : (a.tmps[u]?).getD undef = .string ⟨Y.toArray⟩ := by simpa using hy
  unfold execOp
  simp [h, hx', hy', go_sem]
  exact beq_eq_false_iff_ne.1 hb
theorem run_from1 {a : Act} {w : World} {o : Oper} {t : Tmp} {X : List UInt8} (h : o.op = .slice 9 (.tmp t) (some (.const (.int .i64 1))) none none) (hx : a.tmps.getD t undef = .string ⟨X.toArray⟩) (hl : X.length = 7) : (execOp a.eval o).run Tryz.prog w = .ok (.value (.string ⟨(X.drop 1).toArray⟩)) w := by
  have hs : ({ data := X.toArray } : ByteArray).size = 7 := (str_len X).trans hl
  have hx' : (a.tmps[t]?).getD undef = .string ⟨X.toArray⟩ := by simpa using hx
  have he := str_from1 hl
  generalize X.drop 1 = R at he ⊢
  unfold execOp
  simp [h, hx', go_sem, hs, he]

set_option maxRecDepth 100000 in
theorem row9 {Q : Exit → Act → World → Prop} {a0 : Act} {w1 : World} {k : Nat} {p q : Int} {X Y Z : List UInt8} (hsz0 : a0.tmps.size = 90)
    (t0 : a0.tmps.getD 0 undef = .int .u8 (k : Int)) (t1 : a0.tmps.getD 1 undef = .int .i64 p) (t2 : a0.tmps.getD 2 undef = .int .i64 q) (t8 : a0.tmps.getD 8 undef = .string ⟨X.toArray⟩) (t9 : a0.tmps.getD 9 undef = .string ⟨Y.toArray⟩) (t10 : a0.tmps.getD 10 undef = .string ⟨Z.toArray⟩)
    (hX0 : X.head?.map UInt8.toNat = some k) (hlX : X.length = 7) (hlZ : Z.length = 7) (HL : Op.bytesLess X Y = decide (p < q)) (HE : (X == Y) = decide (p = q)) (HK : (Z == X) = false) (HD : (Z.drop 1 == X.drop 1) = true)
    (hQ : ∀ a w8, Below w1.heap.size w1 w8 → a.tmps.getD 6 undef = .bool true → a.tmps.size = 90 → a.defers = a0.defers → Q .normal a w8) :
    (Code.region 9 (opsOf Tryz.f6 9) true).wp Tryz.prog Q a0 w1 := by
  refine region_free (by kernel_rfl) (fun i => ([Spec.is (.string ⟨X.toArray⟩), Spec.is (.int .i64 7), Spec.is (.bool true), Spec.is (.bool true), Spec.is (.string ⟨X.toArray⟩), Spec.is (.int .u8 (k : Int)), Spec.is (.int .u8 (k : Int)), Spec.is (.bool true), Spec.is (.bool true), Spec.is (.bool true), Spec.is (.string ⟨X.toArray⟩), Spec.is (.string ⟨Y.toArray⟩), Spec.is (.bool (decide (p < q))), Spec.is (.int .i64 p), Spec.is (.int .i64 q), Spec.is (.bool (decide (p < q))), Spec.is (.bool true), Spec.is (.bool true), Spec.is (.bool true), Spec.is (.string ⟨X.toArray⟩), Spec.is (.string ⟨Y.toArray⟩), Spec.is (.bool (decide (p = q))), Spec.is (.int .i64 p), Spec.is (.int .i64 q), Spec.is (.bool (decide (p = q))), Spec.is (.bool true), Spec.is (.bool true), Spec.is (.bool true), Spec.is (.string ⟨Z.toArray⟩), Spec.is (.string ⟨X.toArray⟩), Spec.is (.bool true), Spec.is (.bool true), Spec.is (.bool true), Spec.is (.string ⟨Z.toArray⟩), Spec.is (.string ⟨(Z.drop 1).toArray⟩), Spec.is (.string ⟨X.toArray⟩), Spec.is (.string ⟨(X.drop 1).toArray⟩), Spec.is (.bool true), Spec.is (.bool true), Spec.is (.bool true)] : List Spec).getD i Spec.any) (by rw [hsz0]; kernel_rfl) (ops_all ?_) ?_
  · refine ⟨?_, ?_, ?_, ?_, ?_, ?_, ?_, ?_, ?_, ?_, ?_, ?_, ?_, ?_, ?_, ?_, ?_, ?_, ?_, ?_, ?_, ?_, ?_, ?_, ?_, ?_, ?_, ?_, ?_, ?_, ?_, ?_, ?_, ?_, ?_, ?_, ?_, ?_, ?_, ?_, trivial⟩
    · intro ho a w hb hd hold
      have x8 : a.tmps.getD 8 undef = .string ⟨X.toArray⟩ := (hold 8 rfl).trans t8
      exact ob_is ho (met_none rfl) (by go_simp) rfl
    · intro ho a w hb hd hold
      have x51 : a.tmps.getD 51 undef = .string ⟨X.toArray⟩ := hd 0 rfl
      have hs : ({ data := X.toArray } : ByteArray).size = 7 := (str_len X).trans hlX
      exact ob_is ho (met_none rfl) (by go_simp) rfl
    · intro ho a w hb hd hold
      have x52 : a.tmps.getD 52 undef = .int .i64 7 := hd 1 rfl
      exact ob_is ho (met_none rfl) (by go_simp) rfl
    · intro ho a w hb hd hold
      have x53 : a.tmps.getD 53 undef = .bool true := hd 2 rfl
      exact ob_is ho (met_none rfl) (by go_simp) rfl
    · intro ho a w hb hd hold
      have x8 : a.tmps.getD 8 undef = .string ⟨X.toArray⟩ := (hold 8 rfl).trans t8
      exact ob_is ho (met_some rfl (hd 3 rfl)) (by go_simp) rfl
    · intro ho a w hb hd hold
      have x55 : a.tmps.getD 55 undef = .string ⟨X.toArray⟩ := hd 4 rfl
      exact ob_is ho (met_some rfl (hd 3 rfl)) (run_idx0 rfl x55 hX0) rfl
    · intro ho a w hb hd hold
      have x0 : a.tmps.getD 0 undef = .int .u8 (k : Int) := (hold 0 rfl).trans t0
      exact ob_is ho (met_some rfl (hd 3 rfl)) (by go_simp) rfl
    · intro ho a w hb hd hold
      have x56 : a.tmps.getD 56 undef = .int .u8 (k : Int) := hd 5 rfl
      have x57 : a.tmps.getD 57 undef = .int .u8 (k : Int) := hd 6 rfl
      exact ob_is ho (met_some rfl (hd 3 rfl)) (by go_simp) rfl
    · intro ho a w hb hd hold
      have x54 : a.tmps.getD 54 undef = .bool true := hd 3 rfl
      have x58 : a.tmps.getD 58 undef = .bool true := hd 7 rfl
      exact ob_is ho (met_none rfl) (by go_simp) rfl
    · intro ho a w hb hd hold
      have x59 : a.tmps.getD 59 undef = .bool true := hd 8 rfl
      exact ob_is ho (met_none rfl) (by go_simp) rfl
    · intro ho a w hb hd hold
      have x8 : a.tmps.getD 8 undef = .string ⟨X.toArray⟩ := (hold 8 rfl).trans t8
      exact ob_is ho (met_some rfl (hd 9 rfl)) (by go_simp) rfl
    · intro ho a w hb hd hold
      have x9 : a.tmps.getD 9 undef = .string ⟨Y.toArray⟩ := (hold 9 rfl).trans t9
      exact ob_is ho (met_some rfl (hd 9 rfl)) (by go_simp) rfl
    · intro ho a w hb hd hold
      have x61 : a.tmps.getD 61 undef = .string ⟨X.toArray⟩ := hd 10 rfl
      have x62 : a.tmps.getD 62 undef = .string ⟨Y.toArray⟩ := hd 11 rfl
      have hs : Op.bytesLess (⟨X.toArray⟩ : ByteArray).toList (⟨Y.toArray⟩ : ByteArray).toList = decide (p < q) := by rw [ByteArray.toList_eq, ByteArray.toList_eq]; exact HL
      exact ob_is ho (met_some rfl (hd 9 rfl)) (by go_simp) rfl
    · intro ho a w hb hd hold
      have x1 : a.tmps.getD 1 undef = .int .i64 p := (hold 1 rfl).trans t1
      exact ob_is ho (met_some rfl (hd 9 rfl)) (by go_simp) rfl
    · intro ho a w hb hd hold
      have x2 : a.tmps.getD 2 undef = .int .i64 q := (hold 2 rfl).trans t2
      exact ob_is ho (met_some rfl (hd 9 rfl)) (by go_simp) rfl
    · intro ho a w hb hd hold
      have x64 : a.tmps.getD 64 undef = .int .i64 p := hd 13 rfl
      have x65 : a.tmps.getD 65 undef = .int .i64 q := hd 14 rfl
      exact ob_is ho (met_some rfl (hd 9 rfl)) (by go_simp) rfl
    · intro ho a w hb hd hold
      have x63 : a.tmps.getD 63 undef = .bool (decide (p < q)) := hd 12 rfl
      have x66 : a.tmps.getD 66 undef = .bool (decide (p < q)) := hd 15 rfl
      exact ob_is ho (met_some rfl (hd 9 rfl)) (by go_simp) rfl
    · intro ho a w hb hd hold
      have x60 : a.tmps.getD 60 undef = .bool true := hd 9 rfl
      have x67 : a.tmps.getD 67 undef = .bool true := hd 16 rfl
      exact ob_is ho (met_none rfl) (by go_simp) rfl
    · intro ho a w hb hd hold
      have x68 : a.tmps.getD 68 undef = .bool true := hd 17 rfl
      exact ob_is ho (met_none rfl) (by go_simp) rfl
    · intro ho a w hb hd hold
      have x8 : a.tmps.getD 8 undef = .string ⟨X.toArray⟩ := (hold 8 rfl).trans t8
      exact ob_is ho (met_some rfl (hd 18 rfl)) (by go_simp) rfl
    · intro ho a w hb hd hold
      have x9 : a.tmps.getD 9 undef = .string ⟨Y.toArray⟩ := (hold 9 rfl).trans t9
      exact ob_is ho (met_some rfl (hd 18 rfl)) (by go_simp) rfl
    · intro ho a w hb hd hold
      have x70 : a.tmps.getD 70 undef = .string ⟨X.toArray⟩ := hd 19 rfl
      have x71 : a.tmps.getD 71 undef = .string ⟨Y.toArray⟩ := hd 20 rfl
      exact ob_is ho (met_some rfl (hd 18 rfl)) (run_eqs rfl x70 x71 HE) rfl
    · intro ho a w hb hd hold
      have x1 : a.tmps.getD 1 undef = .int .i64 p := (hold 1 rfl).trans t1
      exact ob_is ho (met_some rfl (hd 18 rfl)) (by go_simp) rfl
    · intro ho a w hb hd hold
      have x2 : a.tmps.getD 2 undef = .int .i64 q := (hold 2 rfl).trans t2
      exact ob_is ho (met_some rfl (hd 18 rfl)) (by go_simp) rfl
    · intro ho a w hb hd hold
      have x73 : a.tmps.getD 73 undef = .int .i64 p := hd 22 rfl
      have x74 : a.tmps.getD 74 undef = .int .i64 q := hd 23 rfl
      have he : (p == q) = decide (p = q) := Bool.beq_eq_decide_eq p q
      exact ob_is ho (met_some rfl (hd 18 rfl)) (by go_simp) rfl
    · intro ho a w hb hd hold
      have x72 : a.tmps.getD 72 undef = .bool (decide (p = q)) := hd 21 rfl
      have x75 : a.tmps.getD 75 undef = .bool (decide (p = q)) := hd 24 rfl
      exact ob_is ho (met_some rfl (hd 18 rfl)) (by go_simp) rfl
    · intro ho a w hb hd hold
      have x69 : a.tmps.getD 69 undef = .bool true := hd 18 rfl
      have x76 : a.tmps.getD 76 undef = .bool true := hd 25 rfl
      exact ob_is ho (met_none rfl) (by go_simp) rfl
    · intro ho a w hb hd hold
      have x77 : a.tmps.getD 77 undef = .bool true := hd 26 rfl
      exact ob_is ho (met_none rfl) (by go_simp) rfl
    · intro ho a w hb hd hold
      have x10 : a.tmps.getD 10 undef = .string ⟨Z.toArray⟩ := (hold 10 rfl).trans t10
      exact ob_is ho (met_some rfl (hd 27 rfl)) (by go_simp) rfl
    · intro ho a w hb hd hold
      have x8 : a.tmps.getD 8 undef = .string ⟨X.toArray⟩ := (hold 8 rfl).trans t8
      exact ob_is ho (met_some rfl (hd 27 rfl)) (by go_simp) rfl
    · intro ho a w hb hd hold
      have x79 : a.tmps.getD 79 undef = .string ⟨Z.toArray⟩ := hd 28 rfl
      have x80 : a.tmps.getD 80 undef = .string ⟨X.toArray⟩ := hd 29 rfl
      exact ob_is ho (met_some rfl (hd 27 rfl)) (run_neqs rfl x79 x80 HK) rfl
    · intro ho a w hb hd hold
      have x78 : a.tmps.getD 78 undef = .bool true := hd 27 rfl
      have x81 : a.tmps.getD 81 undef = .bool true := hd 30 rfl
      exact ob_is ho (met_none rfl) (by go_simp) rfl
    · intro ho a w hb hd hold
      have x82 : a.tmps.getD 82 undef = .bool true := hd 31 rfl
      exact ob_is ho (met_none rfl) (by go_simp) rfl
    · intro ho a w hb hd hold
      have x10 : a.tmps.getD 10 undef = .string ⟨Z.toArray⟩ := (hold 10 rfl).trans t10
      exact ob_is ho (met_some rfl (hd 32 rfl)) (by go_simp) rfl
    · intro ho a w hb hd hold
      have x84 : a.tmps.getD 84 undef = .string ⟨Z.toArray⟩ := hd 33 rfl
      exact ob_is ho (met_some rfl (hd 32 rfl)) (run_from1 rfl x84 hlZ) rfl
    · intro ho a w hb hd hold
      have x8 : a.tmps.getD 8 undef = .string ⟨X.toArray⟩ := (hold 8 rfl).trans t8
      exact ob_is ho (met_some rfl (hd 32 rfl)) (by go_simp) rfl
    · intro ho a w hb hd hold
      have x86 : a.tmps.getD 86 undef = .string ⟨X.toArray⟩ := hd 35 rfl
      exact ob_is ho (met_some rfl (hd 32 rfl)) (run_from1 rfl x86 hlX) rfl
    · intro ho a w hb hd hold
      have x85 : a.tmps.getD 85 undef = .string ⟨(Z.drop 1).toArray⟩ := hd 34 rfl
      have x87 : a.tmps.getD 87 undef = .string ⟨(X.drop 1).toArray⟩ := hd 36 rfl
      exact ob_is ho (met_some rfl (hd 32 rfl)) (run_eqs rfl x85 x87 HD) rfl
    · intro ho a w hb hd hold
      have x83 : a.tmps.getD 83 undef = .bool true := hd 32 rfl
      have x88 : a.tmps.getD 88 undef = .bool true := hd 37 rfl
      exact ob_is ho (met_none rfl) (by go_simp) rfl
    · intro ho a w hb hd hold
      have x89 : a.tmps.getD 89 undef = .bool true := hd 38 rfl
      exact ob_is ho (met_none rfl) (run_assign _ rfl rfl) x89
  · intro a w8 hb hS hold hsz hdf
    exact hQ a w8 hb (hS 39 _ rfl) (hsz.trans hsz0) hdf
end Go.Proofs.YtcjbgchhalilnaaGreatDoor
