/- The reference's Same on manifests: its two comparing regions. Printed by man_same.py. -/
import Derived.Test.YtcjbgchhalilnaaGreatDoorHc
import Derived.Test.YtcjbgchhalilnaaGreatDoorIb
namespace Go.Proofs.YtcjbgchhalilnaaGreatDoor
open Go Go.RowKit Go.Lib
set_option linter.unusedVariables false

theorem run_neqp {a : Act} {w : World} {o : Oper} {t u : Tmp} {X Y : D2} {b : Bool} (h : o.op = .binOp .neq 56 (.tmp t) (.tmp u) 56) (hx : a.tmps.getD t undef = .agg #[.int .i64 X.m, .string ⟨X.n.toArray⟩]) (hy : a.tmps.getD u undef = .agg #[.int .i64 Y.m, .string ⟨Y.n.toArray⟩]) (hb : (X.m == Y.m && X.n == Y.n) = b) : (execOp a.eval o).run Tryz.prog w = .ok (.value (.bool (!b))) w := by
  have hx' : (a.tmps[t]?).getD undef = .agg #[.int .i64 X.m, .string ⟨X.n.toArray⟩] := by simpa using hx
  have hy' : (a.tmps[u]?).getD undef = .agg #[.int .i64 Y.m, .string ⟨Y.n.toArray⟩] := by simpa using hy
  subst hb
  unfold execOp
  simp [h, hx', hy', go_sem]
  by_cases h1 : X.m = Y.m <;> by_cases h2 : X.n = Y.n <;> simp [h1, h2]

set_option maxRecDepth 100000 in
theorem same_reg6 {Q : Exit → Act → World → Prop} {a0 : Act} {w1 : World} {n1 n2 b1 o1 L1 c1 b2 o2 L2 c2 j : Nat} {X Y : List UInt8} {q : Bool} (hsz0 : a0.tmps.size = 80)
    (t2 : a0.tmps.getD 2 undef = .pointer (some ⟨n1, 0, none⟩)) (t3 : a0.tmps.getD 3 undef = .pointer (some ⟨n2, 0, none⟩)) (t5 : a0.tmps.getD 5 undef = .int .i64 (j : Int)) (hj1 : j < L1) (hj2 : j < L2) (hL : L1 ≤ 100000000) (hn1 : n1 < w1.heap.size) (hn2 : n2 < w1.heap.size) (hbl1 : b1 < w1.heap.size) (hbl2 : b2 < w1.heap.size)
    (hk1 : w1.drew.cell? ⟨n1, 3, none⟩ = some (.slice (some ⟨b1, o1, none⟩) L1 c1)) (hk2 : w1.drew.cell? ⟨n2, 3, none⟩ = some (.slice (some ⟨b2, o2, none⟩) L2 c2)) (hc1 : w1.drew.cell? ⟨b1, o1 + j, none⟩ = some (.string ⟨X.toArray⟩)) (hc2 : w1.drew.cell? ⟨b2, o2 + j, none⟩ = some (.string ⟨Y.toArray⟩)) (hq : (X == Y) = q)
    (hQ : ∀ a w8, Below w1.heap.size w1 w8 → a.tmps.getD 61 undef = .bool (!q) → (∀ t, isDst (opsOf Tryz.f24 6) t = false → a.tmps.getD t undef = a0.tmps.getD t undef) → a.tmps.size = 80 → a.defers = a0.defers → Q .normal a w8) :
    (Code.region 6 (opsOf Tryz.f24 6) true).wp Tryz.prog Q a0 w1 := by
  have hj1' : (j : Int) < L1 := by omega
  have hj2' : (j : Int) < L2 := by omega
  have hn1 : n1 < w1.drew.heap.size := hn1
  have hn2 : n2 < w1.drew.heap.size := hn2
  have hbl1 : b1 < w1.drew.heap.size := hbl1
  have hbl2 : b2 < w1.drew.heap.size := hbl2
  refine region_free (by kernel_rfl) (fun i => ([Spec.is (.pointer (some ⟨n1, 3, none⟩)), Spec.is (.slice (some ⟨b1, o1, none⟩) L1 c1), Spec.is (.int .i64 (j : Int)), Spec.is (.pointer (some ⟨b1, o1 + j, none⟩)), Spec.is (.string ⟨X.toArray⟩), Spec.is (.pointer (some ⟨n2, 3, none⟩)), Spec.is (.slice (some ⟨b2, o2, none⟩) L2 c2), Spec.is (.int .i64 (j : Int)), Spec.is (.pointer (some ⟨b2, o2 + j, none⟩)), Spec.is (.string ⟨Y.toArray⟩), Spec.is (.bool (!q))] : List Spec).getD i Spec.any) (by rw [hsz0]; kernel_rfl) (ops_all ?_) ?_
  · refine ⟨?_, ?_, ?_, ?_, ?_, ?_, ?_, ?_, ?_, ?_, ?_, trivial⟩
    · intro ho a w hb hd hold
      have x2 : a.tmps.getD 2 undef = .pointer (some ⟨n1, 0, none⟩) := (hold 2 rfl).trans t2
      exact ob_is ho (met_none rfl) (by go_simp) rfl
    · intro ho a w hb hd hold
      have x51 : a.tmps.getD 51 undef = .pointer (some ⟨n1, 3, none⟩) := hd 0 rfl
      have hc : w.cell? ⟨n1, 3, none⟩ = some (.slice (some ⟨b1, o1, none⟩) L1 c1) := (hb.cell (p := ⟨n1, 3, none⟩) hn1).trans hk1
      exact ob_is ho (met_none rfl) (by go_simp) rfl
    · intro ho a w hb hd hold
      have x5 : a.tmps.getD 5 undef = .int .i64 (j : Int) := (hold 5 rfl).trans t5
      exact ob_is ho (met_none rfl) (by go_simp) rfl
    · intro ho a w hb hd hold
      have x52 : a.tmps.getD 52 undef = .slice (some ⟨b1, o1, none⟩) L1 c1 := hd 1 rfl
      have x53 : a.tmps.getD 53 undef = .int .i64 (j : Int) := hd 2 rfl
      exact ob_is ho (met_none rfl) (by go_simp) rfl
    · intro ho a w hb hd hold
      have x54 : a.tmps.getD 54 undef = .pointer (some ⟨b1, o1 + j, none⟩) := hd 3 rfl
      have hc : w.cell? ⟨b1, o1 + j, none⟩ = some (.string ⟨X.toArray⟩) := (hb.cell (p := ⟨b1, o1 + j, none⟩) hbl1).trans hc1
      exact ob_is ho (met_none rfl) (by go_simp) rfl
    · intro ho a w hb hd hold
      have x3 : a.tmps.getD 3 undef = .pointer (some ⟨n2, 0, none⟩) := (hold 3 rfl).trans t3
      exact ob_is ho (met_none rfl) (by go_simp) rfl
    · intro ho a w hb hd hold
      have x56 : a.tmps.getD 56 undef = .pointer (some ⟨n2, 3, none⟩) := hd 5 rfl
      have hc : w.cell? ⟨n2, 3, none⟩ = some (.slice (some ⟨b2, o2, none⟩) L2 c2) := (hb.cell (p := ⟨n2, 3, none⟩) hn2).trans hk2
      exact ob_is ho (met_none rfl) (by go_simp) rfl
    · intro ho a w hb hd hold
      have x5 : a.tmps.getD 5 undef = .int .i64 (j : Int) := (hold 5 rfl).trans t5
      exact ob_is ho (met_none rfl) (by go_simp) rfl
    · intro ho a w hb hd hold
      have x57 : a.tmps.getD 57 undef = .slice (some ⟨b2, o2, none⟩) L2 c2 := hd 6 rfl
      have x58 : a.tmps.getD 58 undef = .int .i64 (j : Int) := hd 7 rfl
      exact ob_is ho (met_none rfl) (by go_simp) rfl
    · intro ho a w hb hd hold
      have x59 : a.tmps.getD 59 undef = .pointer (some ⟨b2, o2 + j, none⟩) := hd 8 rfl
      have hc : w.cell? ⟨b2, o2 + j, none⟩ = some (.string ⟨Y.toArray⟩) := (hb.cell (p := ⟨b2, o2 + j, none⟩) hbl2).trans hc2
      exact ob_is ho (met_none rfl) (by go_simp) rfl
    · intro ho a w hb hd hold
      have x55 : a.tmps.getD 55 undef = .string ⟨X.toArray⟩ := hd 4 rfl
      have x60 : a.tmps.getD 60 undef = .string ⟨Y.toArray⟩ := hd 9 rfl
      exact ob_is ho (met_none rfl) (run_neqb rfl x55 x60 hq) rfl
  · intro a w8 hb hS hold hsz hdf
    exact hQ a w8 hb (hS 10 _ rfl) hold (hsz.trans hsz0) hdf

set_option maxRecDepth 100000 in
theorem same_reg11 {Q : Exit → Act → World → Prop} {a0 : Act} {w1 : World} {n1 n2 b1 o1 L1 c1 b2 o2 L2 c2 j : Nat} {X Y : D2} {q : Bool} (hsz0 : a0.tmps.size = 80)
    (t2 : a0.tmps.getD 2 undef = .pointer (some ⟨n1, 0, none⟩)) (t3 : a0.tmps.getD 3 undef = .pointer (some ⟨n2, 0, none⟩)) (t6 : a0.tmps.getD 6 undef = .int .i64 (j : Int)) (hj1 : j < L1) (hj2 : j < L2) (hL : L1 ≤ 100000000) (hn1 : n1 < w1.heap.size) (hn2 : n2 < w1.heap.size) (hbl1 : b1 < w1.heap.size) (hbl2 : b2 < w1.heap.size)
    (hk1 : w1.drew.cell? ⟨n1, 4, none⟩ = some (.slice (some ⟨b1, o1, none⟩) L1 c1)) (hk2 : w1.drew.cell? ⟨n2, 4, none⟩ = some (.slice (some ⟨b2, o2, none⟩) L2 c2)) (hc10 : w1.drew.cell? ⟨b1, o1 + j * 2, none⟩ = some (.int .i64 X.m)) (hc11 : w1.drew.cell? ⟨b1, o1 + j * 2 + 1, none⟩ = some (.string ⟨X.n.toArray⟩)) (hc20 : w1.drew.cell? ⟨b2, o2 + j * 2, none⟩ = some (.int .i64 Y.m)) (hc21 : w1.drew.cell? ⟨b2, o2 + j * 2 + 1, none⟩ = some (.string ⟨Y.n.toArray⟩)) (hq : (X.m == Y.m && X.n == Y.n) = q)
    (hQ : ∀ a w8, Below w1.heap.size w1 w8 → a.tmps.getD 79 undef = .bool (!q) → (∀ t, isDst (opsOf Tryz.f24 11) t = false → a.tmps.getD t undef = a0.tmps.getD t undef) → a.tmps.size = 80 → a.defers = a0.defers → Q .normal a w8) :
    (Code.region 11 (opsOf Tryz.f24 11) true).wp Tryz.prog Q a0 w1 := by
  have hj1' : (j : Int) < L1 := by omega
  have hj2' : (j : Int) < L2 := by omega
  have hn1 : n1 < w1.drew.heap.size := hn1
  have hn2 : n2 < w1.drew.heap.size := hn2
  have hbl1 : b1 < w1.drew.heap.size := hbl1
  have hbl2 : b2 < w1.drew.heap.size := hbl2
  refine region_free (by kernel_rfl) (fun i => ([Spec.is (.pointer (some ⟨n1, 4, none⟩)), Spec.is (.slice (some ⟨b1, o1, none⟩) L1 c1), Spec.is (.int .i64 (j : Int)), Spec.is (.pointer (some ⟨b1, o1 + j * 2, none⟩)), Spec.is (.agg #[.int .i64 X.m, .string ⟨X.n.toArray⟩]), Spec.is (.pointer (some ⟨n2, 4, none⟩)), Spec.is (.slice (some ⟨b2, o2, none⟩) L2 c2), Spec.is (.int .i64 (j : Int)), Spec.is (.pointer (some ⟨b2, o2 + j * 2, none⟩)), Spec.is (.agg #[.int .i64 Y.m, .string ⟨Y.n.toArray⟩]), Spec.is (.bool (!q))] : List Spec).getD i Spec.any) (by rw [hsz0]; kernel_rfl) (ops_all ?_) ?_
  · refine ⟨?_, ?_, ?_, ?_, ?_, ?_, ?_, ?_, ?_, ?_, ?_, trivial⟩
    · intro ho a w hb hd hold
      have x2 : a.tmps.getD 2 undef = .pointer (some ⟨n1, 0, none⟩) := (hold 2 rfl).trans t2
      exact ob_is ho (met_none rfl) (by go_simp) rfl
    · intro ho a w hb hd hold
      have x69 : a.tmps.getD 69 undef = .pointer (some ⟨n1, 4, none⟩) := hd 0 rfl
      have hc : w.cell? ⟨n1, 4, none⟩ = some (.slice (some ⟨b1, o1, none⟩) L1 c1) := (hb.cell (p := ⟨n1, 4, none⟩) hn1).trans hk1
      exact ob_is ho (met_none rfl) (by go_simp) rfl
    · intro ho a w hb hd hold
      have x6 : a.tmps.getD 6 undef = .int .i64 (j : Int) := (hold 6 rfl).trans t6
      exact ob_is ho (met_none rfl) (by go_simp) rfl
    · intro ho a w hb hd hold
      have x70 : a.tmps.getD 70 undef = .slice (some ⟨b1, o1, none⟩) L1 c1 := hd 1 rfl
      have x71 : a.tmps.getD 71 undef = .int .i64 (j : Int) := hd 2 rfl
      exact ob_is ho (met_none rfl) (by go_simp) rfl
    · intro ho a w hb hd hold
      have x72 : a.tmps.getD 72 undef = .pointer (some ⟨b1, o1 + j * 2, none⟩) := hd 3 rfl
      have hc : w.cell? ⟨b1, o1 + j * 2, none⟩ = some (.int .i64 X.m) := (hb.cell (p := ⟨b1, o1 + j * 2, none⟩) hbl1).trans hc10
      have hc' : w.cell? ⟨b1, o1 + j * 2 + 1, none⟩ = some (.string ⟨X.n.toArray⟩) := (hb.cell (p := ⟨b1, o1 + j * 2 + 1, none⟩) hbl1).trans hc11
      exact ob_is ho (met_none rfl) (by go_simp) rfl
    · intro ho a w hb hd hold
      have x3 : a.tmps.getD 3 undef = .pointer (some ⟨n2, 0, none⟩) := (hold 3 rfl).trans t3
      exact ob_is ho (met_none rfl) (by go_simp) rfl
    · intro ho a w hb hd hold
      have x74 : a.tmps.getD 74 undef = .pointer (some ⟨n2, 4, none⟩) := hd 5 rfl
      have hc : w.cell? ⟨n2, 4, none⟩ = some (.slice (some ⟨b2, o2, none⟩) L2 c2) := (hb.cell (p := ⟨n2, 4, none⟩) hn2).trans hk2
      exact ob_is ho (met_none rfl) (by go_simp) rfl
    · intro ho a w hb hd hold
      have x6 : a.tmps.getD 6 undef = .int .i64 (j : Int) := (hold 6 rfl).trans t6
      exact ob_is ho (met_none rfl) (by go_simp) rfl
    · intro ho a w hb hd hold
      have x75 : a.tmps.getD 75 undef = .slice (some ⟨b2, o2, none⟩) L2 c2 := hd 6 rfl
      have x76 : a.tmps.getD 76 undef = .int .i64 (j : Int) := hd 7 rfl
      exact ob_is ho (met_none rfl) (by go_simp) rfl
    · intro ho a w hb hd hold
      have x77 : a.tmps.getD 77 undef = .pointer (some ⟨b2, o2 + j * 2, none⟩) := hd 8 rfl
      have hc : w.cell? ⟨b2, o2 + j * 2, none⟩ = some (.int .i64 Y.m) := (hb.cell (p := ⟨b2, o2 + j * 2, none⟩) hbl2).trans hc20
      have hc' : w.cell? ⟨b2, o2 + j * 2 + 1, none⟩ = some (.string ⟨Y.n.toArray⟩) := (hb.cell (p := ⟨b2, o2 + j * 2 + 1, none⟩) hbl2).trans hc21
      exact ob_is ho (met_none rfl) (by go_simp) rfl
    · intro ho a w hb hd hold
      have x73 : a.tmps.getD 73 undef = .agg #[.int .i64 X.m, .string ⟨X.n.toArray⟩] := hd 4 rfl
      have x78 : a.tmps.getD 78 undef = .agg #[.int .i64 Y.m, .string ⟨Y.n.toArray⟩] := hd 9 rfl
      exact ob_is ho (met_none rfl) (run_neqp rfl x73 x78 hq) rfl
  · intro a w8 hb hS hold hsz hdf
    exact hQ a w8 hb (hS 10 _ rfl) hold (hsz.trans hsz0) hdf
end Go.Proofs.YtcjbgchhalilnaaGreatDoor
