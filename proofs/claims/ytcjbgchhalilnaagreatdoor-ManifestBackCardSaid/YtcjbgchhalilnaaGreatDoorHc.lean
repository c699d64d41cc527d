/- The references' Strings and Same: the walks. Printed by man_cmp.py. -/
import Derived.Test.YtcjbgchhalilnaaGreatDoorFh
import Derived.Test.YtcjbgchhalilnaaGreatDoorFb
namespace Go.Proofs.YtcjbgchhalilnaaGreatDoor
open Go Go.RowKit Go.Lib
set_option linter.unusedVariables false

theorem run_neqb {a : Act} {w : World} {o : Oper} {t u : Tmp} {X Y : List UInt8} {b : Bool} (h : o.op = .binOp .neq 9 (.tmp t) (.tmp u) 9) (hx : a.tmps.getD t undef = .string ⟨X.toArray⟩) (hy : a.tmps.getD u undef = .string ⟨Y.toArray⟩) (hb : (X == Y) = b) : (execOp a.eval o).run Tryz.prog w = .ok (.value (.bool (!b))) w := by
  have hx' : (a.tmps[t]?).getD undef = .string ⟨X.toArray⟩ := by simpa using hx
  have hy' : (a.tmps[u]?).getD undef = .string ⟨Y.toArray⟩ := by simpa using hy
  subst hb
  unfold execOp
  simp [h, hx', hy', go_sem]

set_option maxRecDepth 100000 in
theorem strs_reg {Q : Exit → Act → World → Prop} {a0 : Act} {w1 : World} {b1 o1 L1 c1 b2 o2 L2 c2 j : Nat} {X Y : List UInt8} {q : Bool} (hsz0 : a0.tmps.size = 26)
    (t0 : a0.tmps.getD 0 undef = .slice (some ⟨b1, o1, none⟩) L1 c1) (t1 : a0.tmps.getD 1 undef = .slice (some ⟨b2, o2, none⟩) L2 c2) (t5 : a0.tmps.getD 5 undef = .int .i64 (j : Int)) (hj1 : j < L1) (hj2 : j < L2) (hL : L1 ≤ 100000000) (hbl1 : b1 < w1.heap.size) (hbl2 : b2 < w1.heap.size)
    (hc1 : w1.drew.cell? ⟨b1, o1 + j, none⟩ = some (.string ⟨X.toArray⟩)) (hc2 : w1.drew.cell? ⟨b2, o2 + j, none⟩ = some (.string ⟨Y.toArray⟩)) (hq : (X == Y) = q)
    (hQ : ∀ a w8, Below w1.heap.size w1 w8 → a.tmps.getD 25 undef = .bool (!q) → (∀ t, isDst (opsOf Tryz.f11 6) t = false → a.tmps.getD t undef = a0.tmps.getD t undef) → a.tmps.size = 26 → a.defers = a0.defers → Q .normal a w8) :
    (Code.region 6 (opsOf Tryz.f11 6) true).wp Tryz.prog Q a0 w1 := by
  have hj1' : (j : Int) < L1 := by omega
  have hj2' : (j : Int) < L2 := by omega
  have hbl1 : b1 < w1.drew.heap.size := hbl1
  have hbl2 : b2 < w1.drew.heap.size := hbl2
  refine region_free (by kernel_rfl) (fun i => ([Spec.is (.slice (some ⟨b1, o1, none⟩) L1 c1), Spec.is (.int .i64 (j : Int)), Spec.is (.pointer (some ⟨b1, o1 + j, none⟩)), Spec.is (.string ⟨X.toArray⟩), Spec.is (.slice (some ⟨b2, o2, none⟩) L2 c2), Spec.is (.int .i64 (j : Int)), Spec.is (.pointer (some ⟨b2, o2 + j, none⟩)), Spec.is (.string ⟨Y.toArray⟩), Spec.is (.bool (!q))] : List Spec).getD i Spec.any) (by rw [hsz0]; kernel_rfl) (ops_all ?_) ?_
  · refine ⟨?_, ?_, ?_, ?_, ?_, ?_, ?_, ?_, ?_, trivial⟩
    · intro ho a w hb hd hold
      have x0 : a.tmps.getD 0 undef = .slice (some ⟨b1, o1, none⟩) L1 c1 := (hold 0 rfl).trans t0
      exact ob_is ho (met_none rfl) (by go_simp) rfl
    · intro ho a w hb hd hold
      have x5 : a.tmps.getD 5 undef = .int .i64 (j : Int) := (hold 5 rfl).trans t5
      exact ob_is ho (met_none rfl) (by go_simp) rfl
    · intro ho a w hb hd hold
      have x17 : a.tmps.getD 17 undef = .slice (some ⟨b1, o1, none⟩) L1 c1 := hd 0 rfl
      have x18 : a.tmps.getD 18 undef = .int .i64 (j : Int) := hd 1 rfl
      exact ob_is ho (met_none rfl) (by go_simp) rfl
    · intro ho a w hb hd hold
      have x19 : a.tmps.getD 19 undef = .pointer (some ⟨b1, o1 + j, none⟩) := hd 2 rfl
      have hc : w.cell? ⟨b1, o1 + j, none⟩ = some (.string ⟨X.toArray⟩) := (hb.cell (p := ⟨b1, o1 + j, none⟩) hbl1).trans hc1
      exact ob_is ho (met_none rfl) (by go_simp) rfl
    · intro ho a w hb hd hold
      have x1 : a.tmps.getD 1 undef = .slice (some ⟨b2, o2, none⟩) L2 c2 := (hold 1 rfl).trans t1
      exact ob_is ho (met_none rfl) (by go_simp) rfl
    · intro ho a w hb hd hold
      have x5 : a.tmps.getD 5 undef = .int .i64 (j : Int) := (hold 5 rfl).trans t5
      exact ob_is ho (met_none rfl) (by go_simp) rfl
    · intro ho a w hb hd hold
      have x21 : a.tmps.getD 21 undef = .slice (some ⟨b2, o2, none⟩) L2 c2 := hd 4 rfl
      have x22 : a.tmps.getD 22 undef = .int .i64 (j : Int) := hd 5 rfl
      exact ob_is ho (met_none rfl) (by go_simp) rfl
    · intro ho a w hb hd hold
      have x23 : a.tmps.getD 23 undef = .pointer (some ⟨b2, o2 + j, none⟩) := hd 6 rfl
      have hc : w.cell? ⟨b2, o2 + j, none⟩ = some (.string ⟨Y.toArray⟩) := (hb.cell (p := ⟨b2, o2 + j, none⟩) hbl2).trans hc2
      exact ob_is ho (met_none rfl) (by go_simp) rfl
    · intro ho a w hb hd hold
      have x20 : a.tmps.getD 20 undef = .string ⟨X.toArray⟩ := hd 3 rfl
      have x24 : a.tmps.getD 24 undef = .string ⟨Y.toArray⟩ := hd 7 rfl
      exact ob_is ho (met_none rfl) (run_neqb rfl x20 x24 hq) rfl
  · intro a w8 hb hS hold hsz hdf
    exact hQ a w8 hb (hS 8 _ rfl) hold (hsz.trans hsz0) hdf

set_option maxRecDepth 100000 in
theorem strs_any (v1 v2 : Value) (l1 l2 : List (List UInt8)) (w : World) (h1 : l1.length ≤ 1000000) (hr1 : Reads w (encStr) v1 l1) (hr2 : Reads w (encStr) v2 l2) :
    Calls Tryz.prog 11 #[v1, v2] w fun e w' => e = .returned (.bool (l1 == l2)) ∧ Below w.heap.size w w' := by
  obtain ⟨a1, c1, rfl⟩ := hr1.slice
  obtain ⟨a2, c2, rfl⟩ := hr2.slice
  have h1' : (l1.length : Int) ≤ 1000000 := by omega
  by_cases hl : l1.length = l2.length
  · have hl' : (l1.length : Int) = (l2.length : Int) := by omega
    obtain ⟨L, hL⟩ : ∃ L, l2.length = L := ⟨_, rfl⟩
    have hL1 : l1.length = L := hl.trans hL
    rw [hL1] at hr1 h1 h1'
    rw [hL] at hr2
    rw [hL1, hL]
    clear hl'
    have HL1 := Lib.hid hL1
    have HL := Lib.hid hL
    clear hL1 hL hl
    go_enter Tryz.func11, Tryz.ntmps11
    go_wp2_with fail
    go_loopw [5] (fun i wr => ∃ j : Nat, j ≤ L ∧ i = .int .i64 (j : Int) ∧ l1.take j = l2.take j ∧ Below w.heap.size w wr) (fun i _ => L - (intOf i).toNat)
    case atStart => exact ⟨0, Nat.zero_le _, rfl, rfl, Below.refl _ _⟩
    case round =>
      obtain ⟨j, hj, rfl, heq, hb⟩ := hrel
      by_cases hlt : j < L
      · have hlt1 : j < l1.length := by rw [HL1.out]; exact hlt
        have hlt2 : j < l2.length := by rw [HL.out]; exact hlt
        rcases hr1.below hb (Nat.le_refl _) with ⟨h, _⟩ | ⟨b1, o1, cp1, hv1, -, -, g13, g14⟩
        · rw [h] at hlt1; simp at hlt1
        rcases hr2.below hb (Nat.le_refl _) with ⟨h, _⟩ | ⟨b2, o2, cp2, hv2, -, -, g23, g24⟩
        · rw [h] at hlt2; simp at hlt2
        simp only [Value.slice.injEq] at hv1 hv2
        obtain ⟨rfl, hx1, rfl⟩ := hv1
        obtain ⟨rfl, hx2, rfl⟩ := hv2
        clear hx1 hx2
        have k1 := g14 j hlt1
        have k2 := g24 j hlt2
        have HS : Hid (l1.take (j + 1) = l1.take j ++ [l1[j]] ∧ l2.take (j + 1) = l2.take j ++ [l2[j]]) := ⟨List.take_succ_eq_append_getElem hlt1, List.take_succ_eq_append_getElem hlt2⟩
        have HD : Hid (l1[j] ≠ l2[j] → (l1 == l2) = false) := by
          intro hne
          rw [beq_eq_false_iff_ne]
          rintro rfl
          exact hne rfl
        generalize l1[j] = X at k1 HS HD
        generalize l2[j] = Y at k2 HS HD
        clear g14 g24
        by_cases hXY : X = Y
        · have hq : (X == Y) = true := by simp [hXY]
          go_wp2_with fail
          refine strs_reg (b1 := b1) (o1 := o1) (L1 := L) (c1 := c1) (b2 := b2) (o2 := o2) (L2 := L) (c2 := c2) (j := j) (X := X) (Y := Y) (q := true) rfl rfl rfl rfl hlt hlt (by omega) g13 g23 k1 k2 hq ?_
          intro a w9 hb9 x hold hsz hdf
          obtain ⟨gg, hgg⟩ : ∃ gg : Nat → Value, ∀ t, a.tmps.getD t undef = gg t := ⟨_, fun _ => rfl⟩
          have hfr := frame_eq 17 26 gg hsz hdf (by decide) (of_decide_eq_true (by kernel_rfl)) (fun t ht => hold t (dst_out (lo := 17) (hi := 26) (by kernel_rfl) ht)) (fun t _ _ => hgg t)
          rw [hgg] at x
          clear hgg hold hsz hdf
          subst hfr
          simp only [List.take_succ_cons, List.take_zero, List.drop_succ_cons, List.drop_zero, List.range', List.map_cons, List.map_nil, List.cons_append, List.nil_append, Nat.reduceAdd, Nat.reduceSub]
          generalize gg 25 = y at x
          subst x
          go_wp2_with fail
          go_roundw
          case rel => exact ⟨j + 1, hlt, by go_num, by rw [HS.out.1, HS.out.2, heq, hXY], hb.trans (hb9.mono hb.size)⟩
          case measure => simp [intOf]; omega
        · have hq : (X == Y) = false := by simp [hXY]
          go_wp2_with fail
          refine strs_reg (b1 := b1) (o1 := o1) (L1 := L) (c1 := c1) (b2 := b2) (o2 := o2) (L2 := L) (c2 := c2) (j := j) (X := X) (Y := Y) (q := false) rfl rfl rfl rfl hlt hlt (by omega) g13 g23 k1 k2 hq ?_
          intro a w9 hb9 x hold hsz hdf
          obtain ⟨gg, hgg⟩ : ∃ gg : Nat → Value, ∀ t, a.tmps.getD t undef = gg t := ⟨_, fun _ => rfl⟩
          have hfr := frame_eq 17 26 gg hsz hdf (by decide) (of_decide_eq_true (by kernel_rfl)) (fun t ht => hold t (dst_out (lo := 17) (hi := 26) (by kernel_rfl) ht)) (fun t _ _ => hgg t)
          rw [hgg] at x
          clear hgg hold hsz hdf
          subst hfr
          simp only [List.take_succ_cons, List.take_zero, List.drop_succ_cons, List.drop_zero, List.range', List.map_cons, List.map_nil, List.cons_append, List.nil_append, Nat.reduceAdd, Nat.reduceSub]
          generalize gg 25 = y at x
          subst x
          have hF := HD.out hXY
          go_wp2_with fail
          go_ret
          exact ⟨by rw [hF]; rfl, hb.trans (hb9.mono hb.size)⟩
      · have hjl : j = L := by omega
        subst hjl
        have hE : l1 = l2 := by
          rw [List.take_of_length_le (by rw [HL1.out]; exact Nat.le_refl _), List.take_of_length_le (by rw [HL.out]; exact Nat.le_refl _)] at heq
          exact heq
        go_wp2_with fail
        go_ret
        exact ⟨by rw [hE, beq_self_eq_true]; rfl, hb⟩
  · have hl' : ¬ (l1.length : Int) = (l2.length : Int) := by omega
    have hF : (l1 == l2) = false := by
      rw [beq_eq_false_iff_ne]
      exact fun e => hl (congrArg _ e)
    go_enter Tryz.func11, Tryz.ntmps11
    go_wp2_with fail
    go_ret
    exact ⟨by rw [hF]; rfl, Below.refl _ _⟩

set_option maxRecDepth 100000 in
theorem ints_reg {Q : Exit → Act → World → Prop} {a0 : Act} {w1 : World} {b1 o1 L1 c1 b2 o2 L2 c2 j : Nat} {X Y : Int} {q : Bool} (hsz0 : a0.tmps.size = 26)
    (t0 : a0.tmps.getD 0 undef = .slice (some ⟨b1, o1, none⟩) L1 c1) (t1 : a0.tmps.getD 1 undef = .slice (some ⟨b2, o2, none⟩) L2 c2) (t5 : a0.tmps.getD 5 undef = .int .i64 (j : Int)) (hj1 : j < L1) (hj2 : j < L2) (hL : L1 ≤ 100000000) (hbl1 : b1 < w1.heap.size) (hbl2 : b2 < w1.heap.size)
    (hc1 : w1.drew.cell? ⟨b1, o1 + j, none⟩ = some (.int .i64 X)) (hc2 : w1.drew.cell? ⟨b2, o2 + j, none⟩ = some (.int .i64 Y)) (hq : (X == Y) = q)
    (hQ : ∀ a w8, Below w1.heap.size w1 w8 → a.tmps.getD 25 undef = .bool (!q) → (∀ t, isDst (opsOf Tryz.f16 6) t = false → a.tmps.getD t undef = a0.tmps.getD t undef) → a.tmps.size = 26 → a.defers = a0.defers → Q .normal a w8) :
    (Code.region 6 (opsOf Tryz.f16 6) true).wp Tryz.prog Q a0 w1 := by
  have hj1' : (j : Int) < L1 := by omega
  have hj2' : (j : Int) < L2 := by omega
  have hbl1 : b1 < w1.drew.heap.size := hbl1
  have hbl2 : b2 < w1.drew.heap.size := hbl2
  refine region_free (by kernel_rfl) (fun i => ([Spec.is (.slice (some ⟨b1, o1, none⟩) L1 c1), Spec.is (.int .i64 (j : Int)), Spec.is (.pointer (some ⟨b1, o1 + j, none⟩)), Spec.is (.int .i64 X), Spec.is (.slice (some ⟨b2, o2, none⟩) L2 c2), Spec.is (.int .i64 (j : Int)), Spec.is (.pointer (some ⟨b2, o2 + j, none⟩)), Spec.is (.int .i64 Y), Spec.is (.bool (!q))] : List Spec).getD i Spec.any) (by rw [hsz0]; kernel_rfl) (ops_all ?_) ?_
  · refine ⟨?_, ?_, ?_, ?_, ?_, ?_, ?_, ?_, ?_, trivial⟩
    · intro ho a w hb hd hold
      have x0 : a.tmps.getD 0 undef = .slice (some ⟨b1, o1, none⟩) L1 c1 := (hold 0 rfl).trans t0
      exact ob_is ho (met_none rfl) (by go_simp) rfl
    · intro ho a w hb hd hold
      have x5 : a.tmps.getD 5 undef = .int .i64 (j : Int) := (hold 5 rfl).trans t5
      exact ob_is ho (met_none rfl) (by go_simp) rfl
    · intro ho a w hb hd hold
      have x17 : a.tmps.getD 17 undef = .slice (some ⟨b1, o1, none⟩) L1 c1 := hd 0 rfl
      have x18 : a.tmps.getD 18 undef = .int .i64 (j : Int) := hd 1 rfl
      exact ob_is ho (met_none rfl) (by go_simp) rfl
    · intro ho a w hb hd hold
      have x19 : a.tmps.getD 19 undef = .pointer (some ⟨b1, o1 + j, none⟩) := hd 2 rfl
      have hc : w.cell? ⟨b1, o1 + j, none⟩ = some (.int .i64 X) := (hb.cell (p := ⟨b1, o1 + j, none⟩) hbl1).trans hc1
      exact ob_is ho (met_none rfl) (by go_simp) rfl
    · intro ho a w hb hd hold
      have x1 : a.tmps.getD 1 undef = .slice (some ⟨b2, o2, none⟩) L2 c2 := (hold 1 rfl).trans t1
      exact ob_is ho (met_none rfl) (by go_simp) rfl
    · intro ho a w hb hd hold
      have x5 : a.tmps.getD 5 undef = .int .i64 (j : Int) := (hold 5 rfl).trans t5
      exact ob_is ho (met_none rfl) (by go_simp) rfl
    · intro ho a w hb hd hold
      have x21 : a.tmps.getD 21 undef = .slice (some ⟨b2, o2, none⟩) L2 c2 := hd 4 rfl
      have x22 : a.tmps.getD 22 undef = .int .i64 (j : Int) := hd 5 rfl
      exact ob_is ho (met_none rfl) (by go_simp) rfl
    · intro ho a w hb hd hold
      have x23 : a.tmps.getD 23 undef = .pointer (some ⟨b2, o2 + j, none⟩) := hd 6 rfl
      have hc : w.cell? ⟨b2, o2 + j, none⟩ = some (.int .i64 Y) := (hb.cell (p := ⟨b2, o2 + j, none⟩) hbl2).trans hc2
      exact ob_is ho (met_none rfl) (by go_simp) rfl
    · intro ho a w hb hd hold
      have x20 : a.tmps.getD 20 undef = .int .i64 X := hd 3 rfl
      have x24 : a.tmps.getD 24 undef = .int .i64 Y := hd 7 rfl
      have he : (X != Y) = (!q) := by rw [← hq]; rfl
      exact ob_is ho (met_none rfl) (by go_simp) rfl
  · intro a w8 hb hS hold hsz hdf
    exact hQ a w8 hb (hS 8 _ rfl) hold (hsz.trans hsz0) hdf

set_option maxRecDepth 100000 in
theorem ints_any (v1 v2 : Value) (l1 l2 : List (Int)) (w : World) (h1 : l1.length ≤ 1000000) (hr1 : Reads w (Value.int .i64) v1 l1) (hr2 : Reads w (Value.int .i64) v2 l2) :
    Calls Tryz.prog 16 #[v1, v2] w fun e w' => e = .returned (.bool (l1 == l2)) ∧ Below w.heap.size w w' := by
  obtain ⟨a1, c1, rfl⟩ := hr1.slice
  obtain ⟨a2, c2, rfl⟩ := hr2.slice
  have h1' : (l1.length : Int) ≤ 1000000 := by omega
  by_cases hl : l1.length = l2.length
  · have hl' : (l1.length : Int) = (l2.length : Int) := by omega
    obtain ⟨L, hL⟩ : ∃ L, l2.length = L := ⟨_, rfl⟩
    have hL1 : l1.length = L := hl.trans hL
    rw [hL1] at hr1 h1 h1'
    rw [hL] at hr2
    rw [hL1, hL]
    clear hl'
    have HL1 := Lib.hid hL1
    have HL := Lib.hid hL
    clear hL1 hL hl
    go_enter Tryz.func16, Tryz.ntmps16
    go_wp2_with fail
    go_loopw [5] (fun i wr => ∃ j : Nat, j ≤ L ∧ i = .int .i64 (j : Int) ∧ l1.take j = l2.take j ∧ Below w.heap.size w wr) (fun i _ => L - (intOf i).toNat)
    case atStart => exact ⟨0, Nat.zero_le _, rfl, rfl, Below.refl _ _⟩
    case round =>
      obtain ⟨j, hj, rfl, heq, hb⟩ := hrel
      by_cases hlt : j < L
      · have hlt1 : j < l1.length := by rw [HL1.out]; exact hlt
        have hlt2 : j < l2.length := by rw [HL.out]; exact hlt
        rcases hr1.below hb (Nat.le_refl _) with ⟨h, _⟩ | ⟨b1, o1, cp1, hv1, -, -, g13, g14⟩
        · rw [h] at hlt1; simp at hlt1
        rcases hr2.below hb (Nat.le_refl _) with ⟨h, _⟩ | ⟨b2, o2, cp2, hv2, -, -, g23, g24⟩
        · rw [h] at hlt2; simp at hlt2
        simp only [Value.slice.injEq] at hv1 hv2
        obtain ⟨rfl, hx1, rfl⟩ := hv1
        obtain ⟨rfl, hx2, rfl⟩ := hv2
        clear hx1 hx2
        have k1 := g14 j hlt1
        have k2 := g24 j hlt2
        have HS : Hid (l1.take (j + 1) = l1.take j ++ [l1[j]] ∧ l2.take (j + 1) = l2.take j ++ [l2[j]]) := ⟨List.take_succ_eq_append_getElem hlt1, List.take_succ_eq_append_getElem hlt2⟩
        have HD : Hid (l1[j] ≠ l2[j] → (l1 == l2) = false) := by
          intro hne
          rw [beq_eq_false_iff_ne]
          rintro rfl
          exact hne rfl
        generalize l1[j] = X at k1 HS HD
        generalize l2[j] = Y at k2 HS HD
        clear g14 g24
        by_cases hXY : X = Y
        · have hq : (X == Y) = true := by simp [hXY]
          go_wp2_with fail
          refine ints_reg (b1 := b1) (o1 := o1) (L1 := L) (c1 := c1) (b2 := b2) (o2 := o2) (L2 := L) (c2 := c2) (j := j) (X := X) (Y := Y) (q := true) rfl rfl rfl rfl hlt hlt (by omega) g13 g23 k1 k2 hq ?_
          intro a w9 hb9 x hold hsz hdf
          obtain ⟨gg, hgg⟩ : ∃ gg : Nat → Value, ∀ t, a.tmps.getD t undef = gg t := ⟨_, fun _ => rfl⟩
          have hfr := frame_eq 17 26 gg hsz hdf (by decide) (of_decide_eq_true (by kernel_rfl)) (fun t ht => hold t (dst_out (lo := 17) (hi := 26) (by kernel_rfl) ht)) (fun t _ _ => hgg t)
          rw [hgg] at x
          clear hgg hold hsz hdf
          subst hfr
          simp only [List.take_succ_cons, List.take_zero, List.drop_succ_cons, List.drop_zero, List.range', List.map_cons, List.map_nil, List.cons_append, List.nil_append, Nat.reduceAdd, Nat.reduceSub]
          generalize gg 25 = y at x
          subst x
          go_wp2_with fail
          go_roundw
          case rel => exact ⟨j + 1, hlt, by go_num, by rw [HS.out.1, HS.out.2, heq, hXY], hb.trans (hb9.mono hb.size)⟩
          case measure => simp [intOf]; omega
        · have hq : (X == Y) = false := by simp [hXY]
          go_wp2_with fail
          refine ints_reg (b1 := b1) (o1 := o1) (L1 := L) (c1 := c1) (b2 := b2) (o2 := o2) (L2 := L) (c2 := c2) (j := j) (X := X) (Y := Y) (q := false) rfl rfl rfl rfl hlt hlt (by omega) g13 g23 k1 k2 hq ?_
          intro a w9 hb9 x hold hsz hdf
          obtain ⟨gg, hgg⟩ : ∃ gg : Nat → Value, ∀ t, a.tmps.getD t undef = gg t := ⟨_, fun _ => rfl⟩
          have hfr := frame_eq 17 26 gg hsz hdf (by decide) (of_decide_eq_true (by kernel_rfl)) (fun t ht => hold t (dst_out (lo := 17) (hi := 26) (by kernel_rfl) ht)) (fun t _ _ => hgg t)
          rw [hgg] at x
          clear hgg hold hsz hdf
          subst hfr
          simp only [List.take_succ_cons, List.take_zero, List.drop_succ_cons, List.drop_zero, List.range', List.map_cons, List.map_nil, List.cons_append, List.nil_append, Nat.reduceAdd, Nat.reduceSub]
          generalize gg 25 = y at x
          subst x
          have hF := HD.out hXY
          go_wp2_with fail
          go_ret
          exact ⟨by rw [hF]; rfl, hb.trans (hb9.mono hb.size)⟩
      · have hjl : j = L := by omega
        subst hjl
        have hE : l1 = l2 := by
          rw [List.take_of_length_le (by rw [HL1.out]; exact Nat.le_refl _), List.take_of_length_le (by rw [HL.out]; exact Nat.le_refl _)] at heq
          exact heq
        go_wp2_with fail
        go_ret
        exact ⟨by rw [hE, beq_self_eq_true]; rfl, hb⟩
  · have hl' : ¬ (l1.length : Int) = (l2.length : Int) := by omega
    have hF : (l1 == l2) = false := by
      rw [beq_eq_false_iff_ne]
      exact fun e => hl (congrArg _ e)
    go_enter Tryz.func16, Tryz.ntmps16
    go_wp2_with fail
    go_ret
    exact ⟨by rw [hF]; rfl, Below.refl _ _⟩
end Go.Proofs.YtcjbgchhalilnaaGreatDoor
