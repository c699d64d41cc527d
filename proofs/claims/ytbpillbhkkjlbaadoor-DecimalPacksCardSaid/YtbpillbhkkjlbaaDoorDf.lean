/- The value that a mantissa and an exponent tell: the walks of float.Clean and of the reference's. -/
import Derived.Test.YtbpillbhkkjlbaaDoorDe
import Derived.WalkMore
namespace Go.Proofs.YtbpillbhkkjlbaaDoor
open Go Go.RowKit

/-- Noughts at the end are stripped. -/
def strip : Nat → Int → Int → Int × Int
  | 0, m, e => (m, e)
  | n + 1, m, e => if m % 10 = 0 then strip n (m / 10) (e + 1) else (m, e)

instance (a : V3) : Decidable (RightV a) := by unfold RightV; exact inferInstance
def zeroV : V3 := ⟨0, 0, 0⟩
def cleanV (m e : Int) : Option V3 :=
  if e < -1000 ∨ 1000 < e then none else if m = 0 then some zeroV else
    if RightV ⟨(strip 19 m e).1, (strip 19 m e).2, 0⟩ then some ⟨(strip 19 m e).1, (strip 19 m e).2, 0⟩ else none

def CleanEnd (r : Option V3) (w : World) (e : Ending) (w' : World) : Prop := e = .returned (.tuple #[vv (r.getD zeroV), .bool r.isSome]) ∧ Below w.heap.size w w'

def StripRel (m e : Int) (w : World) (x y : Value) (wr : World) : Prop :=
  ∃ (n : Nat) (m' e' : Int), n ≤ 19 ∧ x = .int .i64 m' ∧ y = .int .i64 e' ∧ Hid (e' = e + (19 - (n : Int))) ∧ -1000 ≤ e' ∧ e' ≤ 1019 ∧ m' ≠ 0 ∧ Hid (m'.natAbs < 10 ^ n) ∧ (-9223372036854775808 ≤ m' ∧ m' ≤ 9223372036854775807) ∧ Hid (strip 19 m e = strip n m' e') ∧ wr = w

theorem heap_alloc (w : World) (cs : Array Value) (t : TypeId) : (w.alloc (.cells cs t)).heap[w.heap.size]? = some (.cells cs t) := by
  unfold World.alloc
  simp

theorem tdiv10 {m : Int} (h : m % 10 = 0) : m.tdiv 10 = m / 10 := by
  rw [Int.tdiv_eq_ediv_of_dvd (Int.dvd_of_emod_eq_zero h)]


set_option maxRecDepth 100000 in
theorem Clean_any (m e : Int) (w : World) (hm : I64 m) (he : I64 e) : Calls Tryd.prog 22 #[.int .i64 m, .int .i64 e] w (CleanEnd (cleanV m e) w) := by
  simp only [I64] at hm he
  have hbz : Below w.heap.size w (w.alloc (.cells #[.int .i64 0, .int .i64 0, .int .i64 0] 36)) := (Below.refl _ _).alloc (Nat.le_refl _) _
  by_cases h1 : e < -1000
  · have hcv : cleanV m e = none := if_pos (.inl h1)
    go_enter Tryd.func22, Tryd.ntmps22
    go_wp2_with fail
    refine bodyPost_ret (v := .tuple #[vv zeroV, .bool false]) (by simp [results, Tryd.results22, go_sem, vv, zeroV]) rfl ⟨by first | rfl | (rw [hcv]; rfl), hbz⟩
  by_cases h2 : 1000 < e
  · have hcv : cleanV m e = none := if_pos (.inr h2)
    go_enter Tryd.func22, Tryd.ntmps22
    go_wp2_with fail
    refine bodyPost_ret (v := .tuple #[vv zeroV, .bool false]) (by simp [results, Tryd.results22, go_sem, vv, zeroV]) rfl ⟨by first | rfl | (rw [hcv]; rfl), hbz⟩
  by_cases h0 : m = 0
  · subst h0
    have hcv : cleanV 0 e = some zeroV := by rw [cleanV, if_neg (by omega), if_pos rfl]
    go_enter Tryd.func22, Tryd.ntmps22
    go_wp2_with fail
    refine bodyPost_ret (v := .tuple #[vv zeroV, .bool true]) (by simp [results, Tryd.results22, go_sem, vv, zeroV]) rfl ⟨by first | rfl | (rw [hcv]; rfl), hbz⟩
  have hcv : cleanV m e = if RightV ⟨(strip 19 m e).1, (strip 19 m e).2, 0⟩ then some ⟨(strip 19 m e).1, (strip 19 m e).2, 0⟩ else none := by rw [cleanV, if_neg (by omega), if_neg h0]
  have HC := Lib.hid hcv
  clear hcv
  go_enter Tryd.func22, Tryd.ntmps22
  go_wp2_with fail
  generalize hW : w.alloc (.cells #[.int .i64 0, .int .i64 0, .int .i64 0] 36) = W at hbz ⊢
  have hz : CellsAt (w.alloc (.cells #[.int .i64 0, .int .i64 0, .int .i64 0] 36)) w.heap.size 0 zeroV := cells_alloc w 36 zeroV
  rw [hW] at hz
  have hfz : (w.alloc (.cells #[.int .i64 0, .int .i64 0, .int .i64 0] 36)).heap[w.heap.size]? = some (.cells #[.int .i64 0, .int .i64 0, .int .i64 0] 36) := heap_alloc _ _ _
  rw [hW] at hfz
  go_loopw [0, 1] (fun x y wr => StripRel m e W x y wr) (fun x _ _ => (intOf x).natAbs)
  case atStart => exact ⟨19, m, e, Nat.le_refl _, rfl, rfl, Lib.hid (by omega), by omega, by omega, h0, Lib.hid (by omega), by omega, Lib.hid rfl, rfl⟩
  case round =>
    obtain ⟨n, m', e', hn, rfl, rfl, he', he1, he2, hm0, hma, hmb, hst, rfl⟩ := hrel
    by_cases hr : m' % 10 = 0
    · have hb : (m'.tmod 10 == 0) = true := by rw [beq_iff_eq, tmod10]; exact hr
      have ht := tdiv10 hr
      obtain ⟨q, hq⟩ : ∃ q, m' / 10 = q := ⟨_, rfl⟩
      have hq0 : q ≠ 0 := by omega
      have hqa : q.natAbs * 10 = m'.natAbs := by omega
      have hn0 : n ≠ 0 := by
        intro h
        have := hma.out
        rw [h] at this
        omega
      obtain ⟨n', rfl⟩ : ∃ n', n = n' + 1 := ⟨n - 1, by omega⟩
      have hqb : Hid (q.natAbs < 10 ^ n') := Lib.hid (by have := hma.out; rw [Nat.pow_succ] at this; omega)
      have hsq : Hid (strip 19 m e = strip n' q (e' + 1)) := Lib.hid (by rw [hst.out, strip, if_pos hr, hq])
      have heq : Hid (e' + 1 = e + (19 - (n' : Int))) := Lib.hid (by have := he'.out; omega)
      have hltm : q.natAbs < m'.natAbs := by omega
      rw [hq] at ht
      have he3 : e' ≤ 1018 := by have := he'.out; omega
      clear hq hr he'
      go_wp2_with fail
      go_roundw
      case rel => exact ⟨n', q, e' + 1, by omega, rfl, by go_num, heq, by omega, by omega, hq0, hqb, by omega, hsq, rfl⟩
      case measure => simp only [intOf]; exact hltm
    · have hb : (m'.tmod 10 == 0) = false := by rw [beq_eq_false_iff_ne, Ne, tmod10]; exact hr
      have hsn : strip n m' e' = (m', e') := by
        cases n with
        | zero => rfl
        | succ n => rw [strip, if_neg hr]
      have hsq : strip 19 m e = (m', e') := by rw [hst.out, hsn]
      have hcv := HC.out
      rw [hsq] at hcv
      have HC2 := Lib.hid hcv
      clear HC hcv hsn hsq hst
      have hR := Right_any ⟨m', e', 0⟩ (wr.alloc (.cells #[.int .i64 m', .int .i64 e', .int .i64 0] 36)) ⟨by simp only [I64]; omega, by simp only [I64]; omega, by simp only [I64]; omega⟩
      unfold vv at hR
      go_wp2_with fail
      refine hR.mono ?_
      rintro e2 w2 ⟨t, rfl, ht, hb2⟩
      clear hR
      have hB2 : Below wr.heap.size wr w2 := ((Below.refl wr.heap.size wr).alloc (Nat.le_refl _) _).trans (hb2.mono (by simp))
      have hbr : Below w.heap.size w w2 := hbz.trans (hB2.mono hbz.size)
      have hpr : w.heap.size < wr.heap.size := by rw [← hW]; simp
      have hf0 : w2.frozen? ⟨w.heap.size, 0, none⟩ = false := (hB2.frozen (p := ⟨w.heap.size, 0, none⟩) hpr).trans (frozen_of_row wr w.heap.size 0 _ _ hfz)
      have hf1 : w2.frozen? ⟨w.heap.size, 1, none⟩ = false := (hB2.frozen (p := ⟨w.heap.size, 1, none⟩) hpr).trans (frozen_of_row wr w.heap.size 1 _ _ hfz)
      have hf2 : w2.frozen? ⟨w.heap.size, 2, none⟩ = false := (hB2.frozen (p := ⟨w.heap.size, 2, none⟩) hpr).trans (frozen_of_row wr w.heap.size 2 _ _ hfz)
      obtain ⟨hq1, hq2, hq3⟩ := hz.below hB2 hpr
      have hq1' : w2.cell? ⟨w.heap.size, 0, none⟩ = some (.int .i64 0) := hq1
      have hq2' : w2.cell? ⟨w.heap.size, 1, none⟩ = some (.int .i64 0) := hq2
      have hq3' : w2.cell? ⟨w.heap.size, 2, none⟩ = some (.int .i64 0) := hq3
      obtain ⟨hk1, hk2, hk3⟩ := (cells_alloc wr 36 ⟨m', e', 0⟩).below hb2 (by simp)
      have hk1' : w2.cell? ⟨wr.heap.size, 0, none⟩ = some (.int .i64 m') := hk1
      have hk2' : w2.cell? ⟨wr.heap.size, 1, none⟩ = some (.int .i64 e') := hk2
      have hk3' : w2.cell? ⟨wr.heap.size, 2, none⟩ = some (.int .i64 0) := hk3
      have hset : ∀ a b c : Int, Below w.heap.size w (((w2.setCell ⟨w.heap.size, 0, none⟩ (.int .i64 a)).setCell ⟨w.heap.size, 1, none⟩ (.int .i64 b)).setCell ⟨w.heap.size, 2, none⟩ (.int .i64 c)) := fun a b c =>
        ((hbr.setCell (p := ⟨w.heap.size, 0, none⟩) (Nat.le_refl _) _).setCell (p := ⟨w.heap.size, 1, none⟩) (Nat.le_refl _) _).setCell (p := ⟨w.heap.size, 2, none⟩) (Nat.le_refl _) _
      clear hq1 hq2 hq3 hk1 hk2 hk3 hW hfz hz hb2 hB2 hbz hbr
      cases t with
      | false =>
        have hno : ¬ RightV ⟨m', e', 0⟩ := fun h => by have := ht.2 h; cases this
        have hcv := HC2.out
        rw [if_neg hno] at hcv
        have HC3 := Lib.hid hcv
        clear hcv ht HC2
        go_wp2_with fail
        refine bodyPost_ret (v := .tuple #[vv zeroV, .bool false]) (by simp [results, Tryd.results22, go_sem, vv, zeroV, *]) rfl ⟨by rw [HC3.out]; rfl, hset _ _ _⟩
      | true =>
        have hyes := ht.1 rfl
        have hcv := HC2.out
        rw [if_pos hyes] at hcv
        have HC3 := Lib.hid hcv
        clear hcv ht HC2 hyes
        go_wp2_with fail
        refine bodyPost_ret (v := .tuple #[vv ⟨m', e', 0⟩, .bool true]) (by simp [results, Tryd.results22, go_sem, vv, *]) rfl ⟨by rw [HC3.out]; rfl, hset _ _ _⟩

set_option maxRecDepth 100000 in
theorem refClean_any (m e : Int) (w : World) (hm : I64 m) (he : I64 e) : Calls Tryd.prog 23 #[.int .i64 m, .int .i64 e] w (CleanEnd (cleanV m e) w) := by
  simp only [I64] at hm he
  have hbz : Below w.heap.size w (w.alloc (.cells #[.int .i64 0, .int .i64 0, .int .i64 0] 36)) := (Below.refl _ _).alloc (Nat.le_refl _) _
  by_cases h1 : e < -1000
  · have hcv : cleanV m e = none := if_pos (.inl h1)
    go_enter Tryd.func23, Tryd.ntmps23
    go_wp2_with fail
    refine bodyPost_ret (v := .tuple #[vv zeroV, .bool false]) (by simp [results, Tryd.results23, go_sem, vv, zeroV]) rfl ⟨by first | rfl | (rw [hcv]; rfl), hbz⟩
  by_cases h2 : 1000 < e
  · have hcv : cleanV m e = none := if_pos (.inr h2)
    go_enter Tryd.func23, Tryd.ntmps23
    go_wp2_with fail
    refine bodyPost_ret (v := .tuple #[vv zeroV, .bool false]) (by simp [results, Tryd.results23, go_sem, vv, zeroV]) rfl ⟨by first | rfl | (rw [hcv]; rfl), hbz⟩
  by_cases h0 : m = 0
  · subst h0
    have hcv : cleanV 0 e = some zeroV := by rw [cleanV, if_neg (by omega), if_pos rfl]
    go_enter Tryd.func23, Tryd.ntmps23
    go_wp2_with fail
    refine bodyPost_ret (v := .tuple #[vv zeroV, .bool true]) (by simp [results, Tryd.results23, go_sem, vv, zeroV]) rfl ⟨by first | rfl | (rw [hcv]; rfl), hbz⟩
  have hcv : cleanV m e = if RightV ⟨(strip 19 m e).1, (strip 19 m e).2, 0⟩ then some ⟨(strip 19 m e).1, (strip 19 m e).2, 0⟩ else none := by rw [cleanV, if_neg (by omega), if_neg h0]
  have HC := Lib.hid hcv
  clear hcv
  go_enter Tryd.func23, Tryd.ntmps23
  go_wp2_with fail
  generalize hW : w.alloc (.cells #[.int .i64 0, .int .i64 0, .int .i64 0] 36) = W at hbz ⊢
  have hz : CellsAt (w.alloc (.cells #[.int .i64 0, .int .i64 0, .int .i64 0] 36)) w.heap.size 0 zeroV := cells_alloc w 36 zeroV
  rw [hW] at hz
  have hfz : (w.alloc (.cells #[.int .i64 0, .int .i64 0, .int .i64 0] 36)).heap[w.heap.size]? = some (.cells #[.int .i64 0, .int .i64 0, .int .i64 0] 36) := heap_alloc _ _ _
  rw [hW] at hfz
  go_loopw [0, 1] (fun x y wr => StripRel m e W x y wr) (fun x _ _ => (intOf x).natAbs)
  case atStart => exact ⟨19, m, e, Nat.le_refl _, rfl, rfl, Lib.hid (by omega), by omega, by omega, h0, Lib.hid (by omega), by omega, Lib.hid rfl, rfl⟩
  case round =>
    obtain ⟨n, m', e', hn, rfl, rfl, he', he1, he2, hm0, hma, hmb, hst, rfl⟩ := hrel
    by_cases hr : m' % 10 = 0
    · have hb : (m'.tmod 10 == 0) = true := by rw [beq_iff_eq, tmod10]; exact hr
      have ht := tdiv10 hr
      obtain ⟨q, hq⟩ : ∃ q, m' / 10 = q := ⟨_, rfl⟩
      have hq0 : q ≠ 0 := by omega
      have hqa : q.natAbs * 10 = m'.natAbs := by omega
      have hn0 : n ≠ 0 := by
        intro h
        have := hma.out
        rw [h] at this
        omega
      obtain ⟨n', rfl⟩ : ∃ n', n = n' + 1 := ⟨n - 1, by omega⟩
      have hqb : Hid (q.natAbs < 10 ^ n') := Lib.hid (by have := hma.out; rw [Nat.pow_succ] at this; omega)
      have hsq : Hid (strip 19 m e = strip n' q (e' + 1)) := Lib.hid (by rw [hst.out, strip, if_pos hr, hq])
      have heq : Hid (e' + 1 = e + (19 - (n' : Int))) := Lib.hid (by have := he'.out; omega)
      have hltm : q.natAbs < m'.natAbs := by omega
      rw [hq] at ht
      have he3 : e' ≤ 1018 := by have := he'.out; omega
      clear hq hr he'
      go_wp2_with fail
      go_roundw
      case rel => exact ⟨n', q, e' + 1, by omega, rfl, by go_num, heq, by omega, by omega, hq0, hqb, by omega, hsq, rfl⟩
      case measure => simp only [intOf]; exact hltm
    · have hb : (m'.tmod 10 == 0) = false := by rw [beq_eq_false_iff_ne, Ne, tmod10]; exact hr
      have hsn : strip n m' e' = (m', e') := by
        cases n with
        | zero => rfl
        | succ n => rw [strip, if_neg hr]
      have hsq : strip 19 m e = (m', e') := by rw [hst.out, hsn]
      have hcv := HC.out
      rw [hsq] at hcv
      have HC2 := Lib.hid hcv
      clear HC hcv hsn hsq hst
      have hR := refRight_any ⟨m', e', 0⟩ (wr.alloc (.cells #[.int .i64 m', .int .i64 e', .int .i64 0] 36)) ⟨by simp only [I64]; omega, by simp only [I64]; omega, by simp only [I64]; omega⟩
      unfold vv at hR
      go_wp2_with fail
      refine hR.mono ?_
      rintro e2 w2 ⟨t, rfl, ht, hb2⟩
      clear hR
      have hB2 : Below wr.heap.size wr w2 := ((Below.refl wr.heap.size wr).alloc (Nat.le_refl _) _).trans (hb2.mono (by simp))
      have hbr : Below w.heap.size w w2 := hbz.trans (hB2.mono hbz.size)
      have hpr : w.heap.size < wr.heap.size := by rw [← hW]; simp
      have hf0 : w2.frozen? ⟨w.heap.size, 0, none⟩ = false := (hB2.frozen (p := ⟨w.heap.size, 0, none⟩) hpr).trans (frozen_of_row wr w.heap.size 0 _ _ hfz)
      have hf1 : w2.frozen? ⟨w.heap.size, 1, none⟩ = false := (hB2.frozen (p := ⟨w.heap.size, 1, none⟩) hpr).trans (frozen_of_row wr w.heap.size 1 _ _ hfz)
      have hf2 : w2.frozen? ⟨w.heap.size, 2, none⟩ = false := (hB2.frozen (p := ⟨w.heap.size, 2, none⟩) hpr).trans (frozen_of_row wr w.heap.size 2 _ _ hfz)
      obtain ⟨hq1, hq2, hq3⟩ := hz.below hB2 hpr
      have hq1' : w2.cell? ⟨w.heap.size, 0, none⟩ = some (.int .i64 0) := hq1
      have hq2' : w2.cell? ⟨w.heap.size, 1, none⟩ = some (.int .i64 0) := hq2
      have hq3' : w2.cell? ⟨w.heap.size, 2, none⟩ = some (.int .i64 0) := hq3
      obtain ⟨hk1, hk2, hk3⟩ := (cells_alloc wr 36 ⟨m', e', 0⟩).below hb2 (by simp)
      have hk1' : w2.cell? ⟨wr.heap.size, 0, none⟩ = some (.int .i64 m') := hk1
      have hk2' : w2.cell? ⟨wr.heap.size, 1, none⟩ = some (.int .i64 e') := hk2
      have hk3' : w2.cell? ⟨wr.heap.size, 2, none⟩ = some (.int .i64 0) := hk3
      have hset : ∀ a b c : Int, Below w.heap.size w (((w2.setCell ⟨w.heap.size, 0, none⟩ (.int .i64 a)).setCell ⟨w.heap.size, 1, none⟩ (.int .i64 b)).setCell ⟨w.heap.size, 2, none⟩ (.int .i64 c)) := fun a b c =>
        ((hbr.setCell (p := ⟨w.heap.size, 0, none⟩) (Nat.le_refl _) _).setCell (p := ⟨w.heap.size, 1, none⟩) (Nat.le_refl _) _).setCell (p := ⟨w.heap.size, 2, none⟩) (Nat.le_refl _) _
      clear hq1 hq2 hq3 hk1 hk2 hk3 hW hfz hz hb2 hB2 hbz hbr
      cases t with
      | false =>
        have hno : ¬ RightV ⟨m', e', 0⟩ := fun h => by have := ht.2 h; cases this
        have hcv := HC2.out
        rw [if_neg hno] at hcv
        have HC3 := Lib.hid hcv
        clear hcv ht HC2
        go_wp2_with fail
        refine bodyPost_ret (v := .tuple #[vv zeroV, .bool false]) (by simp [results, Tryd.results23, go_sem, vv, zeroV, *]) rfl ⟨by rw [HC3.out]; rfl, hset _ _ _⟩
      | true =>
        have hyes := ht.1 rfl
        have hcv := HC2.out
        rw [if_pos hyes] at hcv
        have HC3 := Lib.hid hcv
        clear hcv ht HC2 hyes
        go_wp2_with fail
        refine bodyPost_ret (v := .tuple #[vv ⟨m', e', 0⟩, .bool true]) (by simp [results, Tryd.results23, go_sem, vv, *]) rfl ⟨by rw [HC3.out]; rfl, hset _ _ _⟩
end Go.Proofs.YtbpillbhkkjlbaaDoor
