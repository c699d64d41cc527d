/- manifest.Check: the walk. -/
import Derived.Test.YtcjbgchhalilnaaGreatDoorPb
import Derived.Test.YtcjbgchhalilnaaGreatDoorKe
import Derived.Test.YtcjbgchhalilnaaGreatDoorKd
import Derived.Deep.CutBlock
namespace Go.Proofs.YtcjbgchhalilnaaGreatDoor
open Go Go.RowKit Go.Lib
set_option linter.unusedVariables false

theorem run_callv {P : Program} {a : Act} {w : World} {o : Oper} {f : FuncId} {fn : Func} {x : Operand} {args : Array Operand} {ts : Array TypeId} (hf : P.funcs[f]? = some fn) (hname : (fn.name == "runtime.NumGoroutine") = false) (hbody : fn.body.isNone = false)
    (h : o.op = .call { callee := .value x, args := args, argTypes := ts }) (hx : a.eval x = .func (.func f) #[] #[]) {vs : Array Value} (hvs : args.map a.eval = vs) : (execOp a.eval o).run P w = .ok (.enter f vs) w := by
  subst hvs
  unfold execOp
  have h1 : fn.name ≠ "runtime.NumGoroutine" := by simpa using hname
  have h2 : fn.body ≠ none := by
    intro hb
    rw [hb] at hbody
    cases hbody
  simp [h, resolve, hx, Deferred.ofValue, invoke, callFunc, hf, h1, h2]

theorem within_any (n lo hi : Int) (w : World) : Calls Tryz.prog 35 #[.int .i64 n, .int .i64 lo, .int .i64 hi] w fun e w' => e = .returned (.bool (decide (lo ≤ n ∧ n ≤ hi))) ∧ w' = w := by
  by_cases h1 : lo ≤ n
  · by_cases h2 : n ≤ hi
    · have hd : decide (lo ≤ n ∧ n ≤ hi) = true := decide_eq_true ⟨h1, h2⟩
      rw [hd]
      clear hd
      go_enter Tryz.func35, Tryz.ntmps35
      go_wp2_with fail
      go_ret
      exact ⟨rfl, rfl⟩
    · have hd : decide (lo ≤ n ∧ n ≤ hi) = false := decide_eq_false (fun h => h2 h.2)
      rw [hd]
      clear hd
      go_enter Tryz.func35, Tryz.ntmps35
      go_wp2_with fail
      go_ret
      exact ⟨rfl, rfl⟩
  · have hd : decide (lo ≤ n ∧ n ≤ hi) = false := decide_eq_false (fun h => h1 h.1)
    rw [hd]
    clear hd
    go_enter Tryz.func35, Tryz.ntmps35
    go_wp2_with fail
    go_ret
    exact ⟨rfl, rfl⟩

theorem ReadsM.drew {w : World} {v : Value} {m : Man} (h : ReadsM w v m) : ReadsM w.drew v m := h.below (B := w.heap.size) (Below.refl _ _).drew (Nat.le_refl _)

-- TAIL
set_option maxRecDepth 100000 in
theorem check3_true {Q : Exit → Act → World → Prop} {a0 : Act} {W w1 : World} {n0 ci cd : Nat} {ai ad : Option Addr} {m : Man} (hsz0 : a0.tmps.size = 91) (hbb0 : Below (n0 + 1) W w1) (hbs0 : n0 + 1 ≤ w1.heap.size) (hT0 : Laid w1) (t1 : a0.tmps.getD 1 undef = .pointer (some ⟨n0, 0, none⟩)) (hl1 : (m.index.length : Int) ≤ 100) (hl2 : (m.data.length : Int) ≤ 100) (_hwr : IntKind.i64.wrap ((m.index.length : Int) + m.data.length) = (m.index.length : Int) + m.data.length) (hrm : ReadsM w1 (.agg #[.int .i64 m.seq, .int .i64 m.every, .int .i64 m.keep, .slice ai m.index.length ci, .slice ad m.data.length cd]) m) (hq : ¬ ((namesL m).length : Int) = (m.index.length : Int) + m.data.length)
    (C0 : ∀ w', Below (n0 + 1) W w' → w'.cell? ⟨n0, 0, none⟩ = some (.int .i64 m.seq)) (C1 : ∀ w', Below (n0 + 1) W w' → w'.cell? ⟨n0, 1, none⟩ = some (.int .i64 m.every)) (C2 : ∀ w', Below (n0 + 1) W w' → w'.cell? ⟨n0, 2, none⟩ = some (.int .i64 m.keep))
    (C3 : ∀ w', Below (n0 + 1) W w' → w'.cell? ⟨n0, 3, none⟩ = some (.slice ai m.index.length ci)) (C4 : ∀ w', Below (n0 + 1) W w' → w'.cell? ⟨n0, 4, none⟩ = some (.slice ad m.data.length cd))
    (hQ : ∀ a w8, Below w1.heap.size w1 w8 → a.tmps.getD 52 undef = .bool true → (∀ t, isDst (opsOf Tryz.f22 3) t = false → a.tmps.getD t undef = a0.tmps.getD t undef) → a.tmps.size = 91 → a.defers = a0.defers → Q .normal a w8) :
    (Code.region 3 (opsOf Tryz.f22 3) true).wp Tryz.prog Q a0 w1 := by
  have hbb : Below (n0 + 1) W w1.drew := hbb0.drew
  have hbs : n0 + 1 ≤ w1.drew.heap.size := hbs0
  have hT : Laid w1.drew := hT0
  refine region_free (by kernel_rfl) (fun i => ([Spec.is (.pointer (some ⟨n0, 3, none⟩)), Spec.is (.slice ai m.index.length ci), Spec.is (.int .i64 (m.index.length : Int)), Spec.is (.bool false), Spec.is (.bool false), Spec.is (.pointer (some ⟨n0, 4, none⟩)), Spec.is (.slice ad m.data.length cd), Spec.is (.int .i64 (m.data.length : Int)), Spec.is (.bool false), Spec.is (.bool false), Spec.is (.bool false), Spec.is (.agg #[.int .i64 m.seq, .int .i64 m.every, .int .i64 m.keep, .slice ai m.index.length ci, .slice ad m.data.length cd]), Spec.rd encStr (namesL m), Spec.is (.int .i64 ((namesL m).length : Int)), Spec.is (.pointer (some ⟨n0, 3, none⟩)), Spec.is (.slice ai m.index.length ci), Spec.is (.int .i64 (m.index.length : Int)), Spec.is (.pointer (some ⟨n0, 4, none⟩)), Spec.is (.slice ad m.data.length cd), Spec.is (.int .i64 (m.data.length : Int)), Spec.is (.int .i64 ((m.index.length : Int) + m.data.length)), Spec.is (.bool true), Spec.is (.bool true)] : List Spec).getD i Spec.any) (by rw [hsz0]; kernel_rfl) (ops_all ?_) ?_
  · refine ⟨?_, ?_, ?_, ?_, ?_, ?_, ?_, ?_, ?_, ?_, ?_, ?_, ?_, ?_, ?_, ?_, ?_, ?_, ?_, ?_, ?_, ?_, ?_, trivial⟩
    · intro ho a w hb hd hold
      have x1 : a.tmps.getD 1 undef = .pointer (some ⟨n0, 0, none⟩) := (hold 1 rfl).trans t1
      exact ob_is ho (met_none rfl) (by go_simp) rfl
    · intro ho a w hb hd hold
      have x30 : a.tmps.getD 30 undef = .pointer (some ⟨n0, 3, none⟩) := hd 0 rfl
      have c3 : w.cell? ⟨n0, 3, none⟩ = some (.slice ai m.index.length ci) := C3 w (hbb.trans (hb.mono hbs))
      exact ob_is ho (met_none rfl) (by go_simp) rfl
    · intro ho a w hb hd hold
      have x31 : a.tmps.getD 31 undef = .slice ai m.index.length ci := hd 1 rfl
      exact ob_is ho (met_none rfl) (by go_simp) rfl
    · intro ho a w hb hd hold
      have x32 : a.tmps.getD 32 undef = .int .i64 (m.index.length : Int) := hd 2 rfl
      exact ob_is ho (met_none rfl) (by go_simp) rfl
    · intro ho a w hb hd hold
      have x33 : a.tmps.getD 33 undef = .bool false := hd 3 rfl
      exact ob_is ho (met_none rfl) (by go_simp) rfl
    · intro ho a w hb hd hold
      have x1 : a.tmps.getD 1 undef = .pointer (some ⟨n0, 0, none⟩) := (hold 1 rfl).trans t1
      exact ob_is ho (met_some rfl (hd 4 rfl)) (by go_simp) rfl
    · intro ho a w hb hd hold
      have x35 : a.tmps.getD 35 undef = .pointer (some ⟨n0, 4, none⟩) := hd 5 rfl
      have c4 : w.cell? ⟨n0, 4, none⟩ = some (.slice ad m.data.length cd) := C4 w (hbb.trans (hb.mono hbs))
      exact ob_is ho (met_some rfl (hd 4 rfl)) (by go_simp) rfl
    · intro ho a w hb hd hold
      have x36 : a.tmps.getD 36 undef = .slice ad m.data.length cd := hd 6 rfl
      exact ob_is ho (met_some rfl (hd 4 rfl)) (by go_simp) rfl
    · intro ho a w hb hd hold
      have x37 : a.tmps.getD 37 undef = .int .i64 (m.data.length : Int) := hd 7 rfl
      exact ob_is ho (met_some rfl (hd 4 rfl)) (by go_simp) rfl
    · intro ho a w hb hd hold
      have x34 : a.tmps.getD 34 undef = .bool false := hd 4 rfl
      have x38 : a.tmps.getD 38 undef = .bool false := hd 8 rfl
      exact ob_is ho (met_none rfl) (by go_simp) rfl
    · intro ho a w hb hd hold
      have x39 : a.tmps.getD 39 undef = .bool false := hd 9 rfl
      exact ob_is ho (met_none rfl) (by go_simp) rfl
    · intro ho a w hb hd hold
      have x1 : a.tmps.getD 1 undef = .pointer (some ⟨n0, 0, none⟩) := (hold 1 rfl).trans t1
      have c0 : w.cell? ⟨n0, 0, none⟩ = some (.int .i64 m.seq) := C0 w (hbb.trans (hb.mono hbs))
      have c1 : w.cell? ⟨n0, 1, none⟩ = some (.int .i64 m.every) := C1 w (hbb.trans (hb.mono hbs))
      have c2 : w.cell? ⟨n0, 2, none⟩ = some (.int .i64 m.keep) := C2 w (hbb.trans (hb.mono hbs))
      have c3 : w.cell? ⟨n0, 3, none⟩ = some (.slice ai m.index.length ci) := C3 w (hbb.trans (hb.mono hbs))
      have c4 : w.cell? ⟨n0, 4, none⟩ = some (.slice ad m.data.length cd) := C4 w (hbb.trans (hb.mono hbs))
      exact ob_is ho (met_some rfl (hd 10 rfl)) (by go_simp) rfl
    · intro ho a w hb hd hold
      have x41 : a.tmps.getD 41 undef = .agg #[.int .i64 m.seq, .int .i64 m.every, .int .i64 m.keep, .slice ai m.index.length ci, .slice ad m.data.length cd] := hd 11 rfl
      refine ob_call (args := #[.agg #[.int .i64 m.seq, .int .i64 m.every, .int .i64 m.keep, .slice ai m.index.length ci, .slice ad m.data.length cd]]) ho (met_some rfl (hd 10 rfl)) (run_callf Tryz.func12 (by kernel_rfl) rfl rfl (by simpa [Act.eval] using x41)) ?_
      exact (Names_any _ m w (by omega) (by omega) ((hrm.drew).below hb (Nat.le_refl _))).mono fun e w2 h => h
    · intro ho a w hb hd hold
      have x42 : Reads w encStr (a.tmps.getD 42 undef) (namesL m) := hd 12 rfl
      obtain ⟨an, cn, hvn⟩ := x42.slice
      rw [hvn] at x42
      exact ob_is ho (met_some rfl (hd 10 rfl)) (by go_simp) rfl
    · intro ho a w hb hd hold
      have x1 : a.tmps.getD 1 undef = .pointer (some ⟨n0, 0, none⟩) := (hold 1 rfl).trans t1
      exact ob_is ho (met_some rfl (hd 10 rfl)) (by go_simp) rfl
    · intro ho a w hb hd hold
      have x44 : a.tmps.getD 44 undef = .pointer (some ⟨n0, 3, none⟩) := hd 14 rfl
      have c3 : w.cell? ⟨n0, 3, none⟩ = some (.slice ai m.index.length ci) := C3 w (hbb.trans (hb.mono hbs))
      exact ob_is ho (met_some rfl (hd 10 rfl)) (by go_simp) rfl
    · intro ho a w hb hd hold
      have x45 : a.tmps.getD 45 undef = .slice ai m.index.length ci := hd 15 rfl
      exact ob_is ho (met_some rfl (hd 10 rfl)) (by go_simp) rfl
    · intro ho a w hb hd hold
      have x1 : a.tmps.getD 1 undef = .pointer (some ⟨n0, 0, none⟩) := (hold 1 rfl).trans t1
      exact ob_is ho (met_some rfl (hd 10 rfl)) (by go_simp) rfl
    · intro ho a w hb hd hold
      have x47 : a.tmps.getD 47 undef = .pointer (some ⟨n0, 4, none⟩) := hd 17 rfl
      have c4 : w.cell? ⟨n0, 4, none⟩ = some (.slice ad m.data.length cd) := C4 w (hbb.trans (hb.mono hbs))
      exact ob_is ho (met_some rfl (hd 10 rfl)) (by go_simp) rfl
    · intro ho a w hb hd hold
      have x48 : a.tmps.getD 48 undef = .slice ad m.data.length cd := hd 18 rfl
      exact ob_is ho (met_some rfl (hd 10 rfl)) (by go_simp) rfl
    · intro ho a w hb hd hold
      have x46 : a.tmps.getD 46 undef = .int .i64 (m.index.length : Int) := hd 16 rfl
      have x49 : a.tmps.getD 49 undef = .int .i64 (m.data.length : Int) := hd 19 rfl
      exact ob_is ho (met_some rfl (hd 10 rfl)) (by go_simp) rfl
    · intro ho a w hb hd hold
      have x43 : a.tmps.getD 43 undef = .int .i64 ((namesL m).length : Int) := hd 13 rfl
      have x50 : a.tmps.getD 50 undef = .int .i64 ((m.index.length : Int) + m.data.length) := hd 20 rfl
      exact ob_is ho (met_some rfl (hd 10 rfl)) (by go_simp) rfl
    · intro ho a w hb hd hold
      have x40 : a.tmps.getD 40 undef = .bool false := hd 10 rfl
      have x51 : a.tmps.getD 51 undef = .bool true := hd 21 rfl
      exact ob_is ho (met_none rfl) (by go_simp) rfl
  · intro a w8 hb hS hold hsz hdf
    exact hQ a w8 hb (hS 22 _ rfl) hold (hsz.trans hsz0) hdf

set_option maxRecDepth 100000 in
theorem check3_false {Q : Exit → Act → World → Prop} {a0 : Act} {W w1 : World} {n0 ci cd : Nat} {ai ad : Option Addr} {m : Man} (hsz0 : a0.tmps.size = 91) (hbb0 : Below (n0 + 1) W w1) (hbs0 : n0 + 1 ≤ w1.heap.size) (hT0 : Laid w1) (t1 : a0.tmps.getD 1 undef = .pointer (some ⟨n0, 0, none⟩)) (hl1 : (m.index.length : Int) ≤ 100) (hl2 : (m.data.length : Int) ≤ 100) (_hwr : IntKind.i64.wrap ((m.index.length : Int) + m.data.length) = (m.index.length : Int) + m.data.length) (hrm : ReadsM w1 (.agg #[.int .i64 m.seq, .int .i64 m.every, .int .i64 m.keep, .slice ai m.index.length ci, .slice ad m.data.length cd]) m) (hq : ((namesL m).length : Int) = (m.index.length : Int) + m.data.length)
    (C0 : ∀ w', Below (n0 + 1) W w' → w'.cell? ⟨n0, 0, none⟩ = some (.int .i64 m.seq)) (C1 : ∀ w', Below (n0 + 1) W w' → w'.cell? ⟨n0, 1, none⟩ = some (.int .i64 m.every)) (C2 : ∀ w', Below (n0 + 1) W w' → w'.cell? ⟨n0, 2, none⟩ = some (.int .i64 m.keep))
    (C3 : ∀ w', Below (n0 + 1) W w' → w'.cell? ⟨n0, 3, none⟩ = some (.slice ai m.index.length ci)) (C4 : ∀ w', Below (n0 + 1) W w' → w'.cell? ⟨n0, 4, none⟩ = some (.slice ad m.data.length cd))
    (hQ : ∀ a w8, Below w1.heap.size w1 w8 → a.tmps.getD 52 undef = .bool false → (∀ t, isDst (opsOf Tryz.f22 3) t = false → a.tmps.getD t undef = a0.tmps.getD t undef) → a.tmps.size = 91 → a.defers = a0.defers → Q .normal a w8) :
    (Code.region 3 (opsOf Tryz.f22 3) true).wp Tryz.prog Q a0 w1 := by
  have hbb : Below (n0 + 1) W w1.drew := hbb0.drew
  have hbs : n0 + 1 ≤ w1.drew.heap.size := hbs0
  have hT : Laid w1.drew := hT0
  refine region_free (by kernel_rfl) (fun i => ([Spec.is (.pointer (some ⟨n0, 3, none⟩)), Spec.is (.slice ai m.index.length ci), Spec.is (.int .i64 (m.index.length : Int)), Spec.is (.bool false), Spec.is (.bool false), Spec.is (.pointer (some ⟨n0, 4, none⟩)), Spec.is (.slice ad m.data.length cd), Spec.is (.int .i64 (m.data.length : Int)), Spec.is (.bool false), Spec.is (.bool false), Spec.is (.bool false), Spec.is (.agg #[.int .i64 m.seq, .int .i64 m.every, .int .i64 m.keep, .slice ai m.index.length ci, .slice ad m.data.length cd]), Spec.rd encStr (namesL m), Spec.is (.int .i64 ((namesL m).length : Int)), Spec.is (.pointer (some ⟨n0, 3, none⟩)), Spec.is (.slice ai m.index.length ci), Spec.is (.int .i64 (m.index.length : Int)), Spec.is (.pointer (some ⟨n0, 4, none⟩)), Spec.is (.slice ad m.data.length cd), Spec.is (.int .i64 (m.data.length : Int)), Spec.is (.int .i64 ((m.index.length : Int) + m.data.length)), Spec.is (.bool false), Spec.is (.bool false)] : List Spec).getD i Spec.any) (by rw [hsz0]; kernel_rfl) (ops_all ?_) ?_
  · refine ⟨?_, ?_, ?_, ?_, ?_, ?_, ?_, ?_, ?_, ?_, ?_, ?_, ?_, ?_, ?_, ?_, ?_, ?_, ?_, ?_, ?_, ?_, ?_, trivial⟩
    · intro ho a w hb hd hold
      have x1 : a.tmps.getD 1 undef = .pointer (some ⟨n0, 0, none⟩) := (hold 1 rfl).trans t1
      exact ob_is ho (met_none rfl) (by go_simp) rfl
    · intro ho a w hb hd hold
      have x30 : a.tmps.getD 30 undef = .pointer (some ⟨n0, 3, none⟩) := hd 0 rfl
      have c3 : w.cell? ⟨n0, 3, none⟩ = some (.slice ai m.index.length ci) := C3 w (hbb.trans (hb.mono hbs))
      exact ob_is ho (met_none rfl) (by go_simp) rfl
    · intro ho a w hb hd hold
      have x31 : a.tmps.getD 31 undef = .slice ai m.index.length ci := hd 1 rfl
      exact ob_is ho (met_none rfl) (by go_simp) rfl
    · intro ho a w hb hd hold
      have x32 : a.tmps.getD 32 undef = .int .i64 (m.index.length : Int) := hd 2 rfl
      exact ob_is ho (met_none rfl) (by go_simp) rfl
    · intro ho a w hb hd hold
      have x33 : a.tmps.getD 33 undef = .bool false := hd 3 rfl
      exact ob_is ho (met_none rfl) (by go_simp) rfl
    · intro ho a w hb hd hold
      have x1 : a.tmps.getD 1 undef = .pointer (some ⟨n0, 0, none⟩) := (hold 1 rfl).trans t1
      exact ob_is ho (met_some rfl (hd 4 rfl)) (by go_simp) rfl
    · intro ho a w hb hd hold
      have x35 : a.tmps.getD 35 undef = .pointer (some ⟨n0, 4, none⟩) := hd 5 rfl
      have c4 : w.cell? ⟨n0, 4, none⟩ = some (.slice ad m.data.length cd) := C4 w (hbb.trans (hb.mono hbs))
      exact ob_is ho (met_some rfl (hd 4 rfl)) (by go_simp) rfl
    · intro ho a w hb hd hold
      have x36 : a.tmps.getD 36 undef = .slice ad m.data.length cd := hd 6 rfl
      exact ob_is ho (met_some rfl (hd 4 rfl)) (by go_simp) rfl
    · intro ho a w hb hd hold
      have x37 : a.tmps.getD 37 undef = .int .i64 (m.data.length : Int) := hd 7 rfl
      exact ob_is ho (met_some rfl (hd 4 rfl)) (by go_simp) rfl
    · intro ho a w hb hd hold
      have x34 : a.tmps.getD 34 undef = .bool false := hd 4 rfl
      have x38 : a.tmps.getD 38 undef = .bool false := hd 8 rfl
      exact ob_is ho (met_none rfl) (by go_simp) rfl
    · intro ho a w hb hd hold
      have x39 : a.tmps.getD 39 undef = .bool false := hd 9 rfl
      exact ob_is ho (met_none rfl) (by go_simp) rfl
    · intro ho a w hb hd hold
      have x1 : a.tmps.getD 1 undef = .pointer (some ⟨n0, 0, none⟩) := (hold 1 rfl).trans t1
      have c0 : w.cell? ⟨n0, 0, none⟩ = some (.int .i64 m.seq) := C0 w (hbb.trans (hb.mono hbs))
      have c1 : w.cell? ⟨n0, 1, none⟩ = some (.int .i64 m.every) := C1 w (hbb.trans (hb.mono hbs))
      have c2 : w.cell? ⟨n0, 2, none⟩ = some (.int .i64 m.keep) := C2 w (hbb.trans (hb.mono hbs))
      have c3 : w.cell? ⟨n0, 3, none⟩ = some (.slice ai m.index.length ci) := C3 w (hbb.trans (hb.mono hbs))
      have c4 : w.cell? ⟨n0, 4, none⟩ = some (.slice ad m.data.length cd) := C4 w (hbb.trans (hb.mono hbs))
      exact ob_is ho (met_some rfl (hd 10 rfl)) (by go_simp) rfl
    · intro ho a w hb hd hold
      have x41 : a.tmps.getD 41 undef = .agg #[.int .i64 m.seq, .int .i64 m.every, .int .i64 m.keep, .slice ai m.index.length ci, .slice ad m.data.length cd] := hd 11 rfl
      refine ob_call (args := #[.agg #[.int .i64 m.seq, .int .i64 m.every, .int .i64 m.keep, .slice ai m.index.length ci, .slice ad m.data.length cd]]) ho (met_some rfl (hd 10 rfl)) (run_callf Tryz.func12 (by kernel_rfl) rfl rfl (by simpa [Act.eval] using x41)) ?_
      exact (Names_any _ m w (by omega) (by omega) ((hrm.drew).below hb (Nat.le_refl _))).mono fun e w2 h => h
    · intro ho a w hb hd hold
      have x42 : Reads w encStr (a.tmps.getD 42 undef) (namesL m) := hd 12 rfl
      obtain ⟨an, cn, hvn⟩ := x42.slice
      rw [hvn] at x42
      exact ob_is ho (met_some rfl (hd 10 rfl)) (by go_simp) rfl
    · intro ho a w hb hd hold
      have x1 : a.tmps.getD 1 undef = .pointer (some ⟨n0, 0, none⟩) := (hold 1 rfl).trans t1
      exact ob_is ho (met_some rfl (hd 10 rfl)) (by go_simp) rfl
    · intro ho a w hb hd hold
      have x44 : a.tmps.getD 44 undef = .pointer (some ⟨n0, 3, none⟩) := hd 14 rfl
      have c3 : w.cell? ⟨n0, 3, none⟩ = some (.slice ai m.index.length ci) := C3 w (hbb.trans (hb.mono hbs))
      exact ob_is ho (met_some rfl (hd 10 rfl)) (by go_simp) rfl
    · intro ho a w hb hd hold
      have x45 : a.tmps.getD 45 undef = .slice ai m.index.length ci := hd 15 rfl
      exact ob_is ho (met_some rfl (hd 10 rfl)) (by go_simp) rfl
    · intro ho a w hb hd hold
      have x1 : a.tmps.getD 1 undef = .pointer (some ⟨n0, 0, none⟩) := (hold 1 rfl).trans t1
      exact ob_is ho (met_some rfl (hd 10 rfl)) (by go_simp) rfl
    · intro ho a w hb hd hold
      have x47 : a.tmps.getD 47 undef = .pointer (some ⟨n0, 4, none⟩) := hd 17 rfl
      have c4 : w.cell? ⟨n0, 4, none⟩ = some (.slice ad m.data.length cd) := C4 w (hbb.trans (hb.mono hbs))
      exact ob_is ho (met_some rfl (hd 10 rfl)) (by go_simp) rfl
    · intro ho a w hb hd hold
      have x48 : a.tmps.getD 48 undef = .slice ad m.data.length cd := hd 18 rfl
      exact ob_is ho (met_some rfl (hd 10 rfl)) (by go_simp) rfl
    · intro ho a w hb hd hold
      have x46 : a.tmps.getD 46 undef = .int .i64 (m.index.length : Int) := hd 16 rfl
      have x49 : a.tmps.getD 49 undef = .int .i64 (m.data.length : Int) := hd 19 rfl
      exact ob_is ho (met_some rfl (hd 10 rfl)) (by go_simp) rfl
    · intro ho a w hb hd hold
      have x43 : a.tmps.getD 43 undef = .int .i64 ((namesL m).length : Int) := hd 13 rfl
      have x50 : a.tmps.getD 50 undef = .int .i64 ((m.index.length : Int) + m.data.length) := hd 20 rfl
      exact ob_is ho (met_some rfl (hd 10 rfl)) (by go_simp) rfl
    · intro ho a w hb hd hold
      have x40 : a.tmps.getD 40 undef = .bool false := hd 10 rfl
      have x51 : a.tmps.getD 51 undef = .bool false := hd 21 rfl
      exact ob_is ho (met_none rfl) (by go_simp) rfl
  · intro a w8 hb hS hold hsz hdf
    exact hQ a w8 hb (hS 22 _ rfl) hold (hsz.trans hsz0) hdf

set_option maxRecDepth 100000 in
theorem check7_true {Q : Exit → Act → World → Prop} {a0 : Act} {W w1 : World} {n0 ci cd : Nat} {ai ad : Option Addr} {m : Man} (hsz0 : a0.tmps.size = 91) (hbb0 : Below (n0 + 1) W w1) (hbs0 : n0 + 1 ≤ w1.heap.size) (hT0 : Laid w1) (t1 : a0.tmps.getD 1 undef = .pointer (some ⟨n0, 0, none⟩)) (t3 : a0.tmps.getD 3 undef = .func (.func 35) #[] #[]) {s : List UInt8} (t5 : a0.tmps.getD 5 undef = encStr s) (hq : decide (1 ≤ (numF s 105 : Int) ∧ (numF s 105 : Int) ≤ m.seq) = false)
    (C0 : ∀ w', Below (n0 + 1) W w' → w'.cell? ⟨n0, 0, none⟩ = some (.int .i64 m.seq)) (C1 : ∀ w', Below (n0 + 1) W w' → w'.cell? ⟨n0, 1, none⟩ = some (.int .i64 m.every)) (C2 : ∀ w', Below (n0 + 1) W w' → w'.cell? ⟨n0, 2, none⟩ = some (.int .i64 m.keep))
    (C3 : ∀ w', Below (n0 + 1) W w' → w'.cell? ⟨n0, 3, none⟩ = some (.slice ai m.index.length ci)) (C4 : ∀ w', Below (n0 + 1) W w' → w'.cell? ⟨n0, 4, none⟩ = some (.slice ad m.data.length cd))
    (hQ : ∀ a w8, Below w1.heap.size w1 w8 → a.tmps.getD 66 undef = .bool true → (∀ t, isDst (opsOf Tryz.f22 7) t = false → a.tmps.getD t undef = a0.tmps.getD t undef) → a.tmps.size = 91 → a.defers = a0.defers → Q .normal a w8) :
    (Code.region 7 (opsOf Tryz.f22 7) true).wp Tryz.prog Q a0 w1 := by
  have hbb : Below (n0 + 1) W w1.drew := hbb0.drew
  have hbs : n0 + 1 ≤ w1.drew.heap.size := hbs0
  have hT : Laid w1.drew := hT0
  refine region_free (by kernel_rfl) (fun i => ([Spec.is (.func (.func 35) #[] #[]), Spec.is (encStr s), Spec.is (.int .i64 (numF s 105 : Int)), Spec.is (.pointer (some ⟨n0, 0, none⟩)), Spec.is (.int .i64 m.seq), Spec.is (.bool false), Spec.is (.bool true)] : List Spec).getD i Spec.any) (by rw [hsz0]; kernel_rfl) (ops_all ?_) ?_
  · refine ⟨?_, ?_, ?_, ?_, ?_, ?_, ?_, trivial⟩
    · intro ho a w hb hd hold
      have x3 : a.tmps.getD 3 undef = .func (.func 35) #[] #[] := (hold 3 rfl).trans t3
      exact ob_is ho (met_none rfl) (by go_simp) rfl
    · intro ho a w hb hd hold
      have x5 : a.tmps.getD 5 undef = encStr s := (hold 5 rfl).trans t5
      exact ob_is ho (met_none rfl) (by go_simp) rfl
    · intro ho a w hb hd hold
      have x61 : a.tmps.getD 61 undef = encStr s := hd 1 rfl
      refine ob_call (args := #[encStr s, .int .u8 105]) ho (met_none rfl) (run_callf Tryz.func32 (by kernel_rfl) rfl rfl (by simpa [Act.eval] using x61)) ?_
      exact (number_any s 105 w (hT.below hb (Nat.le_refl _)) (by omega)).mono fun e w2 h => ⟨_, h.1, rfl, h.2⟩
    · intro ho a w hb hd hold
      have x1 : a.tmps.getD 1 undef = .pointer (some ⟨n0, 0, none⟩) := (hold 1 rfl).trans t1
      exact ob_is ho (met_none rfl) (by go_simp) rfl
    · intro ho a w hb hd hold
      have x63 : a.tmps.getD 63 undef = .pointer (some ⟨n0, 0, none⟩) := hd 3 rfl
      have c0 : w.cell? ⟨n0, 0, none⟩ = some (.int .i64 m.seq) := C0 w (hbb.trans (hb.mono hbs))
      exact ob_is ho (met_none rfl) (by go_simp) rfl
    · intro ho a w hb hd hold
      have x60 : a.tmps.getD 60 undef = .func (.func 35) #[] #[] := hd 0 rfl
      have x62 : a.tmps.getD 62 undef = .int .i64 (numF s 105 : Int) := hd 2 rfl
      have x64 : a.tmps.getD 64 undef = .int .i64 m.seq := hd 4 rfl
      refine ob_call (args := #[.int .i64 (numF s 105 : Int), .int .i64 1, .int .i64 m.seq]) ho (met_none rfl) (run_callv (x := .tmp 60) Tryz.func35 (by kernel_rfl) rfl rfl x60 (by simp [Act.eval]; exact ⟨by simpa using x62, by simpa using x64⟩)) ?_
      exact (within_any _ _ _ w).mono fun e w2 h => ⟨_, h.1, congrArg Value.bool hq, by rw [h.2]; exact Below.refl _ _⟩
    · intro ho a w hb hd hold
      have x65 : a.tmps.getD 65 undef = .bool false := hd 5 rfl
      exact ob_is ho (met_none rfl) (by go_simp) rfl
  · intro a w8 hb hS hold hsz hdf
    exact hQ a w8 hb (hS 6 _ rfl) hold (hsz.trans hsz0) hdf

set_option maxRecDepth 100000 in
theorem check7_false {Q : Exit → Act → World → Prop} {a0 : Act} {W w1 : World} {n0 ci cd : Nat} {ai ad : Option Addr} {m : Man} (hsz0 : a0.tmps.size = 91) (hbb0 : Below (n0 + 1) W w1) (hbs0 : n0 + 1 ≤ w1.heap.size) (hT0 : Laid w1) (t1 : a0.tmps.getD 1 undef = .pointer (some ⟨n0, 0, none⟩)) (t3 : a0.tmps.getD 3 undef = .func (.func 35) #[] #[]) {s : List UInt8} (t5 : a0.tmps.getD 5 undef = encStr s) (hq : decide (1 ≤ (numF s 105 : Int) ∧ (numF s 105 : Int) ≤ m.seq) = true)
    (C0 : ∀ w', Below (n0 + 1) W w' → w'.cell? ⟨n0, 0, none⟩ = some (.int .i64 m.seq)) (C1 : ∀ w', Below (n0 + 1) W w' → w'.cell? ⟨n0, 1, none⟩ = some (.int .i64 m.every)) (C2 : ∀ w', Below (n0 + 1) W w' → w'.cell? ⟨n0, 2, none⟩ = some (.int .i64 m.keep))
    (C3 : ∀ w', Below (n0 + 1) W w' → w'.cell? ⟨n0, 3, none⟩ = some (.slice ai m.index.length ci)) (C4 : ∀ w', Below (n0 + 1) W w' → w'.cell? ⟨n0, 4, none⟩ = some (.slice ad m.data.length cd))
    (hQ : ∀ a w8, Below w1.heap.size w1 w8 → a.tmps.getD 66 undef = .bool false → (∀ t, isDst (opsOf Tryz.f22 7) t = false → a.tmps.getD t undef = a0.tmps.getD t undef) → a.tmps.size = 91 → a.defers = a0.defers → Q .normal a w8) :
    (Code.region 7 (opsOf Tryz.f22 7) true).wp Tryz.prog Q a0 w1 := by
  have hbb : Below (n0 + 1) W w1.drew := hbb0.drew
  have hbs : n0 + 1 ≤ w1.drew.heap.size := hbs0
  have hT : Laid w1.drew := hT0
  refine region_free (by kernel_rfl) (fun i => ([Spec.is (.func (.func 35) #[] #[]), Spec.is (encStr s), Spec.is (.int .i64 (numF s 105 : Int)), Spec.is (.pointer (some ⟨n0, 0, none⟩)), Spec.is (.int .i64 m.seq), Spec.is (.bool true), Spec.is (.bool false)] : List Spec).getD i Spec.any) (by rw [hsz0]; kernel_rfl) (ops_all ?_) ?_
  · refine ⟨?_, ?_, ?_, ?_, ?_, ?_, ?_, trivial⟩
    · intro ho a w hb hd hold
      have x3 : a.tmps.getD 3 undef = .func (.func 35) #[] #[] := (hold 3 rfl).trans t3
      exact ob_is ho (met_none rfl) (by go_simp) rfl
    · intro ho a w hb hd hold
      have x5 : a.tmps.getD 5 undef = encStr s := (hold 5 rfl).trans t5
      exact ob_is ho (met_none rfl) (by go_simp) rfl
    · intro ho a w hb hd hold
      have x61 : a.tmps.getD 61 undef = encStr s := hd 1 rfl
      refine ob_call (args := #[encStr s, .int .u8 105]) ho (met_none rfl) (run_callf Tryz.func32 (by kernel_rfl) rfl rfl (by simpa [Act.eval] using x61)) ?_
      exact (number_any s 105 w (hT.below hb (Nat.le_refl _)) (by omega)).mono fun e w2 h => ⟨_, h.1, rfl, h.2⟩
    · intro ho a w hb hd hold
      have x1 : a.tmps.getD 1 undef = .pointer (some ⟨n0, 0, none⟩) := (hold 1 rfl).trans t1
      exact ob_is ho (met_none rfl) (by go_simp) rfl
    · intro ho a w hb hd hold
      have x63 : a.tmps.getD 63 undef = .pointer (some ⟨n0, 0, none⟩) := hd 3 rfl
      have c0 : w.cell? ⟨n0, 0, none⟩ = some (.int .i64 m.seq) := C0 w (hbb.trans (hb.mono hbs))
      exact ob_is ho (met_none rfl) (by go_simp) rfl
    · intro ho a w hb hd hold
      have x60 : a.tmps.getD 60 undef = .func (.func 35) #[] #[] := hd 0 rfl
      have x62 : a.tmps.getD 62 undef = .int .i64 (numF s 105 : Int) := hd 2 rfl
      have x64 : a.tmps.getD 64 undef = .int .i64 m.seq := hd 4 rfl
      refine ob_call (args := #[.int .i64 (numF s 105 : Int), .int .i64 1, .int .i64 m.seq]) ho (met_none rfl) (run_callv (x := .tmp 60) Tryz.func35 (by kernel_rfl) rfl rfl x60 (by simp [Act.eval]; exact ⟨by simpa using x62, by simpa using x64⟩)) ?_
      exact (within_any _ _ _ w).mono fun e w2 h => ⟨_, h.1, congrArg Value.bool hq, by rw [h.2]; exact Below.refl _ _⟩
    · intro ho a w hb hd hold
      have x65 : a.tmps.getD 65 undef = .bool true := hd 5 rfl
      exact ob_is ho (met_none rfl) (by go_simp) rfl
  · intro a w8 hb hS hold hsz hdf
    exact hQ a w8 hb (hS 6 _ rfl) hold (hsz.trans hsz0) hdf

set_option maxRecDepth 100000 in
theorem check12_truetrue {Q : Exit → Act → World → Prop} {a0 : Act} {W w1 : World} {n0 ci cd : Nat} {ai ad : Option Addr} {m : Man} (hsz0 : a0.tmps.size = 91) (hbb0 : Below (n0 + 1) W w1) (hbs0 : n0 + 1 ≤ w1.heap.size) (hT0 : Laid w1) (t1 : a0.tmps.getD 1 undef = .pointer (some ⟨n0, 0, none⟩)) (t3 : a0.tmps.getD 3 undef = .func (.func 35) #[] #[]) {nd : Nat} {d : D2} (t7 : a0.tmps.getD 7 undef = .pointer (some ⟨nd, 0, none⟩)) (hnd : nd < w1.drew.heap.size) (D0 : w1.drew.cell? ⟨nd, 0, none⟩ = some (.int .i64 d.m)) (D1 : w1.drew.cell? ⟨nd, 1, none⟩ = some (encStr d.n)) (hq : decide (1 ≤ (numF d.n 100 : Int) ∧ (numF d.n 100 : Int) ≤ m.seq) = true) (hq2 : decide (0 ≤ d.m ∧ d.m ≤ 2147483647) = true)
    (C0 : ∀ w', Below (n0 + 1) W w' → w'.cell? ⟨n0, 0, none⟩ = some (.int .i64 m.seq)) (C1 : ∀ w', Below (n0 + 1) W w' → w'.cell? ⟨n0, 1, none⟩ = some (.int .i64 m.every)) (C2 : ∀ w', Below (n0 + 1) W w' → w'.cell? ⟨n0, 2, none⟩ = some (.int .i64 m.keep))
    (C3 : ∀ w', Below (n0 + 1) W w' → w'.cell? ⟨n0, 3, none⟩ = some (.slice ai m.index.length ci)) (C4 : ∀ w', Below (n0 + 1) W w' → w'.cell? ⟨n0, 4, none⟩ = some (.slice ad m.data.length cd))
    (hQ : ∀ a w8, Below w1.heap.size w1 w8 → a.tmps.getD 89 undef = .bool false → (∀ t, isDst (opsOf Tryz.f22 12) t = false → a.tmps.getD t undef = a0.tmps.getD t undef) → a.tmps.size = 91 → a.defers = a0.defers → Q .normal a w8) :
    (Code.region 12 (opsOf Tryz.f22 12) true).wp Tryz.prog Q a0 w1 := by
  have hbb : Below (n0 + 1) W w1.drew := hbb0.drew
  have hbs : n0 + 1 ≤ w1.drew.heap.size := hbs0
  have hT : Laid w1.drew := hT0
  refine region_free (by kernel_rfl) (fun i => ([Spec.is (.func (.func 35) #[] #[]), Spec.is (.pointer (some ⟨nd, 1, none⟩)), Spec.is (encStr d.n), Spec.is (.int .i64 (numF d.n 100 : Int)), Spec.is (.pointer (some ⟨n0, 0, none⟩)), Spec.is (.int .i64 m.seq), Spec.is (.bool true), Spec.is (.bool false), Spec.is (.bool false), Spec.is (.func (.func 35) #[] #[]), Spec.is (.pointer (some ⟨nd, 0, none⟩)), Spec.is (.int .i64 d.m), Spec.is (.bool true), Spec.is (.bool false), Spec.is (.bool false)] : List Spec).getD i Spec.any) (by rw [hsz0]; kernel_rfl) (ops_all ?_) ?_
  · refine ⟨?_, ?_, ?_, ?_, ?_, ?_, ?_, ?_, ?_, ?_, ?_, ?_, ?_, ?_, ?_, trivial⟩
    · intro ho a w hb hd hold
      have x3 : a.tmps.getD 3 undef = .func (.func 35) #[] #[] := (hold 3 rfl).trans t3
      exact ob_is ho (met_none rfl) (by go_simp) rfl
    · intro ho a w hb hd hold
      have x7 : a.tmps.getD 7 undef = .pointer (some ⟨nd, 0, none⟩) := (hold 7 rfl).trans t7
      exact ob_is ho (met_none rfl) (by go_simp) rfl
    · intro ho a w hb hd hold
      have x76 : a.tmps.getD 76 undef = .pointer (some ⟨nd, 1, none⟩) := hd 1 rfl
      have d1 : w.cell? ⟨nd, 1, none⟩ = some (encStr d.n) := (hb.cell (p := ⟨nd, 1, none⟩) hnd).trans D1
      exact ob_is ho (met_none rfl) (by go_simp) rfl
    · intro ho a w hb hd hold
      have x77 : a.tmps.getD 77 undef = encStr d.n := hd 2 rfl
      refine ob_call (args := #[encStr d.n, .int .u8 100]) ho (met_none rfl) (run_callf Tryz.func32 (by kernel_rfl) rfl rfl (by simpa [Act.eval] using x77)) ?_
      exact (number_any d.n 100 w (hT.below hb (Nat.le_refl _)) (by omega)).mono fun e w2 h => ⟨_, h.1, rfl, h.2⟩
    · intro ho a w hb hd hold
      have x1 : a.tmps.getD 1 undef = .pointer (some ⟨n0, 0, none⟩) := (hold 1 rfl).trans t1
      exact ob_is ho (met_none rfl) (by go_simp) rfl
    · intro ho a w hb hd hold
      have x79 : a.tmps.getD 79 undef = .pointer (some ⟨n0, 0, none⟩) := hd 4 rfl
      have c0 : w.cell? ⟨n0, 0, none⟩ = some (.int .i64 m.seq) := C0 w (hbb.trans (hb.mono hbs))
      exact ob_is ho (met_none rfl) (by go_simp) rfl
    · intro ho a w hb hd hold
      have x75 : a.tmps.getD 75 undef = .func (.func 35) #[] #[] := hd 0 rfl
      have x78 : a.tmps.getD 78 undef = .int .i64 (numF d.n 100 : Int) := hd 3 rfl
      have x80 : a.tmps.getD 80 undef = .int .i64 m.seq := hd 5 rfl
      refine ob_call (args := #[.int .i64 (numF d.n 100 : Int), .int .i64 1, .int .i64 m.seq]) ho (met_none rfl) (run_callv (x := .tmp 75) Tryz.func35 (by kernel_rfl) rfl rfl x75 (by simp [Act.eval]; exact ⟨by simpa using x78, by simpa using x80⟩)) ?_
      exact (within_any _ _ _ w).mono fun e w2 h => ⟨_, h.1, congrArg Value.bool hq, by rw [h.2]; exact Below.refl _ _⟩
    · intro ho a w hb hd hold
      have x81 : a.tmps.getD 81 undef = .bool true := hd 6 rfl
      exact ob_is ho (met_none rfl) (by go_simp) rfl
    · intro ho a w hb hd hold
      have x82 : a.tmps.getD 82 undef = .bool false := hd 7 rfl
      exact ob_is ho (met_none rfl) (by go_simp) rfl
    · intro ho a w hb hd hold
      have x3 : a.tmps.getD 3 undef = .func (.func 35) #[] #[] := (hold 3 rfl).trans t3
      exact ob_is ho (met_some rfl (hd 8 rfl)) (by go_simp) rfl
    · intro ho a w hb hd hold
      have x7 : a.tmps.getD 7 undef = .pointer (some ⟨nd, 0, none⟩) := (hold 7 rfl).trans t7
      exact ob_is ho (met_some rfl (hd 8 rfl)) (by go_simp) rfl
    · intro ho a w hb hd hold
      have x85 : a.tmps.getD 85 undef = .pointer (some ⟨nd, 0, none⟩) := hd 10 rfl
      have d0 : w.cell? ⟨nd, 0, none⟩ = some (.int .i64 d.m) := (hb.cell (p := ⟨nd, 0, none⟩) hnd).trans D0
      exact ob_is ho (met_some rfl (hd 8 rfl)) (by go_simp) rfl
    · intro ho a w hb hd hold
      have x84 : a.tmps.getD 84 undef = .func (.func 35) #[] #[] := hd 9 rfl
      have x86 : a.tmps.getD 86 undef = .int .i64 d.m := hd 11 rfl
      refine ob_call (args := #[.int .i64 d.m, .int .i64 0, .int .i64 2147483647]) ho (met_some rfl (hd 8 rfl)) (run_callv (x := .tmp 84) Tryz.func35 (by kernel_rfl) rfl rfl x84 (by simpa [Act.eval] using x86)) ?_
      exact (within_any _ _ _ w).mono fun e w2 h => ⟨_, h.1, congrArg Value.bool hq2, by rw [h.2]; exact Below.refl _ _⟩
    · intro ho a w hb hd hold
      have x87 : a.tmps.getD 87 undef = .bool true := hd 12 rfl
      exact ob_is ho (met_some rfl (hd 8 rfl)) (by go_simp) rfl
    · intro ho a w hb hd hold
      have x83 : a.tmps.getD 83 undef = .bool false := hd 8 rfl
      have x88 : a.tmps.getD 88 undef = .bool false := hd 13 rfl
      exact ob_is ho (met_none rfl) (by go_simp) rfl
  · intro a w8 hb hS hold hsz hdf
    exact hQ a w8 hb (hS 14 _ rfl) hold (hsz.trans hsz0) hdf

set_option maxRecDepth 100000 in
theorem check12_truefalse {Q : Exit → Act → World → Prop} {a0 : Act} {W w1 : World} {n0 ci cd : Nat} {ai ad : Option Addr} {m : Man} (hsz0 : a0.tmps.size = 91) (hbb0 : Below (n0 + 1) W w1) (hbs0 : n0 + 1 ≤ w1.heap.size) (hT0 : Laid w1) (t1 : a0.tmps.getD 1 undef = .pointer (some ⟨n0, 0, none⟩)) (t3 : a0.tmps.getD 3 undef = .func (.func 35) #[] #[]) {nd : Nat} {d : D2} (t7 : a0.tmps.getD 7 undef = .pointer (some ⟨nd, 0, none⟩)) (hnd : nd < w1.drew.heap.size) (D0 : w1.drew.cell? ⟨nd, 0, none⟩ = some (.int .i64 d.m)) (D1 : w1.drew.cell? ⟨nd, 1, none⟩ = some (encStr d.n)) (hq : decide (1 ≤ (numF d.n 100 : Int) ∧ (numF d.n 100 : Int) ≤ m.seq) = true) (hq2 : decide (0 ≤ d.m ∧ d.m ≤ 2147483647) = false)
    (C0 : ∀ w', Below (n0 + 1) W w' → w'.cell? ⟨n0, 0, none⟩ = some (.int .i64 m.seq)) (C1 : ∀ w', Below (n0 + 1) W w' → w'.cell? ⟨n0, 1, none⟩ = some (.int .i64 m.every)) (C2 : ∀ w', Below (n0 + 1) W w' → w'.cell? ⟨n0, 2, none⟩ = some (.int .i64 m.keep))
    (C3 : ∀ w', Below (n0 + 1) W w' → w'.cell? ⟨n0, 3, none⟩ = some (.slice ai m.index.length ci)) (C4 : ∀ w', Below (n0 + 1) W w' → w'.cell? ⟨n0, 4, none⟩ = some (.slice ad m.data.length cd))
    (hQ : ∀ a w8, Below w1.heap.size w1 w8 → a.tmps.getD 89 undef = .bool true → (∀ t, isDst (opsOf Tryz.f22 12) t = false → a.tmps.getD t undef = a0.tmps.getD t undef) → a.tmps.size = 91 → a.defers = a0.defers → Q .normal a w8) :
    (Code.region 12 (opsOf Tryz.f22 12) true).wp Tryz.prog Q a0 w1 := by
  have hbb : Below (n0 + 1) W w1.drew := hbb0.drew
  have hbs : n0 + 1 ≤ w1.drew.heap.size := hbs0
  have hT : Laid w1.drew := hT0
  refine region_free (by kernel_rfl) (fun i => ([Spec.is (.func (.func 35) #[] #[]), Spec.is (.pointer (some ⟨nd, 1, none⟩)), Spec.is (encStr d.n), Spec.is (.int .i64 (numF d.n 100 : Int)), Spec.is (.pointer (some ⟨n0, 0, none⟩)), Spec.is (.int .i64 m.seq), Spec.is (.bool true), Spec.is (.bool false), Spec.is (.bool false), Spec.is (.func (.func 35) #[] #[]), Spec.is (.pointer (some ⟨nd, 0, none⟩)), Spec.is (.int .i64 d.m), Spec.is (.bool false), Spec.is (.bool true), Spec.is (.bool true)] : List Spec).getD i Spec.any) (by rw [hsz0]; kernel_rfl) (ops_all ?_) ?_
  · refine ⟨?_, ?_, ?_, ?_, ?_, ?_, ?_, ?_, ?_, ?_, ?_, ?_, ?_, ?_, ?_, trivial⟩
    · intro ho a w hb hd hold
      have x3 : a.tmps.getD 3 undef = .func (.func 35) #[] #[] := (hold 3 rfl).trans t3
      exact ob_is ho (met_none rfl) (by go_simp) rfl
    · intro ho a w hb hd hold
      have x7 : a.tmps.getD 7 undef = .pointer (some ⟨nd, 0, none⟩) := (hold 7 rfl).trans t7
      exact ob_is ho (met_none rfl) (by go_simp) rfl
    · intro ho a w hb hd hold
      have x76 : a.tmps.getD 76 undef = .pointer (some ⟨nd, 1, none⟩) := hd 1 rfl
      have d1 : w.cell? ⟨nd, 1, none⟩ = some (encStr d.n) := (hb.cell (p := ⟨nd, 1, none⟩) hnd).trans D1
      exact ob_is ho (met_none rfl) (by go_simp) rfl
    · intro ho a w hb hd hold
      have x77 : a.tmps.getD 77 undef = encStr d.n := hd 2 rfl
      refine ob_call (args := #[encStr d.n, .int .u8 100]) ho (met_none rfl) (run_callf Tryz.func32 (by kernel_rfl) rfl rfl (by simpa [Act.eval] using x77)) ?_
      exact (number_any d.n 100 w (hT.below hb (Nat.le_refl _)) (by omega)).mono fun e w2 h => ⟨_, h.1, rfl, h.2⟩
    · intro ho a w hb hd hold
      have x1 : a.tmps.getD 1 undef = .pointer (some ⟨n0, 0, none⟩) := (hold 1 rfl).trans t1
      exact ob_is ho (met_none rfl) (by go_simp) rfl
    · intro ho a w hb hd hold
      have x79 : a.tmps.getD 79 undef = .pointer (some ⟨n0, 0, none⟩) := hd 4 rfl
      have c0 : w.cell? ⟨n0, 0, none⟩ = some (.int .i64 m.seq) := C0 w (hbb.trans (hb.mono hbs))
      exact ob_is ho (met_none rfl) (by go_simp) rfl
    · intro ho a w hb hd hold
      have x75 : a.tmps.getD 75 undef = .func (.func 35) #[] #[] := hd 0 rfl
      have x78 : a.tmps.getD 78 undef = .int .i64 (numF d.n 100 : Int) := hd 3 rfl
      have x80 : a.tmps.getD 80 undef = .int .i64 m.seq := hd 5 rfl
      refine ob_call (args := #[.int .i64 (numF d.n 100 : Int), .int .i64 1, .int .i64 m.seq]) ho (met_none rfl) (run_callv (x := .tmp 75) Tryz.func35 (by kernel_rfl) rfl rfl x75 (by simp [Act.eval]; exact ⟨by simpa using x78, by simpa using x80⟩)) ?_
      exact (within_any _ _ _ w).mono fun e w2 h => ⟨_, h.1, congrArg Value.bool hq, by rw [h.2]; exact Below.refl _ _⟩
    · intro ho a w hb hd hold
      have x81 : a.tmps.getD 81 undef = .bool true := hd 6 rfl
      exact ob_is ho (met_none rfl) (by go_simp) rfl
    · intro ho a w hb hd hold
      have x82 : a.tmps.getD 82 undef = .bool false := hd 7 rfl
      exact ob_is ho (met_none rfl) (by go_simp) rfl
    · intro ho a w hb hd hold
      have x3 : a.tmps.getD 3 undef = .func (.func 35) #[] #[] := (hold 3 rfl).trans t3
      exact ob_is ho (met_some rfl (hd 8 rfl)) (by go_simp) rfl
    · intro ho a w hb hd hold
      have x7 : a.tmps.getD 7 undef = .pointer (some ⟨nd, 0, none⟩) := (hold 7 rfl).trans t7
      exact ob_is ho (met_some rfl (hd 8 rfl)) (by go_simp) rfl
    · intro ho a w hb hd hold
      have x85 : a.tmps.getD 85 undef = .pointer (some ⟨nd, 0, none⟩) := hd 10 rfl
      have d0 : w.cell? ⟨nd, 0, none⟩ = some (.int .i64 d.m) := (hb.cell (p := ⟨nd, 0, none⟩) hnd).trans D0
      exact ob_is ho (met_some rfl (hd 8 rfl)) (by go_simp) rfl
    · intro ho a w hb hd hold
      have x84 : a.tmps.getD 84 undef = .func (.func 35) #[] #[] := hd 9 rfl
      have x86 : a.tmps.getD 86 undef = .int .i64 d.m := hd 11 rfl
      refine ob_call (args := #[.int .i64 d.m, .int .i64 0, .int .i64 2147483647]) ho (met_some rfl (hd 8 rfl)) (run_callv (x := .tmp 84) Tryz.func35 (by kernel_rfl) rfl rfl x84 (by simpa [Act.eval] using x86)) ?_
      exact (within_any _ _ _ w).mono fun e w2 h => ⟨_, h.1, congrArg Value.bool hq2, by rw [h.2]; exact Below.refl _ _⟩
    · intro ho a w hb hd hold
      have x87 : a.tmps.getD 87 undef = .bool false := hd 12 rfl
      exact ob_is ho (met_some rfl (hd 8 rfl)) (by go_simp) rfl
    · intro ho a w hb hd hold
      have x83 : a.tmps.getD 83 undef = .bool false := hd 8 rfl
      have x88 : a.tmps.getD 88 undef = .bool true := hd 13 rfl
      exact ob_is ho (met_none rfl) (by go_simp) rfl
  · intro a w8 hb hS hold hsz hdf
    exact hQ a w8 hb (hS 14 _ rfl) hold (hsz.trans hsz0) hdf

set_option maxRecDepth 100000 in
theorem check12_falsefalse {Q : Exit → Act → World → Prop} {a0 : Act} {W w1 : World} {n0 ci cd : Nat} {ai ad : Option Addr} {m : Man} (hsz0 : a0.tmps.size = 91) (hbb0 : Below (n0 + 1) W w1) (hbs0 : n0 + 1 ≤ w1.heap.size) (hT0 : Laid w1) (t1 : a0.tmps.getD 1 undef = .pointer (some ⟨n0, 0, none⟩)) (t3 : a0.tmps.getD 3 undef = .func (.func 35) #[] #[]) {nd : Nat} {d : D2} (t7 : a0.tmps.getD 7 undef = .pointer (some ⟨nd, 0, none⟩)) (hnd : nd < w1.drew.heap.size) (D0 : w1.drew.cell? ⟨nd, 0, none⟩ = some (.int .i64 d.m)) (D1 : w1.drew.cell? ⟨nd, 1, none⟩ = some (encStr d.n)) (hq : decide (1 ≤ (numF d.n 100 : Int) ∧ (numF d.n 100 : Int) ≤ m.seq) = false)
    (C0 : ∀ w', Below (n0 + 1) W w' → w'.cell? ⟨n0, 0, none⟩ = some (.int .i64 m.seq)) (C1 : ∀ w', Below (n0 + 1) W w' → w'.cell? ⟨n0, 1, none⟩ = some (.int .i64 m.every)) (C2 : ∀ w', Below (n0 + 1) W w' → w'.cell? ⟨n0, 2, none⟩ = some (.int .i64 m.keep))
    (C3 : ∀ w', Below (n0 + 1) W w' → w'.cell? ⟨n0, 3, none⟩ = some (.slice ai m.index.length ci)) (C4 : ∀ w', Below (n0 + 1) W w' → w'.cell? ⟨n0, 4, none⟩ = some (.slice ad m.data.length cd))
    (hQ : ∀ a w8, Below w1.heap.size w1 w8 → a.tmps.getD 89 undef = .bool true → (∀ t, isDst (opsOf Tryz.f22 12) t = false → a.tmps.getD t undef = a0.tmps.getD t undef) → a.tmps.size = 91 → a.defers = a0.defers → Q .normal a w8) :
    (Code.region 12 (opsOf Tryz.f22 12) true).wp Tryz.prog Q a0 w1 := by
  have hbb : Below (n0 + 1) W w1.drew := hbb0.drew
  have hbs : n0 + 1 ≤ w1.drew.heap.size := hbs0
  have hT : Laid w1.drew := hT0
  refine region_free (by kernel_rfl) (fun i => ([Spec.is (.func (.func 35) #[] #[]), Spec.is (.pointer (some ⟨nd, 1, none⟩)), Spec.is (encStr d.n), Spec.is (.int .i64 (numF d.n 100 : Int)), Spec.is (.pointer (some ⟨n0, 0, none⟩)), Spec.is (.int .i64 m.seq), Spec.is (.bool false), Spec.is (.bool true), Spec.is (.bool true), Spec.is (undef), Spec.is (undef), Spec.is (undef), Spec.is (undef), Spec.is (undef), Spec.is (.bool true)] : List Spec).getD i Spec.any) (by rw [hsz0]; kernel_rfl) (ops_all ?_) ?_
  · refine ⟨?_, ?_, ?_, ?_, ?_, ?_, ?_, ?_, ?_, ?_, ?_, ?_, ?_, ?_, ?_, trivial⟩
    · intro ho a w hb hd hold
      have x3 : a.tmps.getD 3 undef = .func (.func 35) #[] #[] := (hold 3 rfl).trans t3
      exact ob_is ho (met_none rfl) (by go_simp) rfl
    · intro ho a w hb hd hold
      have x7 : a.tmps.getD 7 undef = .pointer (some ⟨nd, 0, none⟩) := (hold 7 rfl).trans t7
      exact ob_is ho (met_none rfl) (by go_simp) rfl
    · intro ho a w hb hd hold
      have x76 : a.tmps.getD 76 undef = .pointer (some ⟨nd, 1, none⟩) := hd 1 rfl
      have d1 : w.cell? ⟨nd, 1, none⟩ = some (encStr d.n) := (hb.cell (p := ⟨nd, 1, none⟩) hnd).trans D1
      exact ob_is ho (met_none rfl) (by go_simp) rfl
    · intro ho a w hb hd hold
      have x77 : a.tmps.getD 77 undef = encStr d.n := hd 2 rfl
      refine ob_call (args := #[encStr d.n, .int .u8 100]) ho (met_none rfl) (run_callf Tryz.func32 (by kernel_rfl) rfl rfl (by simpa [Act.eval] using x77)) ?_
      exact (number_any d.n 100 w (hT.below hb (Nat.le_refl _)) (by omega)).mono fun e w2 h => ⟨_, h.1, rfl, h.2⟩
    · intro ho a w hb hd hold
      have x1 : a.tmps.getD 1 undef = .pointer (some ⟨n0, 0, none⟩) := (hold 1 rfl).trans t1
      exact ob_is ho (met_none rfl) (by go_simp) rfl
    · intro ho a w hb hd hold
      have x79 : a.tmps.getD 79 undef = .pointer (some ⟨n0, 0, none⟩) := hd 4 rfl
      have c0 : w.cell? ⟨n0, 0, none⟩ = some (.int .i64 m.seq) := C0 w (hbb.trans (hb.mono hbs))
      exact ob_is ho (met_none rfl) (by go_simp) rfl
    · intro ho a w hb hd hold
      have x75 : a.tmps.getD 75 undef = .func (.func 35) #[] #[] := hd 0 rfl
      have x78 : a.tmps.getD 78 undef = .int .i64 (numF d.n 100 : Int) := hd 3 rfl
      have x80 : a.tmps.getD 80 undef = .int .i64 m.seq := hd 5 rfl
      refine ob_call (args := #[.int .i64 (numF d.n 100 : Int), .int .i64 1, .int .i64 m.seq]) ho (met_none rfl) (run_callv (x := .tmp 75) Tryz.func35 (by kernel_rfl) rfl rfl x75 (by simp [Act.eval]; exact ⟨by simpa using x78, by simpa using x80⟩)) ?_
      exact (within_any _ _ _ w).mono fun e w2 h => ⟨_, h.1, congrArg Value.bool hq, by rw [h.2]; exact Below.refl _ _⟩
    · intro ho a w hb hd hold
      have x81 : a.tmps.getD 81 undef = .bool false := hd 6 rfl
      exact ob_is ho (met_none rfl) (by go_simp) rfl
    · intro ho a w hb hd hold
      have x82 : a.tmps.getD 82 undef = .bool true := hd 7 rfl
      exact ob_is ho (met_none rfl) (by go_simp) rfl
    · intro ho a w hb hd hold
      exact ob_skip ho rfl (hd 8 rfl) rfl
    · intro ho a w hb hd hold
      exact ob_skip ho rfl (hd 8 rfl) rfl
    · intro ho a w hb hd hold
      exact ob_skip ho rfl (hd 8 rfl) rfl
    · intro ho a w hb hd hold
      exact ob_skip ho rfl (hd 8 rfl) rfl
    · intro ho a w hb hd hold
      exact ob_skip ho rfl (hd 8 rfl) rfl
    · intro ho a w hb hd hold
      have x83 : a.tmps.getD 83 undef = .bool true := hd 8 rfl
      have x88 : a.tmps.getD 88 undef = undef := hd 13 rfl
      exact ob_is ho (met_none rfl) (by go_simp) rfl
  · intro a w8 hb hS hold hsz hdf
    exact hQ a w8 hb (hS 14 _ rfl) hold (hsz.trans hsz0) hdf

end Go.Proofs.YtcjbgchhalilnaaGreatDoor
