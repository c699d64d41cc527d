/- ManifestNames: a region that leaves its order open. Printed by man_names.py. -/
import Derived.Test.YtcjbgchhalilnaaGreatDoorJb
import Derived.Test.YtcjbgchhalilnaaGreatDoorHc
namespace Go.Proofs.YtcjbgchhalilnaaGreatDoor
open Go Go.RowKit Go.Lib
set_option linter.unusedVariables false

set_option maxRecDepth 100000 in
set_option maxHeartbeats 2000000 in
theorem names8 {Q0 : Exit → Act → World → Prop} {a0 : Act} {W w1 : World} {nB n0 n9 ci cd k : Nat} {ai ad : Option Addr} {m : Man} {vi vd : Value} {n : Int} (hsz0 : a0.tmps.size = 49)
    (t1 : a0.tmps.getD 1 undef = .int .u8 (k : Int)) (t2 : a0.tmps.getD 2 undef = .int .i64 n) (t3 : a0.tmps.getD 3 undef = .pointer (some ⟨n0, 0, none⟩)) (t9 : a0.tmps.getD 9 undef = .pointer (some ⟨n9, 0, none⟩))
    (hk : k < 256) (hn : -9223372036854775808 ≤ n ∧ n ≤ 9223372036854775807) (hT0 : Laid w1) (hi : m.index.length ≤ 10000) (hd1 : m.data.length ≤ 10000)
    (hl1 : (namesL m).length ≤ 1000000) (hl2 : (ofL m n).length ≤ 1000000) (hl3 : (monthsL m).length ≤ 1000000)
    (hbb0 : Below nB W w1) (hbs0 : nB ≤ w1.heap.size) (hm10 : ReadsM w1 (.agg #[.int .i64 m.seq, .int .i64 m.every, .int .i64 m.keep, .slice ai m.index.length ci, .slice ad m.data.length cd]) m) (hm20 : ReadsM w1 (.agg #[.int .i64 m.seq, .int .i64 m.every, .int .i64 m.keep, vi, vd]) m)
    (C1 : ∀ w', Below nB W w' → w'.cell? ⟨n0, 0, none⟩ = some (.int .i64 m.seq) ∧ w'.cell? ⟨n0, 1, none⟩ = some (.int .i64 m.every) ∧ w'.cell? ⟨n0, 2, none⟩ = some (.int .i64 m.keep) ∧ w'.cell? ⟨n0, 3, none⟩ = some (.slice ai m.index.length ci) ∧ w'.cell? ⟨n0, 4, none⟩ = some (.slice ad m.data.length cd))
    (C2 : ∀ w', Below nB W w' → w'.cell? ⟨n9, 0, none⟩ = some (.int .i64 m.seq) ∧ w'.cell? ⟨n9, 1, none⟩ = some (.int .i64 m.every) ∧ w'.cell? ⟨n9, 2, none⟩ = some (.int .i64 m.keep) ∧ w'.cell? ⟨n9, 3, none⟩ = some vi ∧ w'.cell? ⟨n9, 4, none⟩ = some vd)
    (hQ : ∀ a w8, Below w1.heap.size w1 w8 → a.tmps.getD 6 undef = .bool true → a.tmps.size = 49 → a.defers = a0.defers → Q0 .normal a w8) :
    (Code.region 8 (opsOf Tryz.f3 8) true).wp Tryz.prog Q0 a0 w1 := by
  have hdr : Below w1.heap.size w1 w1.drew := (Below.refl _ _).drew
  have hbb : Below nB W w1.drew := hbb0.drew
  have hbs : nB ≤ w1.drew.heap.size := hbs0
  have hT : Laid w1.drew := hT0.below hdr (Nat.le_refl _)
  have hm1 : ReadsM w1.drew _ m := hm10.below hdr (Nat.le_refl _)
  have hm2 : ReadsM w1.drew _ m := hm20.below hdr (Nat.le_refl _)
  refine region_free (by kernel_rfl) (fun i => ([Spec.is (.agg #[.int .i64 m.seq, .int .i64 m.every, .int .i64 m.keep, .slice ai m.index.length ci, .slice ad m.data.length cd]), Spec.rd encStr (namesL m), Spec.is (.agg #[.int .i64 m.seq, .int .i64 m.every, .int .i64 m.keep, vi, vd]), Spec.rd encStr (namesL m), Spec.is (.bool true), Spec.is (.bool true), Spec.is (.agg #[.int .i64 m.seq, .int .i64 m.every, .int .i64 m.keep, .slice ai m.index.length ci, .slice ad m.data.length cd]), Spec.is (.int .i64 n), Spec.rd encStr (ofL m n), Spec.is (.agg #[.int .i64 m.seq, .int .i64 m.every, .int .i64 m.keep, vi, vd]), Spec.is (.int .i64 n), Spec.rd encStr (ofL m n), Spec.is (.bool true), Spec.is (.bool true), Spec.is (.bool true), Spec.is (.agg #[.int .i64 m.seq, .int .i64 m.every, .int .i64 m.keep, .slice ai m.index.length ci, .slice ad m.data.length cd]), Spec.rd (Value.int .i64) (monthsL m), Spec.is (.agg #[.int .i64 m.seq, .int .i64 m.every, .int .i64 m.keep, vi, vd]), Spec.rd (Value.int .i64) (monthsL m), Spec.is (.bool true), Spec.is (.bool true), Spec.is (.bool true), Spec.is (.int .u8 (k : Int)), Spec.is (.int .i64 n), Spec.is (.string ⟨(nameL k n).toArray⟩), Spec.is (.int .u8 (k : Int)), Spec.is (.int .i64 n), Spec.is (.string ⟨(nameL k n).toArray⟩), Spec.is (.bool true), Spec.is (.bool true), Spec.is (.bool true)] : List Spec).getD i Spec.any) (by rw [hsz0]; kernel_rfl) (ops_all ?_) ?_
  · refine ⟨?_, ?_, ?_, ?_, ?_, ?_, ?_, ?_, ?_, ?_, ?_, ?_, ?_, ?_, ?_, ?_, ?_, ?_, ?_, ?_, ?_, ?_, ?_, ?_, ?_, ?_, ?_, ?_, ?_, ?_, ?_, trivial⟩
    · intro ho a w hb hd hold
      have x3 : a.tmps.getD 3 undef = .pointer (some ⟨n0, 0, none⟩) := (hold 3 rfl).trans t3
      obtain ⟨c0, c1, c2, c3, c4⟩ := C1 w (hbb.trans (hb.mono hbs))
      exact ob_is ho (met_none rfl) (by go_simp) rfl
    · intro ho a w hb hd hold
      have x19 : a.tmps.getD 19 undef = .agg #[.int .i64 m.seq, .int .i64 m.every, .int .i64 m.keep, .slice ai m.index.length ci, .slice ad m.data.length cd] := hd 0 rfl
      refine ob_call (args := #[.agg #[.int .i64 m.seq, .int .i64 m.every, .int .i64 m.keep, .slice ai m.index.length ci, .slice ad m.data.length cd]]) ho (met_none rfl) (run_callf Tryz.func12 (by kernel_rfl) rfl rfl (by simp only [List.map_toArray, List.map_cons, List.map_nil, Act.eval, x19])) ?_
      exact (Names_any _ m w (by omega) (by omega) (hm1.below hb (Nat.le_refl _))).mono fun e w2 h => h
    · intro ho a w hb hd hold
      have x9 : a.tmps.getD 9 undef = .pointer (some ⟨n9, 0, none⟩) := (hold 9 rfl).trans t9
      obtain ⟨c0, c1, c2, c3, c4⟩ := C2 w (hbb.trans (hb.mono hbs))
      exact ob_is ho (met_none rfl) (by go_simp) rfl
    · intro ho a w hb hd hold
      have x21 : a.tmps.getD 21 undef = .agg #[.int .i64 m.seq, .int .i64 m.every, .int .i64 m.keep, vi, vd] := hd 2 rfl
      refine ob_call (args := #[.agg #[.int .i64 m.seq, .int .i64 m.every, .int .i64 m.keep, vi, vd]]) ho (met_none rfl) (run_callf Tryz.func13 (by kernel_rfl) rfl rfl (by simp only [List.map_toArray, List.map_cons, List.map_nil, Act.eval, x21])) ?_
      exact (refNames_any _ m w (by omega) (by omega) (hm2.below hb (Nat.le_refl _))).mono fun e w2 h => h
    · intro ho a w hb hd hold
      have x20 : Reads w encStr (a.tmps.getD 20 undef) (namesL m) := hd 1 rfl
      have x22 : Reads w encStr (a.tmps.getD 22 undef) (namesL m) := hd 3 rfl
      refine ob_call (args := #[a.tmps.getD 20 undef, a.tmps.getD 22 undef]) ho (met_none rfl) (run_callf Tryz.func11 (by kernel_rfl) rfl rfl (by simp only [List.map_toArray, List.map_cons, List.map_nil, Act.eval])) ?_
      exact (strs_any _ _ (namesL m) (namesL m) w (by omega) x20 x22).mono fun e w2 h => ⟨.bool true, by rw [h.1, beq_self_eq_true], rfl, h.2⟩
    · intro ho a w hb hd hold
      have x23 : a.tmps.getD 23 undef = .bool true := hd 4 rfl
      exact ob_is ho (met_none rfl) (by go_simp) rfl
    · intro ho a w hb hd hold
      have x3 : a.tmps.getD 3 undef = .pointer (some ⟨n0, 0, none⟩) := (hold 3 rfl).trans t3
      obtain ⟨c0, c1, c2, c3, c4⟩ := C1 w (hbb.trans (hb.mono hbs))
      exact ob_is ho (met_some rfl (hd 5 rfl)) (by go_simp) rfl
    · intro ho a w hb hd hold
      have x2 : a.tmps.getD 2 undef = .int .i64 n := (hold 2 rfl).trans t2
      exact ob_is ho (met_some rfl (hd 5 rfl)) (by go_simp) rfl
    · intro ho a w hb hd hold
      have x25 : a.tmps.getD 25 undef = .agg #[.int .i64 m.seq, .int .i64 m.every, .int .i64 m.keep, .slice ai m.index.length ci, .slice ad m.data.length cd] := hd 6 rfl
      have x26 : a.tmps.getD 26 undef = .int .i64 n := hd 7 rfl
      refine ob_call (args := #[.agg #[.int .i64 m.seq, .int .i64 m.every, .int .i64 m.keep, .slice ai m.index.length ci, .slice ad m.data.length cd], .int .i64 n]) ho (met_some rfl (hd 5 rfl)) (run_callf Tryz.func14 (by kernel_rfl) rfl rfl (by simp only [List.map_toArray, List.map_cons, List.map_nil, Act.eval, x25, x26])) ?_
      exact (Of_any _ m n w (by omega) (hm1.below hb (Nat.le_refl _))).mono fun e w2 ⟨v, h1, h2, h3⟩ => ⟨v, h1, Reads.of_owns h2, h3⟩
    · intro ho a w hb hd hold
      have x9 : a.tmps.getD 9 undef = .pointer (some ⟨n9, 0, none⟩) := (hold 9 rfl).trans t9
      obtain ⟨c0, c1, c2, c3, c4⟩ := C2 w (hbb.trans (hb.mono hbs))
      exact ob_is ho (met_some rfl (hd 5 rfl)) (by go_simp) rfl
    · intro ho a w hb hd hold
      have x2 : a.tmps.getD 2 undef = .int .i64 n := (hold 2 rfl).trans t2
      exact ob_is ho (met_some rfl (hd 5 rfl)) (by go_simp) rfl
    · intro ho a w hb hd hold
      have x28 : a.tmps.getD 28 undef = .agg #[.int .i64 m.seq, .int .i64 m.every, .int .i64 m.keep, vi, vd] := hd 9 rfl
      have x29 : a.tmps.getD 29 undef = .int .i64 n := hd 10 rfl
      refine ob_call (args := #[.agg #[.int .i64 m.seq, .int .i64 m.every, .int .i64 m.keep, vi, vd], .int .i64 n]) ho (met_some rfl (hd 5 rfl)) (run_callf Tryz.func15 (by kernel_rfl) rfl rfl (by simp only [List.map_toArray, List.map_cons, List.map_nil, Act.eval, x28, x29])) ?_
      exact (refOf_any _ m n w (by omega) (hm2.below hb (Nat.le_refl _))).mono fun e w2 h => h
    · intro ho a w hb hd hold
      have x27 : Reads w encStr (a.tmps.getD 27 undef) (ofL m n) := hd 8 rfl
      have x30 : Reads w encStr (a.tmps.getD 30 undef) (ofL m n) := hd 11 rfl
      refine ob_call (args := #[a.tmps.getD 27 undef, a.tmps.getD 30 undef]) ho (met_some rfl (hd 5 rfl)) (run_callf Tryz.func11 (by kernel_rfl) rfl rfl (by simp only [List.map_toArray, List.map_cons, List.map_nil, Act.eval])) ?_
      exact (strs_any _ _ (ofL m n) (ofL m n) w (by omega) x27 x30).mono fun e w2 h => ⟨.bool true, by rw [h.1, beq_self_eq_true], rfl, h.2⟩
    · intro ho a w hb hd hold
      have x24 : a.tmps.getD 24 undef = .bool true := hd 5 rfl
      have x31 : a.tmps.getD 31 undef = .bool true := hd 12 rfl
      exact ob_is ho (met_none rfl) (by go_simp) rfl
    · intro ho a w hb hd hold
      have x32 : a.tmps.getD 32 undef = .bool true := hd 13 rfl
      exact ob_is ho (met_none rfl) (by go_simp) rfl
    · intro ho a w hb hd hold
      have x3 : a.tmps.getD 3 undef = .pointer (some ⟨n0, 0, none⟩) := (hold 3 rfl).trans t3
      obtain ⟨c0, c1, c2, c3, c4⟩ := C1 w (hbb.trans (hb.mono hbs))
      exact ob_is ho (met_some rfl (hd 14 rfl)) (by go_simp) rfl
    · intro ho a w hb hd hold
      have x34 : a.tmps.getD 34 undef = .agg #[.int .i64 m.seq, .int .i64 m.every, .int .i64 m.keep, .slice ai m.index.length ci, .slice ad m.data.length cd] := hd 15 rfl
      refine ob_call (args := #[.agg #[.int .i64 m.seq, .int .i64 m.every, .int .i64 m.keep, .slice ai m.index.length ci, .slice ad m.data.length cd]]) ho (met_some rfl (hd 14 rfl)) (run_callf Tryz.func17 (by kernel_rfl) rfl rfl (by simp only [List.map_toArray, List.map_cons, List.map_nil, Act.eval, x34])) ?_
      exact (Months_any _ m w (by omega) (hm1.below hb (Nat.le_refl _))).mono fun e w2 h => h
    · intro ho a w hb hd hold
      have x9 : a.tmps.getD 9 undef = .pointer (some ⟨n9, 0, none⟩) := (hold 9 rfl).trans t9
      obtain ⟨c0, c1, c2, c3, c4⟩ := C2 w (hbb.trans (hb.mono hbs))
      exact ob_is ho (met_some rfl (hd 14 rfl)) (by go_simp) rfl
    · intro ho a w hb hd hold
      have x36 : a.tmps.getD 36 undef = .agg #[.int .i64 m.seq, .int .i64 m.every, .int .i64 m.keep, vi, vd] := hd 17 rfl
      refine ob_call (args := #[.agg #[.int .i64 m.seq, .int .i64 m.every, .int .i64 m.keep, vi, vd]]) ho (met_some rfl (hd 14 rfl)) (run_callf Tryz.func18 (by kernel_rfl) rfl rfl (by simp only [List.map_toArray, List.map_cons, List.map_nil, Act.eval, x36])) ?_
      exact (refMonths_any _ m w (by omega) (hm2.below hb (Nat.le_refl _))).mono fun e w2 h => h
    · intro ho a w hb hd hold
      have x35 : Reads w (Value.int .i64) (a.tmps.getD 35 undef) (monthsL m) := hd 16 rfl
      have x37 : Reads w (Value.int .i64) (a.tmps.getD 37 undef) (monthsL m) := hd 18 rfl
      refine ob_call (args := #[a.tmps.getD 35 undef, a.tmps.getD 37 undef]) ho (met_some rfl (hd 14 rfl)) (run_callf Tryz.func16 (by kernel_rfl) rfl rfl (by simp only [List.map_toArray, List.map_cons, List.map_nil, Act.eval])) ?_
      exact (ints_any _ _ (monthsL m) (monthsL m) w (by omega) x35 x37).mono fun e w2 h => ⟨.bool true, by rw [h.1, beq_self_eq_true], rfl, h.2⟩
    · intro ho a w hb hd hold
      have x33 : a.tmps.getD 33 undef = .bool true := hd 14 rfl
      have x38 : a.tmps.getD 38 undef = .bool true := hd 19 rfl
      exact ob_is ho (met_none rfl) (by go_simp) rfl
    · intro ho a w hb hd hold
      have x39 : a.tmps.getD 39 undef = .bool true := hd 20 rfl
      exact ob_is ho (met_none rfl) (by go_simp) rfl
    · intro ho a w hb hd hold
      have x1 : a.tmps.getD 1 undef = .int .u8 (k : Int) := (hold 1 rfl).trans t1
      exact ob_is ho (met_some rfl (hd 21 rfl)) (by go_simp) rfl
    · intro ho a w hb hd hold
      have x2 : a.tmps.getD 2 undef = .int .i64 n := (hold 2 rfl).trans t2
      exact ob_is ho (met_some rfl (hd 21 rfl)) (by go_simp) rfl
    · intro ho a w hb hd hold
      have x41 : a.tmps.getD 41 undef = .int .u8 (k : Int) := hd 22 rfl
      have x42 : a.tmps.getD 42 undef = .int .i64 n := hd 23 rfl
      refine ob_call (args := #[.int .u8 (k : Int), .int .i64 n]) ho (met_some rfl (hd 21 rfl)) (run_callf Tryz.func19 (by kernel_rfl) rfl rfl (by simp only [List.map_toArray, List.map_cons, List.map_nil, Act.eval, x41, x42])) ?_
      exact (Name_any k n w (hT.below hb (Nat.le_refl _)) hk hn).mono fun e w2 h => ⟨_, h.1, rfl, h.2⟩
    · intro ho a w hb hd hold
      have x1 : a.tmps.getD 1 undef = .int .u8 (k : Int) := (hold 1 rfl).trans t1
      exact ob_is ho (met_some rfl (hd 21 rfl)) (by go_simp) rfl
    · intro ho a w hb hd hold
      have x2 : a.tmps.getD 2 undef = .int .i64 n := (hold 2 rfl).trans t2
      exact ob_is ho (met_some rfl (hd 21 rfl)) (by go_simp) rfl
    · intro ho a w hb hd hold
      have x44 : a.tmps.getD 44 undef = .int .u8 (k : Int) := hd 25 rfl
      have x45 : a.tmps.getD 45 undef = .int .i64 n := hd 26 rfl
      refine ob_call (args := #[.int .u8 (k : Int), .int .i64 n]) ho (met_some rfl (hd 21 rfl)) (run_callf Tryz.func20 (by kernel_rfl) rfl rfl (by simp only [List.map_toArray, List.map_cons, List.map_nil, Act.eval, x44, x45])) ?_
      exact (refName_any k n w hk hn).mono fun e w2 h => ⟨_, h.1, rfl, h.2⟩
    · intro ho a w hb hd hold
      have x43 : a.tmps.getD 43 undef = .string ⟨(nameL k n).toArray⟩ := hd 24 rfl
      have x46 : a.tmps.getD 46 undef = .string ⟨(nameL k n).toArray⟩ := hd 27 rfl
      exact ob_is ho (met_some rfl (hd 21 rfl)) (run_eqs rfl x43 x46 (beq_self_eq_true (nameL k n))) rfl
    · intro ho a w hb hd hold
      have x40 : a.tmps.getD 40 undef = .bool true := hd 21 rfl
      have x47 : a.tmps.getD 47 undef = .bool true := hd 28 rfl
      exact ob_is ho (met_none rfl) (by go_simp) rfl
    · intro ho a w hb hd hold
      have x48 : a.tmps.getD 48 undef = .bool true := hd 29 rfl
      exact ob_is ho (met_none rfl) (by go_simp) rfl
  · intro a w8 hb hS hold hsz hdf
    exact hQ a w8 hb (hS 30 _ rfl) (hsz.trans hsz0) hdf
end Go.Proofs.YtcjbgchhalilnaaGreatDoor
