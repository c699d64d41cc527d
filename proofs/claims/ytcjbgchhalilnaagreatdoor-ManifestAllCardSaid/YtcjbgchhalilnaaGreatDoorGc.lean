/- ManifestAll: a region that leaves its order open. Printed by man_all.py. -/
import Derived.Test.YtcjbgchhalilnaaGreatDoorEj
import Derived.Test.YtcjbgchhalilnaaGreatDoorKe
import Derived.WalkLawsBesides
namespace Go.Proofs.YtcjbgchhalilnaaGreatDoor
open Go Go.RowKit Go.Lib
set_option linter.unusedVariables false

set_option maxRecDepth 100000 in
theorem all11 {Q : Exit → Act → World → Prop} {a0 : Act} {W w1 : World} {n0 ci cd b off cl j L : Nat} {ai ad : Option Addr} {m : Man} {mo : Int} (hsz0 : a0.tmps.size = 89)
    (t1 : a0.tmps.getD 1 undef = .pointer (some ⟨n0, 0, none⟩)) (t4 : a0.tmps.getD 4 undef = .slice (some ⟨b, off, none⟩) L cl) (t6 : a0.tmps.getD 6 undef = .int .i64 (j : Int)) (hj : j < L) (hL : L ≤ 100000) (hl : m.data.length ≤ 10000)
    (hbb0 : Below (n0 + 1) W w1) (hbs0 : n0 + 1 ≤ w1.heap.size) (hrm0 : ReadsM w1 (.agg #[.int .i64 m.seq, .int .i64 m.every, .int .i64 m.keep, .slice ai m.index.length ci, .slice ad m.data.length cd]) m) (hbl0 : b < w1.heap.size) (hc1 : w1.cell? ⟨b, off + j, none⟩ = some (.int .i64 mo))
    (CC : ∀ w', Below (n0 + 1) W w' → w'.cell? ⟨n0, 0, none⟩ = some (.int .i64 m.seq) ∧ w'.cell? ⟨n0, 1, none⟩ = some (.int .i64 m.every) ∧ w'.cell? ⟨n0, 2, none⟩ = some (.int .i64 m.keep) ∧ w'.cell? ⟨n0, 3, none⟩ = some (.slice ai m.index.length ci) ∧ w'.cell? ⟨n0, 4, none⟩ = some (.slice ad m.data.length cd))
    (hQ : ∀ a w8, Below w1.heap.size w1 w8 → Reads w8 encStr (a.tmps.getD 7 undef) (ofL m mo) → (∀ t, isDst (opsOf Tryz.f5 11) t = false → a.tmps.getD t undef = a0.tmps.getD t undef) → a.tmps.size = 89 → a.defers = a0.defers → Q .normal a w8) :
    (Code.region 11 (opsOf Tryz.f5 11) true).wp Tryz.prog Q a0 w1 := by
  have hbb : Below (n0 + 1) W w1.drew := hbb0.drew
  have hbs : n0 + 1 ≤ w1.drew.heap.size := hbs0
  have hrm : ReadsM w1.drew _ m := hrm0.below (B := w1.heap.size) (Below.refl _ _).drew (Nat.le_refl _)
  have hbl : b < w1.drew.heap.size := hbl0
  have hc0 : w1.drew.cell? ⟨b, off + j, none⟩ = some (.int .i64 mo) := hc1
  have hj' : (j : Int) < L := by omega
  refine region_free (by kernel_rfl) (fun i => ([Spec.is (.agg #[.int .i64 m.seq, .int .i64 m.every, .int .i64 m.keep, .slice ai m.index.length ci, .slice ad m.data.length cd]), Spec.is (.slice (some ⟨b, off, none⟩) L cl), Spec.is (.int .i64 (j : Int)), Spec.is (.pointer (some ⟨b, off + j, none⟩)), Spec.is (.int .i64 mo), Spec.rd encStr (ofL m mo), Spec.rd encStr (ofL m mo)] : List Spec).getD i Spec.any) (by rw [hsz0]; kernel_rfl) (ops_all ?_) ?_
  · refine ⟨?_, ?_, ?_, ?_, ?_, ?_, ?_, trivial⟩
    · intro ho a w hb hd hold
      have x1 : a.tmps.getD 1 undef = .pointer (some ⟨n0, 0, none⟩) := (hold 1 rfl).trans t1
      obtain ⟨c0, c1, c2, c3, c4⟩ := CC w (hbb.trans (hb.mono hbs))
      exact ob_is ho (met_none rfl) (by go_simp) rfl
    · intro ho a w hb hd hold
      have x4 : a.tmps.getD 4 undef = .slice (some ⟨b, off, none⟩) L cl := (hold 4 rfl).trans t4
      exact ob_is ho (met_none rfl) (by go_simp) rfl
    · intro ho a w hb hd hold
      have x6 : a.tmps.getD 6 undef = .int .i64 (j : Int) := (hold 6 rfl).trans t6
      exact ob_is ho (met_none rfl) (by go_simp) rfl
    · intro ho a w hb hd hold
      have x28 : a.tmps.getD 28 undef = .slice (some ⟨b, off, none⟩) L cl := hd 1 rfl
      have x29 : a.tmps.getD 29 undef = .int .i64 (j : Int) := hd 2 rfl
      exact ob_is ho (met_none rfl) (by go_simp) rfl
    · intro ho a w hb hd hold
      have x30 : a.tmps.getD 30 undef = .pointer (some ⟨b, off + j, none⟩) := hd 3 rfl
      have hc : w.cell? ⟨b, off + j, none⟩ = some (.int .i64 mo) := (hb.cell (p := ⟨b, off + j, none⟩) hbl).trans hc0
      exact ob_is ho (met_none rfl) (by go_simp) rfl
    · intro ho a w hb hd hold
      have x27 : a.tmps.getD 27 undef = .agg #[.int .i64 m.seq, .int .i64 m.every, .int .i64 m.keep, .slice ai m.index.length ci, .slice ad m.data.length cd] := hd 0 rfl
      have x31 : a.tmps.getD 31 undef = .int .i64 mo := hd 4 rfl
      refine ob_call (args := #[.agg #[.int .i64 m.seq, .int .i64 m.every, .int .i64 m.keep, .slice ai m.index.length ci, .slice ad m.data.length cd], .int .i64 mo]) ho (met_none rfl) (run_callf Tryz.func14 (by kernel_rfl) rfl rfl (by simp only [List.map_toArray, List.map_cons, List.map_nil, Act.eval, x27, x31])) ?_
      exact (Of_any _ m mo w (by omega) (hrm.below hb (Nat.le_refl _))).mono fun e w2 ⟨v, h1, h2, h3⟩ => ⟨v, h1, Reads.of_owns h2, h3⟩
    · intro ho a w hb hd hold
      have x32 : Reads w encStr (a.tmps.getD 32 undef) (ofL m mo) := hd 5 rfl
      exact ob_is ho (met_none rfl) (run_assign _ rfl rfl) x32
  · intro a w8 hb hS hold hsz hdf
    exact hQ a w8 hb (hS 6 _ rfl) hold (hsz.trans hsz0) hdf

set_option maxRecDepth 100000 in
theorem all12_pos {Q : Exit → Act → World → Prop} {a0 : Act} {w1 : World} {b off cl j L K cy : Nat} {ay : Option Addr} {mo mp : Int} (hsz0 : a0.tmps.size = 89)
    (t7 : a0.tmps.getD 7 undef = .slice ay K cy) (t4 : a0.tmps.getD 4 undef = .slice (some ⟨b, off, none⟩) L cl) (t6 : a0.tmps.getD 6 undef = .int .i64 (j : Int)) (hj : j < L) (hL : L ≤ 100000) (hK : 0 < K) (hbl0 : b < w1.heap.size) (hj0 : 0 < j) (hc1 : w1.cell? ⟨b, off + j, none⟩ = some (.int .i64 mo)) (hp1 : w1.cell? ⟨b, off + (j - 1), none⟩ = some (.int .i64 mp)) (hlt : mp < mo)
    (hQ : ∀ a w8, Below w1.heap.size w1 w8 → a.tmps.getD 51 undef = .bool false → (∀ t, isDst (opsOf Tryz.f5 12) t = false → a.tmps.getD t undef = a0.tmps.getD t undef) → a.tmps.size = 89 → a.defers = a0.defers → Q .normal a w8) :
    (Code.region 12 (opsOf Tryz.f5 12) true).wp Tryz.prog Q a0 w1 := by
  have hbl : b < w1.drew.heap.size := hbl0
  have hj' : (j : Int) < L := by omega
  have hK' : ((K : Int) == 0) = false := by simp; omega
  have hc0 : w1.drew.cell? ⟨b, off + j, none⟩ = some (.int .i64 mo) := hc1
  have hp0 : w1.drew.cell? ⟨b, off + (j - 1), none⟩ = some (.int .i64 mp) := hp1
  have hj0' : (0 : Int) < j := by omega
  have hjp : ((j - 1 : Nat) : Int) < L := by omega
  have hnle : ¬ mo ≤ mp := by omega
  refine region_free (by kernel_rfl) (fun i => ([Spec.is (.slice ay K cy), Spec.is (.int .i64 (K : Int)), Spec.is (.bool false), Spec.is (.bool false), Spec.is (.int .i64 (j : Int)), Spec.is (.bool true), Spec.is (.bool true), Spec.is (.slice (some ⟨b, off, none⟩) L cl), Spec.is (.int .i64 (j : Int)), Spec.is (.pointer (some ⟨b, off + j, none⟩)), Spec.is (.int .i64 mo), Spec.is (.slice (some ⟨b, off, none⟩) L cl), Spec.is (.int .i64 (j : Int)), Spec.is (.int .i64 ((j - 1 : Nat) : Int)), Spec.is (.pointer (some ⟨b, off + (j - 1), none⟩)), Spec.is (.int .i64 mp), Spec.is (.bool false), Spec.is (.bool false), Spec.is (.bool false)] : List Spec).getD i Spec.any) (by rw [hsz0]; kernel_rfl) (ops_all ?_) ?_
  · refine ⟨?_, ?_, ?_, ?_, ?_, ?_, ?_, ?_, ?_, ?_, ?_, ?_, ?_, ?_, ?_, ?_, ?_, ?_, ?_, trivial⟩
    · intro ho a w hb hd hold
      have x7 : a.tmps.getD 7 undef = .slice ay K cy := (hold 7 rfl).trans t7
      exact ob_is ho (met_none rfl) (by go_simp) rfl
    · intro ho a w hb hd hold
      have x33 : a.tmps.getD 33 undef = .slice ay K cy := hd 0 rfl
      exact ob_is ho (met_none rfl) (by go_simp) rfl
    · intro ho a w hb hd hold
      have x34 : a.tmps.getD 34 undef = .int .i64 (K : Int) := hd 1 rfl
      exact ob_is ho (met_none rfl) (by go_simp) rfl
    · intro ho a w hb hd hold
      have x35 : a.tmps.getD 35 undef = .bool false := hd 2 rfl
      exact ob_is ho (met_none rfl) (by go_simp) rfl
    · intro ho a w hb hd hold
      have x6 : a.tmps.getD 6 undef = .int .i64 (j : Int) := (hold 6 rfl).trans t6
      exact ob_is ho (met_some rfl (hd 3 rfl)) (by go_simp) rfl
    · intro ho a w hb hd hold
      have x37 : a.tmps.getD 37 undef = .int .i64 (j : Int) := hd 4 rfl
      exact ob_is ho (met_some rfl (hd 3 rfl)) (by go_simp) rfl
    · intro ho a w hb hd hold
      have x38 : a.tmps.getD 38 undef = .bool true := hd 5 rfl
      exact ob_is ho (met_some rfl (hd 3 rfl)) (by go_simp) rfl
    · intro ho a w hb hd hold
      have x4 : a.tmps.getD 4 undef = .slice (some ⟨b, off, none⟩) L cl := (hold 4 rfl).trans t4
      exact ob_is ho (met_some rfl (hd 6 rfl)) (by go_simp) rfl
    · intro ho a w hb hd hold
      have x6 : a.tmps.getD 6 undef = .int .i64 (j : Int) := (hold 6 rfl).trans t6
      exact ob_is ho (met_some rfl (hd 6 rfl)) (by go_simp) rfl
    · intro ho a w hb hd hold
      have x40 : a.tmps.getD 40 undef = .slice (some ⟨b, off, none⟩) L cl := hd 7 rfl
      have x41 : a.tmps.getD 41 undef = .int .i64 (j : Int) := hd 8 rfl
      exact ob_is ho (met_some rfl (hd 6 rfl)) (by go_simp) rfl
    · intro ho a w hb hd hold
      have x42 : a.tmps.getD 42 undef = .pointer (some ⟨b, off + j, none⟩) := hd 9 rfl
      have hc : w.cell? ⟨b, off + j, none⟩ = some (.int .i64 mo) := (hb.cell (p := ⟨b, off + j, none⟩) hbl).trans hc0
      exact ob_is ho (met_some rfl (hd 6 rfl)) (by go_simp) rfl
    · intro ho a w hb hd hold
      have x4 : a.tmps.getD 4 undef = .slice (some ⟨b, off, none⟩) L cl := (hold 4 rfl).trans t4
      exact ob_is ho (met_some rfl (hd 6 rfl)) (by go_simp) rfl
    · intro ho a w hb hd hold
      have x6 : a.tmps.getD 6 undef = .int .i64 (j : Int) := (hold 6 rfl).trans t6
      exact ob_is ho (met_some rfl (hd 6 rfl)) (by go_simp) rfl
    · intro ho a w hb hd hold
      have x45 : a.tmps.getD 45 undef = .int .i64 (j : Int) := hd 12 rfl
      have e1 : IntKind.i64.wrap ((j : Int) - 1) = ((j - 1 : Nat) : Int) := by rw [IntKind.wrap_i64]; omega
      exact ob_is ho (met_some rfl (hd 6 rfl)) (by go_simp) rfl
    · intro ho a w hb hd hold
      have x44 : a.tmps.getD 44 undef = .slice (some ⟨b, off, none⟩) L cl := hd 11 rfl
      have x46 : a.tmps.getD 46 undef = .int .i64 ((j - 1 : Nat) : Int) := hd 13 rfl
      exact ob_is ho (met_some rfl (hd 6 rfl)) (by go_simp) rfl
    · intro ho a w hb hd hold
      have x47 : a.tmps.getD 47 undef = .pointer (some ⟨b, off + (j - 1), none⟩) := hd 14 rfl
      have hc : w.cell? ⟨b, off + (j - 1), none⟩ = some (.int .i64 mp) := (hb.cell (p := ⟨b, off + (j - 1), none⟩) hbl).trans hp0
      exact ob_is ho (met_some rfl (hd 6 rfl)) (by go_simp) rfl
    · intro ho a w hb hd hold
      have x43 : a.tmps.getD 43 undef = .int .i64 mo := hd 10 rfl
      have x48 : a.tmps.getD 48 undef = .int .i64 mp := hd 15 rfl
      exact ob_is ho (met_some rfl (hd 6 rfl)) (by go_simp) rfl
    · intro ho a w hb hd hold
      have x39 : a.tmps.getD 39 undef = .bool true := hd 6 rfl
      have x49 : a.tmps.getD 49 undef = .bool false := hd 16 rfl
      exact ob_is ho (met_some rfl (hd 3 rfl)) (by go_simp) rfl
    · intro ho a w hb hd hold
      have x36 : a.tmps.getD 36 undef = .bool false := hd 3 rfl
      have x50 : a.tmps.getD 50 undef = .bool false := hd 17 rfl
      exact ob_is ho (met_none rfl) (by go_simp) rfl
  · intro a w8 hb hS hold hsz hdf
    exact hQ a w8 hb (hS 18 _ rfl) hold (hsz.trans hsz0) hdf

set_option maxRecDepth 100000 in
theorem all12_zero {Q : Exit → Act → World → Prop} {a0 : Act} {w1 : World} {b off cl j L K cy : Nat} {ay : Option Addr} {mo mp : Int} (hsz0 : a0.tmps.size = 89)
    (t7 : a0.tmps.getD 7 undef = .slice ay K cy) (t4 : a0.tmps.getD 4 undef = .slice (some ⟨b, off, none⟩) L cl) (t6 : a0.tmps.getD 6 undef = .int .i64 (j : Int)) (hj : j < L) (hL : L ≤ 100000) (hK : 0 < K) (hbl0 : b < w1.heap.size) (hj0 : ¬ 0 < j)
    (hQ : ∀ a w8, Below w1.heap.size w1 w8 → a.tmps.getD 51 undef = .bool false → (∀ t, isDst (opsOf Tryz.f5 12) t = false → a.tmps.getD t undef = a0.tmps.getD t undef) → a.tmps.size = 89 → a.defers = a0.defers → Q .normal a w8) :
    (Code.region 12 (opsOf Tryz.f5 12) true).wp Tryz.prog Q a0 w1 := by
  have hbl : b < w1.drew.heap.size := hbl0
  have hj' : (j : Int) < L := by omega
  have hK' : ((K : Int) == 0) = false := by simp; omega
  have hj0' : ¬ (0 : Int) < j := by omega
  refine region_free (by kernel_rfl) (fun i => ([Spec.is (.slice ay K cy), Spec.is (.int .i64 (K : Int)), Spec.is (.bool false), Spec.is (.bool false), Spec.is (.int .i64 (j : Int)), Spec.is (.bool false), Spec.is (.bool false), Spec.is (undef), Spec.is (undef), Spec.is (undef), Spec.is (undef), Spec.is (undef), Spec.is (undef), Spec.is (undef), Spec.is (undef), Spec.is (undef), Spec.is (undef), Spec.is (.bool false), Spec.is (.bool false)] : List Spec).getD i Spec.any) (by rw [hsz0]; kernel_rfl) (ops_all ?_) ?_
  · refine ⟨?_, ?_, ?_, ?_, ?_, ?_, ?_, ?_, ?_, ?_, ?_, ?_, ?_, ?_, ?_, ?_, ?_, ?_, ?_, trivial⟩
    · intro ho a w hb hd hold
      have x7 : a.tmps.getD 7 undef = .slice ay K cy := (hold 7 rfl).trans t7
      exact ob_is ho (met_none rfl) (by go_simp) rfl
    · intro ho a w hb hd hold
      have x33 : a.tmps.getD 33 undef = .slice ay K cy := hd 0 rfl
      exact ob_is ho (met_none rfl) (by go_simp) rfl
    · intro ho a w hb hd hold
      have x34 : a.tmps.getD 34 undef = .int .i64 (K : Int) := hd 1 rfl
      exact ob_is ho (met_none rfl) (by go_simp) rfl
    · intro ho a w hb hd hold
      have x35 : a.tmps.getD 35 undef = .bool false := hd 2 rfl
      exact ob_is ho (met_none rfl) (by go_simp) rfl
    · intro ho a w hb hd hold
      have x6 : a.tmps.getD 6 undef = .int .i64 (j : Int) := (hold 6 rfl).trans t6
      exact ob_is ho (met_some rfl (hd 3 rfl)) (by go_simp) rfl
    · intro ho a w hb hd hold
      have x37 : a.tmps.getD 37 undef = .int .i64 (j : Int) := hd 4 rfl
      exact ob_is ho (met_some rfl (hd 3 rfl)) (by go_simp) rfl
    · intro ho a w hb hd hold
      have x38 : a.tmps.getD 38 undef = .bool false := hd 5 rfl
      exact ob_is ho (met_some rfl (hd 3 rfl)) (by go_simp) rfl
    · intro ho a w hb hd hold
      exact ob_skip ho rfl (hd 6 rfl) rfl
    · intro ho a w hb hd hold
      exact ob_skip ho rfl (hd 6 rfl) rfl
    · intro ho a w hb hd hold
      exact ob_skip ho rfl (hd 6 rfl) rfl
    · intro ho a w hb hd hold
      exact ob_skip ho rfl (hd 6 rfl) rfl
    · intro ho a w hb hd hold
      exact ob_skip ho rfl (hd 6 rfl) rfl
    · intro ho a w hb hd hold
      exact ob_skip ho rfl (hd 6 rfl) rfl
    · intro ho a w hb hd hold
      exact ob_skip ho rfl (hd 6 rfl) rfl
    · intro ho a w hb hd hold
      exact ob_skip ho rfl (hd 6 rfl) rfl
    · intro ho a w hb hd hold
      exact ob_skip ho rfl (hd 6 rfl) rfl
    · intro ho a w hb hd hold
      exact ob_skip ho rfl (hd 6 rfl) rfl
    · intro ho a w hb hd hold
      have x39 : a.tmps.getD 39 undef = .bool false := hd 6 rfl
      have x49 : a.tmps.getD 49 undef = undef := hd 16 rfl
      exact ob_is ho (met_some rfl (hd 3 rfl)) (by go_simp) rfl
    · intro ho a w hb hd hold
      have x36 : a.tmps.getD 36 undef = .bool false := hd 3 rfl
      have x50 : a.tmps.getD 50 undef = .bool false := hd 17 rfl
      exact ob_is ho (met_none rfl) (by go_simp) rfl
  · intro a w8 hb hS hold hsz hdf
    exact hQ a w8 hb (hS 18 _ rfl) hold (hsz.trans hsz0) hdf

set_option maxRecDepth 100000 in
theorem all19 {Q : Exit → Act → World → Prop} {a0 : Act} {w1 : World} {b off cl j L : Nat} {X Y : List UInt8} (hsz0 : a0.tmps.size = 89)
    (t8 : a0.tmps.getD 8 undef = .slice (some ⟨b, off, none⟩) L cl) (t9 : a0.tmps.getD 9 undef = .int .i64 (j : Int)) (hj : j < L) (hL : L ≤ 100000) (hj0 : 0 < j) (hbl0 : b < w1.heap.size) (hc1 : w1.cell? ⟨b, off + (j - 1), none⟩ = some (encStr X)) (hp1 : w1.cell? ⟨b, off + j, none⟩ = some (encStr Y)) (hlt : Op.bytesLess X Y = true)
    (hQ : ∀ a w8, Below w1.heap.size w1 w8 → a.tmps.getD 73 undef = .bool false → (∀ t, isDst (opsOf Tryz.f5 19) t = false → a.tmps.getD t undef = a0.tmps.getD t undef) → a.tmps.size = 89 → a.defers = a0.defers → Q .normal a w8) :
    (Code.region 19 (opsOf Tryz.f5 19) true).wp Tryz.prog Q a0 w1 := by
  have hbl : b < w1.drew.heap.size := hbl0
  have hj' : (j : Int) < L := by omega
  have hjp : ((j - 1 : Nat) : Int) < L := by omega
  have hc0 : w1.drew.cell? ⟨b, off + (j - 1), none⟩ = some (.string ⟨X.toArray⟩) := hc1
  have hp0 : w1.drew.cell? ⟨b, off + j, none⟩ = some (.string ⟨Y.toArray⟩) := hp1
  refine region_free (by kernel_rfl) (fun i => ([Spec.is (.slice (some ⟨b, off, none⟩) L cl), Spec.is (.int .i64 (j : Int)), Spec.is (.int .i64 ((j - 1 : Nat) : Int)), Spec.is (.pointer (some ⟨b, off + (j - 1), none⟩)), Spec.is (.string ⟨X.toArray⟩), Spec.is (.slice (some ⟨b, off, none⟩) L cl), Spec.is (.int .i64 (j : Int)), Spec.is (.pointer (some ⟨b, off + j, none⟩)), Spec.is (.string ⟨Y.toArray⟩), Spec.is (.bool false)] : List Spec).getD i Spec.any) (by rw [hsz0]; kernel_rfl) (ops_all ?_) ?_
  · refine ⟨?_, ?_, ?_, ?_, ?_, ?_, ?_, ?_, ?_, ?_, trivial⟩
    · intro ho a w hb hd hold
      have x8 : a.tmps.getD 8 undef = .slice (some ⟨b, off, none⟩) L cl := (hold 8 rfl).trans t8
      exact ob_is ho (met_none rfl) (by go_simp) rfl
    · intro ho a w hb hd hold
      have x9 : a.tmps.getD 9 undef = .int .i64 (j : Int) := (hold 9 rfl).trans t9
      exact ob_is ho (met_none rfl) (by go_simp) rfl
    · intro ho a w hb hd hold
      have x65 : a.tmps.getD 65 undef = .int .i64 (j : Int) := hd 1 rfl
      have e1 : IntKind.i64.wrap ((j : Int) - 1) = ((j - 1 : Nat) : Int) := by rw [IntKind.wrap_i64]; omega
      exact ob_is ho (met_none rfl) (by go_simp) rfl
    · intro ho a w hb hd hold
      have x64 : a.tmps.getD 64 undef = .slice (some ⟨b, off, none⟩) L cl := hd 0 rfl
      have x66 : a.tmps.getD 66 undef = .int .i64 ((j - 1 : Nat) : Int) := hd 2 rfl
      exact ob_is ho (met_none rfl) (by go_simp) rfl
    · intro ho a w hb hd hold
      have x67 : a.tmps.getD 67 undef = .pointer (some ⟨b, off + (j - 1), none⟩) := hd 3 rfl
      have hc : w.cell? ⟨b, off + (j - 1), none⟩ = some (.string ⟨X.toArray⟩) := (hb.cell (p := ⟨b, off + (j - 1), none⟩) hbl).trans hc0
      exact ob_is ho (met_none rfl) (by go_simp) rfl
    · intro ho a w hb hd hold
      have x8 : a.tmps.getD 8 undef = .slice (some ⟨b, off, none⟩) L cl := (hold 8 rfl).trans t8
      exact ob_is ho (met_none rfl) (by go_simp) rfl
    · intro ho a w hb hd hold
      have x9 : a.tmps.getD 9 undef = .int .i64 (j : Int) := (hold 9 rfl).trans t9
      exact ob_is ho (met_none rfl) (by go_simp) rfl
    · intro ho a w hb hd hold
      have x69 : a.tmps.getD 69 undef = .slice (some ⟨b, off, none⟩) L cl := hd 5 rfl
      have x70 : a.tmps.getD 70 undef = .int .i64 (j : Int) := hd 6 rfl
      exact ob_is ho (met_none rfl) (by go_simp) rfl
    · intro ho a w hb hd hold
      have x71 : a.tmps.getD 71 undef = .pointer (some ⟨b, off + j, none⟩) := hd 7 rfl
      have hc : w.cell? ⟨b, off + j, none⟩ = some (.string ⟨Y.toArray⟩) := (hb.cell (p := ⟨b, off + j, none⟩) hbl).trans hp0
      exact ob_is ho (met_none rfl) (by go_simp) rfl
    · intro ho a w hb hd hold
      have x68 : a.tmps.getD 68 undef = .string ⟨X.toArray⟩ := hd 4 rfl
      have x72 : a.tmps.getD 72 undef = .string ⟨Y.toArray⟩ := hd 8 rfl
      have hs : Op.bytesLess (⟨X.toArray⟩ : ByteArray).toList (⟨Y.toArray⟩ : ByteArray).toList = true := by rw [ByteArray.toList_eq, ByteArray.toList_eq]; exact hlt
      exact ob_is ho (met_none rfl) (by go_simp) rfl
  · intro a w8 hb hS hold hsz hdf
    exact hQ a w8 hb (hS 9 _ rfl) hold (hsz.trans hsz0) hdf
end Go.Proofs.YtcjbgchhalilnaaGreatDoor
