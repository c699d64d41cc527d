/- ManifestBack: a region that leaves its order open. Printed by man_back.py. -/
import Derived.Test.YtcjbgchhalilnaaGreatDoorId
namespace Go.Proofs.YtcjbgchhalilnaaGreatDoor
open Go Go.RowKit Go.Lib
set_option linter.unusedVariables false

def Spec.man (m : Man) : Spec := ⟨fun v w => ReadsM w v m, fun _ _ _ h hb => h.below hb (Nat.le_refl _)⟩
theorem info_30 : (Tryz.prog.info? 30).map (fun i => (i.zero, i.size)) = some (some (.agg #[.int .i64 0, .int .i64 0, .int .i64 0, .slice none 0 0, .slice none 0 0]), 5) := by kernel_rfl

set_option maxRecDepth 100000 in
set_option maxHeartbeats 2000000 in
theorem back16_no {Q0 : Exit → Act → World → Prop} {a0 : Act} {W w1 : World} {nB n0 n11 n18 : Nat} {m M : Man} {vi vd ui ud ti td : Value} {er : Int} (hsz0 : a0.tmps.size = 124)
    (t12 : a0.tmps.getD 12 undef = .int .i64 0) (t15 : a0.tmps.getD 15 undef = .int .i64 10) (t17 : a0.tmps.getD 17 undef = .int .i64 11) (t19 : a0.tmps.getD 19 undef = .int .i64 er)
    (t3 : a0.tmps.getD 3 undef = .pointer (some ⟨n0, 0, none⟩)) (t11 : a0.tmps.getD 11 undef = .pointer (some ⟨n11, 0, none⟩)) (t18 : a0.tmps.getD 18 undef = .pointer (some ⟨n18, 0, none⟩))
    (hi0 : ¬ er = 0) (hi1 : (er == 0) = false) (hMz : M = zeroM)
    (hi : m.index.length ≤ 10000) (hd1 : m.data.length ≤ 10000) (hi2 : M.index.length ≤ 10000) (hd2 : M.data.length ≤ 10000)
    (hbb0 : Below nB W w1) (hbs0 : nB ≤ w1.heap.size) (hm10 : ReadsM w1 (.agg #[.int .i64 m.seq, .int .i64 m.every, .int .i64 m.keep, vi, vd]) m) (hm20 : ReadsM w1 (.agg #[.int .i64 m.seq, .int .i64 m.every, .int .i64 m.keep, ui, ud]) m) (hm30 : ReadsM w1 (.agg #[.int .i64 M.seq, .int .i64 M.every, .int .i64 M.keep, ti, td]) M)
    (C1 : ∀ w', Below nB W w' → w'.cell? ⟨n0, 0, none⟩ = some (.int .i64 m.seq) ∧ w'.cell? ⟨n0, 1, none⟩ = some (.int .i64 m.every) ∧ w'.cell? ⟨n0, 2, none⟩ = some (.int .i64 m.keep) ∧ w'.cell? ⟨n0, 3, none⟩ = some vi ∧ w'.cell? ⟨n0, 4, none⟩ = some vd)
    (C2 : ∀ w', Below nB W w' → w'.cell? ⟨n11, 0, none⟩ = some (.int .i64 m.seq) ∧ w'.cell? ⟨n11, 1, none⟩ = some (.int .i64 m.every) ∧ w'.cell? ⟨n11, 2, none⟩ = some (.int .i64 m.keep) ∧ w'.cell? ⟨n11, 3, none⟩ = some ui ∧ w'.cell? ⟨n11, 4, none⟩ = some ud)
    (C3 : ∀ w', Below nB W w' → w'.cell? ⟨n18, 0, none⟩ = some (.int .i64 M.seq) ∧ w'.cell? ⟨n18, 1, none⟩ = some (.int .i64 M.every) ∧ w'.cell? ⟨n18, 2, none⟩ = some (.int .i64 M.keep) ∧ w'.cell? ⟨n18, 3, none⟩ = some ti ∧ w'.cell? ⟨n18, 4, none⟩ = some td)
    (hQ : ∀ a w8, Below w1.heap.size w1 w8 → a.tmps.getD 6 undef = .bool true → a.tmps.size = 124 → a.defers = a0.defers → Q0 .normal a w8) :
    (Code.region 16 (opsOf Tryz.f4 16) true).wp Tryz.prog Q0 a0 w1 := by
  have hdr : Below w1.heap.size w1 w1.drew := (Below.refl _ _).drew
  have hbb : Below nB W w1.drew := hbb0.drew
  have hbs : nB ≤ w1.drew.heap.size := hbs0
  have hm1 : ReadsM w1.drew _ m := hm10.below hdr (Nat.le_refl _)
  have hm2 : ReadsM w1.drew _ m := hm20.below hdr (Nat.le_refl _)
  have hm3 : ReadsM w1.drew _ M := hm30.below hdr (Nat.le_refl _)
  refine region_free (by kernel_rfl) (fun i => ([Spec.is (.int .i64 0), Spec.is (.bool true), Spec.is (.bool true), Spec.is (.agg #[.int .i64 m.seq, .int .i64 m.every, .int .i64 m.keep, ui, ud]), Spec.man m, Spec.is (.agg #[.int .i64 m.seq, .int .i64 m.every, .int .i64 m.keep, vi, vd]), Spec.man m, Spec.is (.bool true), Spec.is (.bool true), Spec.is (.bool true), Spec.is (.int .i64 10), Spec.is (.bool true), Spec.is (.bool true), Spec.is (.bool true), Spec.is (.int .i64 11), Spec.is (.bool true), Spec.is (.bool true), Spec.is (.bool true), Spec.is (.int .i64 er), Spec.is (.bool true), Spec.is (.bool true), Spec.is (.agg #[.int .i64 M.seq, .int .i64 M.every, .int .i64 M.keep, ti, td]), Spec.man M, Spec.is (.agg #[.int .i64 0, .int .i64 0, .int .i64 0, .slice none 0 0, .slice none 0 0]), Spec.is (.bool true), Spec.is (.bool true), Spec.is (.bool true), Spec.is (undef), Spec.is (undef), Spec.is (undef), Spec.is (undef), Spec.is (undef), Spec.is (undef), Spec.is (undef), Spec.is (undef), Spec.is (undef), Spec.is (undef), Spec.is (.bool true), Spec.is (.bool true), Spec.is (.bool true)] : List Spec).getD i Spec.any) (by rw [hsz0]; kernel_rfl) (ops_all ?_) ?_
  · refine ⟨?_, ?_, ?_, ?_, ?_, ?_, ?_, ?_, ?_, ?_, ?_, ?_, ?_, ?_, ?_, ?_, ?_, ?_, ?_, ?_, ?_, ?_, ?_, ?_, ?_, ?_, ?_, ?_, ?_, ?_, ?_, ?_, ?_, ?_, ?_, ?_, ?_, ?_, ?_, ?_, trivial⟩
    · intro ho a w hb hd hold
      have x12 : a.tmps.getD 12 undef = .int .i64 0 := (hold 12 rfl).trans t12
      exact ob_is ho (met_none rfl) (by go_simp) rfl
    · intro ho a w hb hd hold
      have x85 : a.tmps.getD 85 undef = .int .i64 0 := hd 0 rfl
      exact ob_is ho (met_none rfl) (by go_simp) rfl
    · intro ho a w hb hd hold
      have x86 : a.tmps.getD 86 undef = .bool true := hd 1 rfl
      exact ob_is ho (met_none rfl) (by go_simp) rfl
    · intro ho a w hb hd hold
      have x11 : a.tmps.getD 11 undef = .pointer (some ⟨n11, 0, none⟩) := (hold 11 rfl).trans t11
      obtain ⟨c0, c1, c2, c3, c4⟩ := C2 w (hbb.trans (hb.mono hbs))
      exact ob_is ho (met_some rfl (hd 2 rfl)) (by go_simp) rfl
    · intro ho a w hb hd hold
      have x88 : a.tmps.getD 88 undef = .agg #[.int .i64 m.seq, .int .i64 m.every, .int .i64 m.keep, ui, ud] := hd 3 rfl
      refine ob_call (args := #[.agg #[.int .i64 m.seq, .int .i64 m.every, .int .i64 m.keep, ui, ud]]) ho (met_some rfl (hd 2 rfl)) (run_callf Tryz.func10 (by kernel_rfl) rfl rfl (by simp only [List.map_toArray, List.map_cons, List.map_nil, Act.eval, x88])) ?_
      exact (plain_any _ m w (by omega) (hm2.below hb (Nat.le_refl _))).mono fun e w2 h => h
    · intro ho a w hb hd hold
      have x3 : a.tmps.getD 3 undef = .pointer (some ⟨n0, 0, none⟩) := (hold 3 rfl).trans t3
      obtain ⟨c0, c1, c2, c3, c4⟩ := C1 w (hbb.trans (hb.mono hbs))
      exact ob_is ho (met_some rfl (hd 2 rfl)) (by go_simp) rfl
    · intro ho a w hb hd hold
      have x90 : a.tmps.getD 90 undef = .agg #[.int .i64 m.seq, .int .i64 m.every, .int .i64 m.keep, vi, vd] := hd 5 rfl
      refine ob_call (args := #[.agg #[.int .i64 m.seq, .int .i64 m.every, .int .i64 m.keep, vi, vd]]) ho (met_some rfl (hd 2 rfl)) (run_callf Tryz.func10 (by kernel_rfl) rfl rfl (by simp only [List.map_toArray, List.map_cons, List.map_nil, Act.eval, x90])) ?_
      exact (plain_any _ m w (by omega) (hm1.below hb (Nat.le_refl _))).mono fun e w2 h => h
    · intro ho a w hb hd hold
      have x89 : ReadsM w (a.tmps.getD 89 undef) m := hd 4 rfl
      have x91 : ReadsM w (a.tmps.getD 91 undef) m := hd 6 rfl
      refine ob_call (args := #[a.tmps.getD 89 undef, a.tmps.getD 91 undef]) ho (met_some rfl (hd 2 rfl)) (run_callf Tryz.func24 (by kernel_rfl) rfl rfl (by simp only [List.map_toArray, List.map_cons, List.map_nil, Act.eval])) ?_
      exact (same_any _ _ m m w (by omega) (by omega) x89 x91).mono fun e w2 ⟨q, h1, h2, h3⟩ => ⟨.bool q, h1, congrArg Value.bool (h2.2 rfl), h3⟩
    · intro ho a w hb hd hold
      have x87 : a.tmps.getD 87 undef = .bool true := hd 2 rfl
      have x92 : a.tmps.getD 92 undef = .bool true := hd 7 rfl
      exact ob_is ho (met_none rfl) (by go_simp) rfl
    · intro ho a w hb hd hold
      have x93 : a.tmps.getD 93 undef = .bool true := hd 8 rfl
      exact ob_is ho (met_none rfl) (by go_simp) rfl
    · intro ho a w hb hd hold
      have x15 : a.tmps.getD 15 undef = .int .i64 10 := (hold 15 rfl).trans t15
      exact ob_is ho (met_some rfl (hd 9 rfl)) (by go_simp) rfl
    · intro ho a w hb hd hold
      have x95 : a.tmps.getD 95 undef = .int .i64 10 := hd 10 rfl
      exact ob_is ho (met_some rfl (hd 9 rfl)) (by go_simp) rfl
    · intro ho a w hb hd hold
      have x94 : a.tmps.getD 94 undef = .bool true := hd 9 rfl
      have x96 : a.tmps.getD 96 undef = .bool true := hd 11 rfl
      exact ob_is ho (met_none rfl) (by go_simp) rfl
    · intro ho a w hb hd hold
      have x97 : a.tmps.getD 97 undef = .bool true := hd 12 rfl
      exact ob_is ho (met_none rfl) (by go_simp) rfl
    · intro ho a w hb hd hold
      have x17 : a.tmps.getD 17 undef = .int .i64 11 := (hold 17 rfl).trans t17
      exact ob_is ho (met_some rfl (hd 13 rfl)) (by go_simp) rfl
    · intro ho a w hb hd hold
      have x99 : a.tmps.getD 99 undef = .int .i64 11 := hd 14 rfl
      exact ob_is ho (met_some rfl (hd 13 rfl)) (by go_simp) rfl
    · intro ho a w hb hd hold
      have x98 : a.tmps.getD 98 undef = .bool true := hd 13 rfl
      have x100 : a.tmps.getD 100 undef = .bool true := hd 15 rfl
      exact ob_is ho (met_none rfl) (by go_simp) rfl
    · intro ho a w hb hd hold
      have x101 : a.tmps.getD 101 undef = .bool true := hd 16 rfl
      exact ob_is ho (met_none rfl) (by go_simp) rfl
    · intro ho a w hb hd hold
      have x19 : a.tmps.getD 19 undef = .int .i64 er := (hold 19 rfl).trans t19
      exact ob_is ho (met_some rfl (hd 17 rfl)) (by go_simp) rfl
    · intro ho a w hb hd hold
      have x103 : a.tmps.getD 103 undef = .int .i64 er := hd 18 rfl
      exact ob_is ho (met_some rfl (hd 17 rfl)) (by go_simp) rfl
    · intro ho a w hb hd hold
      have x104 : a.tmps.getD 104 undef = .bool true := hd 19 rfl
      exact ob_is ho (met_some rfl (hd 17 rfl)) (by go_simp) rfl
    · intro ho a w hb hd hold
      have x18 : a.tmps.getD 18 undef = .pointer (some ⟨n18, 0, none⟩) := (hold 18 rfl).trans t18
      obtain ⟨c0, c1, c2, c3, c4⟩ := C3 w (hbb.trans (hb.mono hbs))
      exact ob_is ho (met_some rfl (hd 20 rfl)) (by go_simp) rfl
    · intro ho a w hb hd hold
      have x106 : a.tmps.getD 106 undef = .agg #[.int .i64 M.seq, .int .i64 M.every, .int .i64 M.keep, ti, td] := hd 21 rfl
      refine ob_call (args := #[.agg #[.int .i64 M.seq, .int .i64 M.every, .int .i64 M.keep, ti, td]]) ho (met_some rfl (hd 20 rfl)) (run_callf Tryz.func10 (by kernel_rfl) rfl rfl (by simp only [List.map_toArray, List.map_cons, List.map_nil, Act.eval, x106])) ?_
      exact (plain_any _ M w (by omega) (hm3.below hb (Nat.le_refl _))).mono fun e w2 h => h
    · intro ho a w hb hd hold
      exact ob_is ho (met_some rfl (hd 20 rfl)) (by go_simp) rfl
    · intro ho a w hb hd hold
      have x107 : ReadsM w (a.tmps.getD 107 undef) M := hd 22 rfl
      have x108 : a.tmps.getD 108 undef = .agg #[.int .i64 0, .int .i64 0, .int .i64 0, .slice none 0 0, .slice none 0 0] := hd 23 rfl
      refine ob_call (args := #[a.tmps.getD 107 undef, .agg #[.int .i64 0, .int .i64 0, .int .i64 0, .slice none 0 0, .slice none 0 0]]) ho (met_some rfl (hd 20 rfl)) (run_callf Tryz.func24 (by kernel_rfl) rfl rfl (by simp only [List.map_toArray, List.map_cons, List.map_nil, Act.eval, x108])) ?_
      have hz : ReadsM w (.agg #[.int .i64 0, .int .i64 0, .int .i64 0, .slice none 0 0, .slice none 0 0]) zeroM := ⟨_, _, rfl, Reads.nil _ _, ReadsV.nil _⟩
      exact (same_any _ _ M zeroM w (by omega) (by omega) x107 hz).mono fun e w2 ⟨q, h1, h2, h3⟩ => ⟨.bool q, h1, congrArg Value.bool (h2.2 hMz), h3⟩
    · intro ho a w hb hd hold
      have x105 : a.tmps.getD 105 undef = .bool true := hd 20 rfl
      have x109 : a.tmps.getD 109 undef = .bool true := hd 24 rfl
      exact ob_is ho (met_some rfl (hd 17 rfl)) (by go_simp) rfl
    · intro ho a w hb hd hold
      have x110 : a.tmps.getD 110 undef = .bool true := hd 25 rfl
      exact ob_is ho (met_some rfl (hd 17 rfl)) (by go_simp) rfl
    · intro ho a w hb hd hold
      exact ob_skip ho rfl (hd 26 rfl) rfl
    · intro ho a w hb hd hold
      exact ob_skip ho rfl (hd 26 rfl) rfl
    · intro ho a w hb hd hold
      exact ob_skip ho rfl (hd 26 rfl) rfl
    · intro ho a w hb hd hold
      exact ob_skip2 ho rfl (hd 29 rfl) rfl
    · intro ho a w hb hd hold
      exact ob_skip2 ho rfl (hd 29 rfl) rfl
    · intro ho a w hb hd hold
      exact ob_skip2 ho rfl (hd 29 rfl) rfl
    · intro ho a w hb hd hold
      exact ob_skip2 ho rfl (hd 29 rfl) rfl
    · intro ho a w hb hd hold
      exact ob_skip2 ho rfl (hd 29 rfl) rfl
    · intro ho a w hb hd hold
      exact ob_skip2 ho rfl (hd 29 rfl) rfl
    · intro ho a w hb hd hold
      exact ob_skip ho rfl (hd 26 rfl) rfl
    · intro ho a w hb hd hold
      have x111 : a.tmps.getD 111 undef = .bool true := hd 26 rfl
      have x121 : a.tmps.getD 121 undef = undef := hd 36 rfl
      exact ob_is ho (met_some rfl (hd 17 rfl)) (by go_simp) rfl
    · intro ho a w hb hd hold
      have x102 : a.tmps.getD 102 undef = .bool true := hd 17 rfl
      have x122 : a.tmps.getD 122 undef = .bool true := hd 37 rfl
      exact ob_is ho (met_none rfl) (by go_simp) rfl
    · intro ho a w hb hd hold
      have x123 : a.tmps.getD 123 undef = .bool true := hd 38 rfl
      exact ob_is ho (met_none rfl) (by go_simp) rfl
  · intro a w8 hb hS hold hsz hdf
    exact hQ a w8 hb (hS 39 _ rfl) (hsz.trans hsz0) hdf

set_option maxRecDepth 100000 in
set_option maxHeartbeats 2000000 in
theorem back16_ok {Q0 : Exit → Act → World → Prop} {a0 : Act} {W w1 : World} {nB n0 n11 n18 : Nat} {m M : Man} {vi vd ui ud ti td : Value} {er : Int} (hsz0 : a0.tmps.size = 124)
    (t12 : a0.tmps.getD 12 undef = .int .i64 0) (t15 : a0.tmps.getD 15 undef = .int .i64 10) (t17 : a0.tmps.getD 17 undef = .int .i64 11) (t19 : a0.tmps.getD 19 undef = .int .i64 0)
    (t3 : a0.tmps.getD 3 undef = .pointer (some ⟨n0, 0, none⟩)) (t11 : a0.tmps.getD 11 undef = .pointer (some ⟨n11, 0, none⟩)) (t18 : a0.tmps.getD 18 undef = .pointer (some ⟨n18, 0, none⟩))
    (hMm : M ≠ m)
    (hi : m.index.length ≤ 10000) (hd1 : m.data.length ≤ 10000) (hi2 : M.index.length ≤ 10000) (hd2 : M.data.length ≤ 10000)
    (hbb0 : Below nB W w1) (hbs0 : nB ≤ w1.heap.size) (hm10 : ReadsM w1 (.agg #[.int .i64 m.seq, .int .i64 m.every, .int .i64 m.keep, vi, vd]) m) (hm20 : ReadsM w1 (.agg #[.int .i64 m.seq, .int .i64 m.every, .int .i64 m.keep, ui, ud]) m) (hm30 : ReadsM w1 (.agg #[.int .i64 M.seq, .int .i64 M.every, .int .i64 M.keep, ti, td]) M)
    (C1 : ∀ w', Below nB W w' → w'.cell? ⟨n0, 0, none⟩ = some (.int .i64 m.seq) ∧ w'.cell? ⟨n0, 1, none⟩ = some (.int .i64 m.every) ∧ w'.cell? ⟨n0, 2, none⟩ = some (.int .i64 m.keep) ∧ w'.cell? ⟨n0, 3, none⟩ = some vi ∧ w'.cell? ⟨n0, 4, none⟩ = some vd)
    (C2 : ∀ w', Below nB W w' → w'.cell? ⟨n11, 0, none⟩ = some (.int .i64 m.seq) ∧ w'.cell? ⟨n11, 1, none⟩ = some (.int .i64 m.every) ∧ w'.cell? ⟨n11, 2, none⟩ = some (.int .i64 m.keep) ∧ w'.cell? ⟨n11, 3, none⟩ = some ui ∧ w'.cell? ⟨n11, 4, none⟩ = some ud)
    (C3 : ∀ w', Below nB W w' → w'.cell? ⟨n18, 0, none⟩ = some (.int .i64 M.seq) ∧ w'.cell? ⟨n18, 1, none⟩ = some (.int .i64 M.every) ∧ w'.cell? ⟨n18, 2, none⟩ = some (.int .i64 M.keep) ∧ w'.cell? ⟨n18, 3, none⟩ = some ti ∧ w'.cell? ⟨n18, 4, none⟩ = some td)
    (hQ : ∀ a w8, Below w1.heap.size w1 w8 → a.tmps.getD 6 undef = .bool true → a.tmps.size = 124 → a.defers = a0.defers → Q0 .normal a w8) :
    (Code.region 16 (opsOf Tryz.f4 16) true).wp Tryz.prog Q0 a0 w1 := by
  have hdr : Below w1.heap.size w1 w1.drew := (Below.refl _ _).drew
  have hbb : Below nB W w1.drew := hbb0.drew
  have hbs : nB ≤ w1.drew.heap.size := hbs0
  have hm1 : ReadsM w1.drew _ m := hm10.below hdr (Nat.le_refl _)
  have hm2 : ReadsM w1.drew _ m := hm20.below hdr (Nat.le_refl _)
  have hm3 : ReadsM w1.drew _ M := hm30.below hdr (Nat.le_refl _)
  refine region_free (by kernel_rfl) (fun i => ([Spec.is (.int .i64 0), Spec.is (.bool true), Spec.is (.bool true), Spec.is (.agg #[.int .i64 m.seq, .int .i64 m.every, .int .i64 m.keep, ui, ud]), Spec.man m, Spec.is (.agg #[.int .i64 m.seq, .int .i64 m.every, .int .i64 m.keep, vi, vd]), Spec.man m, Spec.is (.bool true), Spec.is (.bool true), Spec.is (.bool true), Spec.is (.int .i64 10), Spec.is (.bool true), Spec.is (.bool true), Spec.is (.bool true), Spec.is (.int .i64 11), Spec.is (.bool true), Spec.is (.bool true), Spec.is (.bool true), Spec.is (.int .i64 0), Spec.is (.bool false), Spec.is (.bool false), Spec.is (undef), Spec.is (undef), Spec.is (undef), Spec.is (undef), Spec.is (.bool false), Spec.is (.bool false), Spec.is (.int .i64 0), Spec.is (.bool true), Spec.is (.bool true), Spec.is (.agg #[.int .i64 M.seq, .int .i64 M.every, .int .i64 M.keep, ti, td]), Spec.man M, Spec.is (.agg #[.int .i64 m.seq, .int .i64 m.every, .int .i64 m.keep, vi, vd]), Spec.man m, Spec.is (.bool false), Spec.is (.bool true), Spec.is (.bool true), Spec.is (.bool true), Spec.is (.bool true), Spec.is (.bool true)] : List Spec).getD i Spec.any) (by rw [hsz0]; kernel_rfl) (ops_all ?_) ?_
  · refine ⟨?_, ?_, ?_, ?_, ?_, ?_, ?_, ?_, ?_, ?_, ?_, ?_, ?_, ?_, ?_, ?_, ?_, ?_, ?_, ?_, ?_, ?_, ?_, ?_, ?_, ?_, ?_, ?_, ?_, ?_, ?_, ?_, ?_, ?_, ?_, ?_, ?_, ?_, ?_, ?_, trivial⟩
    · intro ho a w hb hd hold
      have x12 : a.tmps.getD 12 undef = .int .i64 0 := (hold 12 rfl).trans t12
      exact ob_is ho (met_none rfl) (by go_simp) rfl
    · intro ho a w hb hd hold
      have x85 : a.tmps.getD 85 undef = .int .i64 0 := hd 0 rfl
      exact ob_is ho (met_none rfl) (by go_simp) rfl
    · intro ho a w hb hd hold
      have x86 : a.tmps.getD 86 undef = .bool true := hd 1 rfl
      exact ob_is ho (met_none rfl) (by go_simp) rfl
    · intro ho a w hb hd hold
      have x11 : a.tmps.getD 11 undef = .pointer (some ⟨n11, 0, none⟩) := (hold 11 rfl).trans t11
      obtain ⟨c0, c1, c2, c3, c4⟩ := C2 w (hbb.trans (hb.mono hbs))
      exact ob_is ho (met_some rfl (hd 2 rfl)) (by go_simp) rfl
    · intro ho a w hb hd hold
      have x88 : a.tmps.getD 88 undef = .agg #[.int .i64 m.seq, .int .i64 m.every, .int .i64 m.keep, ui, ud] := hd 3 rfl
      refine ob_call (args := #[.agg #[.int .i64 m.seq, .int .i64 m.every, .int .i64 m.keep, ui, ud]]) ho (met_some rfl (hd 2 rfl)) (run_callf Tryz.func10 (by kernel_rfl) rfl rfl (by simp only [List.map_toArray, List.map_cons, List.map_nil, Act.eval, x88])) ?_
      exact (plain_any _ m w (by omega) (hm2.below hb (Nat.le_refl _))).mono fun e w2 h => h
    · intro ho a w hb hd hold
      have x3 : a.tmps.getD 3 undef = .pointer (some ⟨n0, 0, none⟩) := (hold 3 rfl).trans t3
      obtain ⟨c0, c1, c2, c3, c4⟩ := C1 w (hbb.trans (hb.mono hbs))
      exact ob_is ho (met_some rfl (hd 2 rfl)) (by go_simp) rfl
    · intro ho a w hb hd hold
      have x90 : a.tmps.getD 90 undef = .agg #[.int .i64 m.seq, .int .i64 m.every, .int .i64 m.keep, vi, vd] := hd 5 rfl
      refine ob_call (args := #[.agg #[.int .i64 m.seq, .int .i64 m.every, .int .i64 m.keep, vi, vd]]) ho (met_some rfl (hd 2 rfl)) (run_callf Tryz.func10 (by kernel_rfl) rfl rfl (by simp only [List.map_toArray, List.map_cons, List.map_nil, Act.eval, x90])) ?_
      exact (plain_any _ m w (by omega) (hm1.below hb (Nat.le_refl _))).mono fun e w2 h => h
    · intro ho a w hb hd hold
      have x89 : ReadsM w (a.tmps.getD 89 undef) m := hd 4 rfl
      have x91 : ReadsM w (a.tmps.getD 91 undef) m := hd 6 rfl
      refine ob_call (args := #[a.tmps.getD 89 undef, a.tmps.getD 91 undef]) ho (met_some rfl (hd 2 rfl)) (run_callf Tryz.func24 (by kernel_rfl) rfl rfl (by simp only [List.map_toArray, List.map_cons, List.map_nil, Act.eval])) ?_
      exact (same_any _ _ m m w (by omega) (by omega) x89 x91).mono fun e w2 ⟨q, h1, h2, h3⟩ => ⟨.bool q, h1, congrArg Value.bool (h2.2 rfl), h3⟩
    · intro ho a w hb hd hold
      have x87 : a.tmps.getD 87 undef = .bool true := hd 2 rfl
      have x92 : a.tmps.getD 92 undef = .bool true := hd 7 rfl
      exact ob_is ho (met_none rfl) (by go_simp) rfl
    · intro ho a w hb hd hold
      have x93 : a.tmps.getD 93 undef = .bool true := hd 8 rfl
      exact ob_is ho (met_none rfl) (by go_simp) rfl
    · intro ho a w hb hd hold
      have x15 : a.tmps.getD 15 undef = .int .i64 10 := (hold 15 rfl).trans t15
      exact ob_is ho (met_some rfl (hd 9 rfl)) (by go_simp) rfl
    · intro ho a w hb hd hold
      have x95 : a.tmps.getD 95 undef = .int .i64 10 := hd 10 rfl
      exact ob_is ho (met_some rfl (hd 9 rfl)) (by go_simp) rfl
    · intro ho a w hb hd hold
      have x94 : a.tmps.getD 94 undef = .bool true := hd 9 rfl
      have x96 : a.tmps.getD 96 undef = .bool true := hd 11 rfl
      exact ob_is ho (met_none rfl) (by go_simp) rfl
    · intro ho a w hb hd hold
      have x97 : a.tmps.getD 97 undef = .bool true := hd 12 rfl
      exact ob_is ho (met_none rfl) (by go_simp) rfl
    · intro ho a w hb hd hold
      have x17 : a.tmps.getD 17 undef = .int .i64 11 := (hold 17 rfl).trans t17
      exact ob_is ho (met_some rfl (hd 13 rfl)) (by go_simp) rfl
    · intro ho a w hb hd hold
      have x99 : a.tmps.getD 99 undef = .int .i64 11 := hd 14 rfl
      exact ob_is ho (met_some rfl (hd 13 rfl)) (by go_simp) rfl
    · intro ho a w hb hd hold
      have x98 : a.tmps.getD 98 undef = .bool true := hd 13 rfl
      have x100 : a.tmps.getD 100 undef = .bool true := hd 15 rfl
      exact ob_is ho (met_none rfl) (by go_simp) rfl
    · intro ho a w hb hd hold
      have x101 : a.tmps.getD 101 undef = .bool true := hd 16 rfl
      exact ob_is ho (met_none rfl) (by go_simp) rfl
    · intro ho a w hb hd hold
      have x19 : a.tmps.getD 19 undef = .int .i64 0 := (hold 19 rfl).trans t19
      exact ob_is ho (met_some rfl (hd 17 rfl)) (by go_simp) rfl
    · intro ho a w hb hd hold
      have x103 : a.tmps.getD 103 undef = .int .i64 0 := hd 18 rfl
      exact ob_is ho (met_some rfl (hd 17 rfl)) (by go_simp) rfl
    · intro ho a w hb hd hold
      have x104 : a.tmps.getD 104 undef = .bool false := hd 19 rfl
      exact ob_is ho (met_some rfl (hd 17 rfl)) (by go_simp) rfl
    · intro ho a w hb hd hold
      exact ob_skip ho rfl (hd 20 rfl) rfl
    · intro ho a w hb hd hold
      exact ob_skip ho rfl (hd 20 rfl) rfl
    · intro ho a w hb hd hold
      exact ob_skip ho rfl (hd 20 rfl) rfl
    · intro ho a w hb hd hold
      exact ob_skip ho rfl (hd 20 rfl) rfl
    · intro ho a w hb hd hold
      have x105 : a.tmps.getD 105 undef = .bool false := hd 20 rfl
      have x109 : a.tmps.getD 109 undef = undef := hd 24 rfl
      exact ob_is ho (met_some rfl (hd 17 rfl)) (by go_simp) rfl
    · intro ho a w hb hd hold
      have x110 : a.tmps.getD 110 undef = .bool false := hd 25 rfl
      exact ob_is ho (met_some rfl (hd 17 rfl)) (by go_simp) rfl
    · intro ho a w hb hd hold
      have x19 : a.tmps.getD 19 undef = .int .i64 0 := (hold 19 rfl).trans t19
      exact ob_is ho (met_some rfl (hd 26 rfl)) (by go_simp) rfl
    · intro ho a w hb hd hold
      have x112 : a.tmps.getD 112 undef = .int .i64 0 := hd 27 rfl
      exact ob_is ho (met_some rfl (hd 26 rfl)) (by go_simp) rfl
    · intro ho a w hb hd hold
      have x113 : a.tmps.getD 113 undef = .bool true := hd 28 rfl
      exact ob_is ho (met_some rfl (hd 26 rfl)) (by go_simp) rfl
    · intro ho a w hb hd hold
      have x18 : a.tmps.getD 18 undef = .pointer (some ⟨n18, 0, none⟩) := (hold 18 rfl).trans t18
      obtain ⟨c0, c1, c2, c3, c4⟩ := C3 w (hbb.trans (hb.mono hbs))
      exact ob_is ho (met_some rfl (hd 29 rfl)) (by go_simp) rfl
    · intro ho a w hb hd hold
      have x115 : a.tmps.getD 115 undef = .agg #[.int .i64 M.seq, .int .i64 M.every, .int .i64 M.keep, ti, td] := hd 30 rfl
      refine ob_call (args := #[.agg #[.int .i64 M.seq, .int .i64 M.every, .int .i64 M.keep, ti, td]]) ho (met_some rfl (hd 29 rfl)) (run_callf Tryz.func10 (by kernel_rfl) rfl rfl (by simp only [List.map_toArray, List.map_cons, List.map_nil, Act.eval, x115])) ?_
      exact (plain_any _ M w (by omega) (hm3.below hb (Nat.le_refl _))).mono fun e w2 h => h
    · intro ho a w hb hd hold
      have x3 : a.tmps.getD 3 undef = .pointer (some ⟨n0, 0, none⟩) := (hold 3 rfl).trans t3
      obtain ⟨c0, c1, c2, c3, c4⟩ := C1 w (hbb.trans (hb.mono hbs))
      exact ob_is ho (met_some rfl (hd 29 rfl)) (by go_simp) rfl
    · intro ho a w hb hd hold
      have x117 : a.tmps.getD 117 undef = .agg #[.int .i64 m.seq, .int .i64 m.every, .int .i64 m.keep, vi, vd] := hd 32 rfl
      refine ob_call (args := #[.agg #[.int .i64 m.seq, .int .i64 m.every, .int .i64 m.keep, vi, vd]]) ho (met_some rfl (hd 29 rfl)) (run_callf Tryz.func10 (by kernel_rfl) rfl rfl (by simp only [List.map_toArray, List.map_cons, List.map_nil, Act.eval, x117])) ?_
      exact (plain_any _ m w (by omega) (hm1.below hb (Nat.le_refl _))).mono fun e w2 h => h
    · intro ho a w hb hd hold
      have x116 : ReadsM w (a.tmps.getD 116 undef) M := hd 31 rfl
      have x118 : ReadsM w (a.tmps.getD 118 undef) m := hd 33 rfl
      refine ob_call (args := #[a.tmps.getD 116 undef, a.tmps.getD 118 undef]) ho (met_some rfl (hd 29 rfl)) (run_callf Tryz.func24 (by kernel_rfl) rfl rfl (by simp only [List.map_toArray, List.map_cons, List.map_nil, Act.eval])) ?_
      exact (same_any _ _ M m w (by omega) (by omega) x116 x118).mono fun e w2 ⟨q, h1, h2, h3⟩ => ⟨.bool q, h1, congrArg Value.bool (Bool.eq_false_iff.2 fun hq => hMm (h2.1 hq)), h3⟩
    · intro ho a w hb hd hold
      have x119 : a.tmps.getD 119 undef = .bool false := hd 34 rfl
      exact ob_is ho (met_some rfl (hd 29 rfl)) (by go_simp) rfl
    · intro ho a w hb hd hold
      have x114 : a.tmps.getD 114 undef = .bool true := hd 29 rfl
      have x120 : a.tmps.getD 120 undef = .bool true := hd 35 rfl
      exact ob_is ho (met_some rfl (hd 26 rfl)) (by go_simp) rfl
    · intro ho a w hb hd hold
      have x111 : a.tmps.getD 111 undef = .bool false := hd 26 rfl
      have x121 : a.tmps.getD 121 undef = .bool true := hd 36 rfl
      exact ob_is ho (met_some rfl (hd 17 rfl)) (by go_simp) rfl
    · intro ho a w hb hd hold
      have x102 : a.tmps.getD 102 undef = .bool true := hd 17 rfl
      have x122 : a.tmps.getD 122 undef = .bool true := hd 37 rfl
      exact ob_is ho (met_none rfl) (by go_simp) rfl
    · intro ho a w hb hd hold
      have x123 : a.tmps.getD 123 undef = .bool true := hd 38 rfl
      exact ob_is ho (met_none rfl) (by go_simp) rfl
  · intro a w8 hb hS hold hsz hdf
    exact hQ a w8 hb (hS 39 _ rfl) (hsz.trans hsz0) hdf
end Go.Proofs.YtcjbgchhalilnaaGreatDoor
