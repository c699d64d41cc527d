/- ManifestGrows: a region that leaves its order open. Printed by man_grows.py. -/
import Derived.Test.YtcjbgchhalilnaaGreatDoorHc
import Derived.Test.YtcjbgchhalilnaaGreatDoorHd
namespace Go.Proofs.YtcjbgchhalilnaaGreatDoor
open Go Go.RowKit Go.Lib
set_option linter.unusedVariables false

set_option maxRecDepth 100000 in
set_option maxHeartbeats 2000000 in
theorem grows18 {Q0 : Exit → Act → World → Prop} {a0 : Act} {W w1 : World} {nB n0 n7 ci cd ce me g c1 c2 K Q : Nat} {ai ad ae an : Option Addr} {m M2 : Man} {vb vc : Value} {X Y Z : List UInt8} {L : List (List UInt8)} (hsz0 : a0.tmps.size = 136)
    (t9 : a0.tmps.getD 9 undef = .int .i64 0) (t13 : a0.tmps.getD 13 undef = .int .i64 0) (t15 : a0.tmps.getD 15 undef = .int .i64 0) (t8 : a0.tmps.getD 8 undef = .string ⟨Z.toArray⟩) (t12 : a0.tmps.getD 12 undef = vb) (t14 : a0.tmps.getD 14 undef = vc)
    (t10 : a0.tmps.getD 10 undef = .slice (some ⟨g, 0, none⟩) (K + 1) c1) (t11 : a0.tmps.getD 11 undef = .slice an K c2) (t2 : a0.tmps.getD 2 undef = .pointer (some ⟨n0, 0, none⟩)) (t7 : a0.tmps.getD 7 undef = .pointer (some ⟨n7, 0, none⟩))
    (hb10 : Reads w1 b8 vb X) (hb20 : Reads w1 b8 vc Y) (hXY : (X == Y) = false) (hK : K ≤ 10000) (hQ1 : Q ≤ 10000) (hc1 : K + 1 ≤ c1) (hc1m : c1 ≤ maxLen) (hgl0 : g < w1.heap.size) (hcl0 : w1.cell? ⟨g, K, none⟩ = some (encStr Z))
    (hr10 : Reads w1 encStr (.slice (some ⟨g, 0, none⟩) K c1) L) (hr20 : Reads w1 encStr (.slice an K c2) L) (hLl : L.length ≤ 10000) (hi : m.index.length ≤ 10000) (hd1 : m.data.length ≤ 10000) (hi2 : M2.index.length ≤ 10000) (hd2 : M2.data.length ≤ 10000)
    (hn1 : (namesL m).length = Q) (hn2 : (namesL M2).length = Q + 1)
    (hbb0 : Below nB W w1) (hbs0 : nB ≤ w1.heap.size) (hm10 : ReadsM w1 (.agg #[.int .i64 m.seq, .int .i64 m.every, .int .i64 m.keep, .slice ai m.index.length ci, .slice ad m.data.length cd]) m) (hm20 : ReadsM w1 (.agg #[.int .i64 (m.seq + 1), .int .i64 m.every, .int .i64 m.keep, .slice ai m.index.length ci, .slice ae me ce]) M2)
    (C1 : ∀ w', Below nB W w' → w'.cell? ⟨n0, 0, none⟩ = some (.int .i64 m.seq) ∧ w'.cell? ⟨n0, 1, none⟩ = some (.int .i64 m.every) ∧ w'.cell? ⟨n0, 2, none⟩ = some (.int .i64 m.keep) ∧ w'.cell? ⟨n0, 3, none⟩ = some (.slice ai m.index.length ci) ∧ w'.cell? ⟨n0, 4, none⟩ = some (.slice ad m.data.length cd))
    (C2 : ∀ w', Below nB W w' → w'.cell? ⟨n7, 0, none⟩ = some (.int .i64 (m.seq + 1)) ∧ w'.cell? ⟨n7, 1, none⟩ = some (.int .i64 m.every) ∧ w'.cell? ⟨n7, 2, none⟩ = some (.int .i64 m.keep) ∧ w'.cell? ⟨n7, 3, none⟩ = some (.slice ai m.index.length ci) ∧ w'.cell? ⟨n7, 4, none⟩ = some (.slice ae me ce))
    (hQ : ∀ a w8, Below w1.heap.size w1 w8 → a.tmps.getD 4 undef = .bool true → a.tmps.size = 136 → a.defers = a0.defers → Q0 .normal a w8) :
    (Code.region 18 (opsOf Tryz.f7 18) true).wp Tryz.prog Q0 a0 w1 := by
  have hdr : Below w1.heap.size w1 w1.drew := (Below.refl _ _).drew
  have hbb : Below nB W w1.drew := hbb0.drew
  have hbs : nB ≤ w1.drew.heap.size := hbs0
  have hm1 : ReadsM w1.drew _ m := hm10.below hdr (Nat.le_refl _)
  have hm2 : ReadsM w1.drew _ M2 := hm20.below hdr (Nat.le_refl _)
  have hb1 : Reads w1.drew b8 vb X := hb10.drew
  have hb2 : Reads w1.drew b8 vc Y := hb20.drew
  have hr1 : Reads w1.drew encStr _ L := hr10.drew
  have hr2 : Reads w1.drew encStr _ L := hr20.drew
  have hgl : g < w1.drew.heap.size := hgl0
  have hcl : w1.drew.cell? ⟨g, K, none⟩ = some (.string ⟨Z.toArray⟩) := hcl0
  have hK1 : (K : Int) < ((K + 1 : Nat) : Int) := by omega
  have hKc : (K : Int) ≤ c1 := by omega
  have hcm : (c1 : Int) ≤ 9223372036854775807 := by simp only [maxLen] at hc1m; omega
  refine region_free (by kernel_rfl) (fun i => ([Spec.is (.int .i64 0), Spec.is (.bool true), Spec.is (.bool true), Spec.is (.int .i64 0), Spec.is (.bool true), Spec.is (.bool true), Spec.is (.bool true), Spec.is (.int .i64 0), Spec.is (.bool true), Spec.is (.bool true), Spec.is (.bool true), Spec.rd b8 X, Spec.is (.string ⟨(X).toArray⟩), Spec.rd b8 Y, Spec.is (.string ⟨(Y).toArray⟩), Spec.is (.bool true), Spec.is (.bool true), Spec.is (.bool true), Spec.is (.slice (some ⟨g, 0, none⟩) (K + 1) c1), Spec.is (.int .i64 ((K + 1 : Nat) : Int)), Spec.is (.slice an K c2), Spec.is (.int .i64 (K : Int)), Spec.is (.int .i64 ((K + 1 : Nat) : Int)), Spec.is (.bool true), Spec.is (.bool true), Spec.is (.bool true), Spec.is (.slice (some ⟨g, 0, none⟩) (K + 1) c1), Spec.is (.slice (some ⟨g, 0, none⟩) (K + 1) c1), Spec.is (.int .i64 ((K + 1 : Nat) : Int)), Spec.is (.int .i64 (K : Int)), Spec.is (.pointer (some ⟨g, K, none⟩)), Spec.is (.string ⟨Z.toArray⟩), Spec.is (.string ⟨Z.toArray⟩), Spec.is (.bool true), Spec.is (.bool true), Spec.is (.bool true), Spec.is (.slice (some ⟨g, 0, none⟩) (K + 1) c1), Spec.is (.slice an K c2), Spec.is (.int .i64 (K : Int)), Spec.is (.slice (some ⟨g, 0, none⟩) K c1), Spec.is (.slice an K c2), Spec.is (.bool true), Spec.is (.bool true), Spec.is (.bool true), Spec.is (.agg #[.int .i64 (m.seq + 1), .int .i64 m.every, .int .i64 m.keep, .slice ai m.index.length ci, .slice ae me ce]), Spec.rd encStr (namesL M2), Spec.is (.int .i64 ((Q + 1 : Nat) : Int)), Spec.is (.agg #[.int .i64 m.seq, .int .i64 m.every, .int .i64 m.keep, .slice ai m.index.length ci, .slice ad m.data.length cd]), Spec.rd encStr (namesL m), Spec.is (.int .i64 (Q : Int)), Spec.is (.int .i64 ((Q + 1 : Nat) : Int)), Spec.is (.bool true), Spec.is (.bool true), Spec.is (.bool true)] : List Spec).getD i Spec.any) (by rw [hsz0]; kernel_rfl) (ops_all ?_) ?_
  · refine ⟨?_, ?_, ?_, ?_, ?_, ?_, ?_, ?_, ?_, ?_, ?_, ?_, ?_, ?_, ?_, ?_, ?_, ?_, ?_, ?_, ?_, ?_, ?_, ?_, ?_, ?_, ?_, ?_, ?_, ?_, ?_, ?_, ?_, ?_, ?_, ?_, ?_, ?_, ?_, ?_, ?_, ?_, ?_, ?_, ?_, ?_, ?_, ?_, ?_, ?_, ?_, ?_, ?_, ?_, trivial⟩
    · intro ho a w hb hd hold
      have x9 : a.tmps.getD 9 undef = .int .i64 0 := (hold 9 rfl).trans t9
      exact ob_is ho (met_none rfl) (by go_simp) rfl
    · intro ho a w hb hd hold
      have x83 : a.tmps.getD 83 undef = .int .i64 0 := hd 0 rfl
      exact ob_is ho (met_none rfl) (by go_simp) rfl
    · intro ho a w hb hd hold
      have x84 : a.tmps.getD 84 undef = .bool true := hd 1 rfl
      exact ob_is ho (met_none rfl) (by go_simp) rfl
    · intro ho a w hb hd hold
      have x13 : a.tmps.getD 13 undef = .int .i64 0 := (hold 13 rfl).trans t13
      exact ob_is ho (met_some rfl (hd 2 rfl)) (by go_simp) rfl
    · intro ho a w hb hd hold
      have x86 : a.tmps.getD 86 undef = .int .i64 0 := hd 3 rfl
      exact ob_is ho (met_some rfl (hd 2 rfl)) (by go_simp) rfl
    · intro ho a w hb hd hold
      have x85 : a.tmps.getD 85 undef = .bool true := hd 2 rfl
      have x87 : a.tmps.getD 87 undef = .bool true := hd 4 rfl
      exact ob_is ho (met_none rfl) (by go_simp) rfl
    · intro ho a w hb hd hold
      have x88 : a.tmps.getD 88 undef = .bool true := hd 5 rfl
      exact ob_is ho (met_none rfl) (by go_simp) rfl
    · intro ho a w hb hd hold
      have x15 : a.tmps.getD 15 undef = .int .i64 0 := (hold 15 rfl).trans t15
      exact ob_is ho (met_some rfl (hd 6 rfl)) (by go_simp) rfl
    · intro ho a w hb hd hold
      have x90 : a.tmps.getD 90 undef = .int .i64 0 := hd 7 rfl
      exact ob_is ho (met_some rfl (hd 6 rfl)) (by go_simp) rfl
    · intro ho a w hb hd hold
      have x89 : a.tmps.getD 89 undef = .bool true := hd 6 rfl
      have x91 : a.tmps.getD 91 undef = .bool true := hd 8 rfl
      exact ob_is ho (met_none rfl) (by go_simp) rfl
    · intro ho a w hb hd hold
      have x92 : a.tmps.getD 92 undef = .bool true := hd 9 rfl
      exact ob_is ho (met_none rfl) (by go_simp) rfl
    · intro ho a w hb hd hold
      have x12 : Reads w b8 (a.tmps.getD 12 undef) X := by rw [show a.tmps.getD 12 undef = _ from (hold 12 rfl).trans t12]; exact (hb1).below hb (Nat.le_refl _)
      exact ob_is ho (met_some rfl (hd 10 rfl)) (run_move _ rfl rfl) x12
    · intro ho a w hb hd hold
      have x94 : Reads w b8 (a.tmps.getD 94 undef) X := hd 11 rfl
      exact ob_is ho (met_some rfl (hd 10 rfl)) (run_convert rfl rfl (str_of x94)) rfl
    · intro ho a w hb hd hold
      have x14 : Reads w b8 (a.tmps.getD 14 undef) Y := by rw [show a.tmps.getD 14 undef = _ from (hold 14 rfl).trans t14]; exact (hb2).below hb (Nat.le_refl _)
      exact ob_is ho (met_some rfl (hd 10 rfl)) (run_move _ rfl rfl) x14
    · intro ho a w hb hd hold
      have x96 : Reads w b8 (a.tmps.getD 96 undef) Y := hd 13 rfl
      exact ob_is ho (met_some rfl (hd 10 rfl)) (run_convert rfl rfl (str_of x96)) rfl
    · intro ho a w hb hd hold
      have x95 : a.tmps.getD 95 undef = .string ⟨(X).toArray⟩ := hd 12 rfl
      have x97 : a.tmps.getD 97 undef = .string ⟨(Y).toArray⟩ := hd 14 rfl
      exact ob_is ho (met_some rfl (hd 10 rfl)) (run_neqs rfl x95 x97 hXY) rfl
    · intro ho a w hb hd hold
      have x93 : a.tmps.getD 93 undef = .bool true := hd 10 rfl
      have x98 : a.tmps.getD 98 undef = .bool true := hd 15 rfl
      exact ob_is ho (met_none rfl) (by go_simp) rfl
    · intro ho a w hb hd hold
      have x99 : a.tmps.getD 99 undef = .bool true := hd 16 rfl
      exact ob_is ho (met_none rfl) (by go_simp) rfl
    · intro ho a w hb hd hold
      have x10 : a.tmps.getD 10 undef = .slice (some ⟨g, 0, none⟩) (K + 1) c1 := (hold 10 rfl).trans t10
      exact ob_is ho (met_some rfl (hd 17 rfl)) (by go_simp) rfl
    · intro ho a w hb hd hold
      have x101 : a.tmps.getD 101 undef = .slice (some ⟨g, 0, none⟩) (K + 1) c1 := hd 18 rfl
      exact ob_is ho (met_some rfl (hd 17 rfl)) (by go_simp) rfl
    · intro ho a w hb hd hold
      have x11 : a.tmps.getD 11 undef = .slice an K c2 := (hold 11 rfl).trans t11
      exact ob_is ho (met_some rfl (hd 17 rfl)) (by go_simp) rfl
    · intro ho a w hb hd hold
      have x103 : a.tmps.getD 103 undef = .slice an K c2 := hd 20 rfl
      exact ob_is ho (met_some rfl (hd 17 rfl)) (by go_simp) rfl
    · intro ho a w hb hd hold
      have x104 : a.tmps.getD 104 undef = .int .i64 (K : Int) := hd 21 rfl
      have e1 : IntKind.i64.wrap ((K : Int) + 1) = ((K + 1 : Nat) : Int) := by rw [IntKind.wrap_i64]; omega
      have e2 : ((K + 1 : Nat) : Int) = (K : Int) + 1 := by omega
      exact ob_is ho (met_some rfl (hd 17 rfl)) (by go_simp) rfl
    · intro ho a w hb hd hold
      have x102 : a.tmps.getD 102 undef = .int .i64 ((K + 1 : Nat) : Int) := hd 19 rfl
      have x105 : a.tmps.getD 105 undef = .int .i64 ((K + 1 : Nat) : Int) := hd 22 rfl
      exact ob_is ho (met_some rfl (hd 17 rfl)) (by go_simp) rfl
    · intro ho a w hb hd hold
      have x100 : a.tmps.getD 100 undef = .bool true := hd 17 rfl
      have x106 : a.tmps.getD 106 undef = .bool true := hd 23 rfl
      exact ob_is ho (met_none rfl) (by go_simp) rfl
    · intro ho a w hb hd hold
      have x107 : a.tmps.getD 107 undef = .bool true := hd 24 rfl
      exact ob_is ho (met_none rfl) (by go_simp) rfl
    · intro ho a w hb hd hold
      have x10 : a.tmps.getD 10 undef = .slice (some ⟨g, 0, none⟩) (K + 1) c1 := (hold 10 rfl).trans t10
      exact ob_is ho (met_some rfl (hd 25 rfl)) (by go_simp) rfl
    · intro ho a w hb hd hold
      have x10 : a.tmps.getD 10 undef = .slice (some ⟨g, 0, none⟩) (K + 1) c1 := (hold 10 rfl).trans t10
      exact ob_is ho (met_some rfl (hd 25 rfl)) (by go_simp) rfl
    · intro ho a w hb hd hold
      have x110 : a.tmps.getD 110 undef = .slice (some ⟨g, 0, none⟩) (K + 1) c1 := hd 27 rfl
      exact ob_is ho (met_some rfl (hd 25 rfl)) (by go_simp) rfl
    · intro ho a w hb hd hold
      have x111 : a.tmps.getD 111 undef = .int .i64 ((K + 1 : Nat) : Int) := hd 28 rfl
      have e1 : IntKind.i64.wrap (K : Int) = (K : Int) := by rw [IntKind.wrap_i64]; omega
      exact ob_is ho (met_some rfl (hd 25 rfl)) (by go_simp) rfl
    · intro ho a w hb hd hold
      have x109 : a.tmps.getD 109 undef = .slice (some ⟨g, 0, none⟩) (K + 1) c1 := hd 26 rfl
      have x112 : a.tmps.getD 112 undef = .int .i64 (K : Int) := hd 29 rfl
      have e1 : ¬ (K : Int) + 1 ≤ (K : Int) := by omega
      have e2 : (K : Int) < (K : Int) + 1 := by omega
      exact ob_is ho (met_some rfl (hd 25 rfl)) (by go_simp) rfl
    · intro ho a w hb hd hold
      have x113 : a.tmps.getD 113 undef = .pointer (some ⟨g, K, none⟩) := hd 30 rfl
      have hc : w.cell? ⟨g, K, none⟩ = some (.string ⟨Z.toArray⟩) := (hb.cell (p := ⟨g, K, none⟩) hgl).trans hcl
      exact ob_is ho (met_some rfl (hd 25 rfl)) (by go_simp) rfl
    · intro ho a w hb hd hold
      have x8 : a.tmps.getD 8 undef = .string ⟨Z.toArray⟩ := (hold 8 rfl).trans t8
      exact ob_is ho (met_some rfl (hd 25 rfl)) (by go_simp) rfl
    · intro ho a w hb hd hold
      have x114 : a.tmps.getD 114 undef = .string ⟨Z.toArray⟩ := hd 31 rfl
      have x115 : a.tmps.getD 115 undef = .string ⟨Z.toArray⟩ := hd 32 rfl
      exact ob_is ho (met_some rfl (hd 25 rfl)) (run_eqs rfl x114 x115 (beq_self_eq_true Z)) rfl
    · intro ho a w hb hd hold
      have x108 : a.tmps.getD 108 undef = .bool true := hd 25 rfl
      have x116 : a.tmps.getD 116 undef = .bool true := hd 33 rfl
      exact ob_is ho (met_none rfl) (by go_simp) rfl
    · intro ho a w hb hd hold
      have x117 : a.tmps.getD 117 undef = .bool true := hd 34 rfl
      exact ob_is ho (met_none rfl) (by go_simp) rfl
    · intro ho a w hb hd hold
      have x10 : a.tmps.getD 10 undef = .slice (some ⟨g, 0, none⟩) (K + 1) c1 := (hold 10 rfl).trans t10
      exact ob_is ho (met_some rfl (hd 35 rfl)) (by go_simp) rfl
    · intro ho a w hb hd hold
      have x11 : a.tmps.getD 11 undef = .slice an K c2 := (hold 11 rfl).trans t11
      exact ob_is ho (met_some rfl (hd 35 rfl)) (by go_simp) rfl
    · intro ho a w hb hd hold
      have x120 : a.tmps.getD 120 undef = .slice an K c2 := hd 37 rfl
      exact ob_is ho (met_some rfl (hd 35 rfl)) (by go_simp) rfl
    · intro ho a w hb hd hold
      have x119 : a.tmps.getD 119 undef = .slice (some ⟨g, 0, none⟩) (K + 1) c1 := hd 36 rfl
      have x121 : a.tmps.getD 121 undef = .int .i64 (K : Int) := hd 38 rfl
      exact ob_is ho (met_some rfl (hd 35 rfl)) (by go_simp) rfl
    · intro ho a w hb hd hold
      have x11 : a.tmps.getD 11 undef = .slice an K c2 := (hold 11 rfl).trans t11
      exact ob_is ho (met_some rfl (hd 35 rfl)) (by go_simp) rfl
    · intro ho a w hb hd hold
      have x122 : a.tmps.getD 122 undef = .slice (some ⟨g, 0, none⟩) K c1 := hd 39 rfl
      have x123 : a.tmps.getD 123 undef = .slice an K c2 := hd 40 rfl
      refine ob_call (args := #[.slice (some ⟨g, 0, none⟩) K c1, .slice an K c2]) ho (met_some rfl (hd 35 rfl)) (run_callf Tryz.func11 (by kernel_rfl) rfl rfl (by simp only [List.map_toArray, List.map_cons, List.map_nil, Act.eval, x122, x123])) ?_
      exact (strs_any _ _ L L w (by omega) (hr1.below hb (Nat.le_refl _)) (hr2.below hb (Nat.le_refl _))).mono fun e w2 h => ⟨.bool true, by rw [h.1, beq_self_eq_true], rfl, h.2⟩
    · intro ho a w hb hd hold
      have x118 : a.tmps.getD 118 undef = .bool true := hd 35 rfl
      have x124 : a.tmps.getD 124 undef = .bool true := hd 41 rfl
      exact ob_is ho (met_none rfl) (by go_simp) rfl
    · intro ho a w hb hd hold
      have x125 : a.tmps.getD 125 undef = .bool true := hd 42 rfl
      exact ob_is ho (met_none rfl) (by go_simp) rfl
    · intro ho a w hb hd hold
      have x7 : a.tmps.getD 7 undef = .pointer (some ⟨n7, 0, none⟩) := (hold 7 rfl).trans t7
      obtain ⟨c0, c1, c2, c3, c4⟩ := C2 w (hbb.trans (hb.mono hbs))
      exact ob_is ho (met_some rfl (hd 43 rfl)) (by go_simp) rfl
    · intro ho a w hb hd hold
      have x127 : a.tmps.getD 127 undef = .agg #[.int .i64 (m.seq + 1), .int .i64 m.every, .int .i64 m.keep, .slice ai m.index.length ci, .slice ae me ce] := hd 44 rfl
      refine ob_call (args := #[.agg #[.int .i64 (m.seq + 1), .int .i64 m.every, .int .i64 m.keep, .slice ai m.index.length ci, .slice ae me ce]]) ho (met_some rfl (hd 43 rfl)) (run_callf Tryz.func12 (by kernel_rfl) rfl rfl (by simp only [List.map_toArray, List.map_cons, List.map_nil, Act.eval, x127])) ?_
      exact (Names_any _ M2 w (by omega) (by omega) (hm2.below hb (Nat.le_refl _))).mono fun e w2 h => h
    · intro ho a w hb hd hold
      have x128 : Reads w encStr (a.tmps.getD 128 undef) (namesL M2) := hd 45 rfl
      obtain ⟨av, cv, hv⟩ := x128.slice
      rw [hv, hn2] at x128
      rw [hn2] at hv
      exact ob_is ho (met_some rfl (hd 43 rfl)) (by go_simp) rfl
    · intro ho a w hb hd hold
      have x2 : a.tmps.getD 2 undef = .pointer (some ⟨n0, 0, none⟩) := (hold 2 rfl).trans t2
      obtain ⟨c0, c1, c2, c3, c4⟩ := C1 w (hbb.trans (hb.mono hbs))
      exact ob_is ho (met_some rfl (hd 43 rfl)) (by go_simp) rfl
    · intro ho a w hb hd hold
      have x130 : a.tmps.getD 130 undef = .agg #[.int .i64 m.seq, .int .i64 m.every, .int .i64 m.keep, .slice ai m.index.length ci, .slice ad m.data.length cd] := hd 47 rfl
      refine ob_call (args := #[.agg #[.int .i64 m.seq, .int .i64 m.every, .int .i64 m.keep, .slice ai m.index.length ci, .slice ad m.data.length cd]]) ho (met_some rfl (hd 43 rfl)) (run_callf Tryz.func12 (by kernel_rfl) rfl rfl (by simp only [List.map_toArray, List.map_cons, List.map_nil, Act.eval, x130])) ?_
      exact (Names_any _ m w (by omega) (by omega) (hm1.below hb (Nat.le_refl _))).mono fun e w2 h => h
    · intro ho a w hb hd hold
      have x131 : Reads w encStr (a.tmps.getD 131 undef) (namesL m) := hd 48 rfl
      obtain ⟨av, cv, hv⟩ := x131.slice
      rw [hn1] at hv
      exact ob_is ho (met_some rfl (hd 43 rfl)) (by go_simp) rfl
    · intro ho a w hb hd hold
      have x132 : a.tmps.getD 132 undef = .int .i64 (Q : Int) := hd 49 rfl
      have e1 : IntKind.i64.wrap ((Q : Int) + 1) = ((Q + 1 : Nat) : Int) := by rw [IntKind.wrap_i64]; omega
      have e2 : ((Q + 1 : Nat) : Int) = (Q : Int) + 1 := by omega
      exact ob_is ho (met_some rfl (hd 43 rfl)) (by go_simp) rfl
    · intro ho a w hb hd hold
      have x129 : a.tmps.getD 129 undef = .int .i64 ((Q + 1 : Nat) : Int) := hd 46 rfl
      have x133 : a.tmps.getD 133 undef = .int .i64 ((Q + 1 : Nat) : Int) := hd 50 rfl
      exact ob_is ho (met_some rfl (hd 43 rfl)) (by go_simp) rfl
    · intro ho a w hb hd hold
      have x126 : a.tmps.getD 126 undef = .bool true := hd 43 rfl
      have x134 : a.tmps.getD 134 undef = .bool true := hd 51 rfl
      exact ob_is ho (met_none rfl) (by go_simp) rfl
    · intro ho a w hb hd hold
      have x135 : a.tmps.getD 135 undef = .bool true := hd 52 rfl
      exact ob_is ho (met_none rfl) (run_assign _ rfl rfl) x135
  · intro a w8 hb hS hold hsz hdf
    exact hQ a w8 hb (hS 53 _ rfl) (hsz.trans hsz0) hdf
end Go.Proofs.YtcjbgchhalilnaaGreatDoor
