/- manifest.Name: the walk. -/
import Derived.Test.YtcjbgchhalilnaaGreatDoorEb
import Derived.Test.YtcjbgchhalilnaaGreatDoorEc
import Derived.Test.YtcjbgchhalilnaaGreatDoorKd
import Derived.Laws.Concat
namespace Go.Proofs.YtcjbgchhalilnaaGreatDoor
open Go Go.RowKit

theorem str_of {w : World} {v : Value} {l : List UInt8} (h : Reads w b8 v l) : (convert 43 9 v).run Tryz.prog w = .ok (.string ⟨l.toArray⟩) w :=
  run_string_of h _ _ 5 Tryz.underlying43 Tryz.underlying5 Tryz.underlying9
theorem run_add {a : Act} {o : Oper} {w : World} {t t' : TypeId} {x y : Operand} {u v : List UInt8} (h : o.op = .binOp .add t x y t') (hx : a.eval x = encStr u) (hy : a.eval y = encStr v) (hl : u.length + v.length ≤ 8388608) :
    (execOp a.eval o).run Tryz.prog w = .ok (.value (encStr (u ++ v))) w := by
  have hr := run_string_add_lists (P := Tryz.prog) w u v (by omega) (by omega)
  unfold execOp
  simp [h, hx, hy, binOp, eqGuard, hr]
theorem itoa_num (n : Int) : Lib.itoa (min (max n 0) 999999) = Lib.decDigits (numB n) := by
  have h0 : 0 ≤ min (max n 0) 999999 := by omega
  rw [Lib.itoa, if_neg (by omega), numB]
theorem rep0 (c : Nat) (hc : c ≤ 6) (w : World) : Calls Tryz.prog 31 #[.string ⟨#[48]⟩, .int .i64 c] w fun e w' => e = .returned (.string ⟨(List.replicate c 48).toArray⟩) ∧ Below w.heap.size w w' := by
  have h := Tryz.strings_Repeat ⟨#[48]⟩ c w (by omega) (by show 1 * c ≤ _; omega)
  rw [show (⟨#[48]⟩ : ByteArray).data.toList = List.replicate 1 48 from rfl, Lib.repeatL_replicate, Nat.mul_one] at h
  exact h
theorem below_grow (w : World) (k : Nat) (os : Array Obj) : Below w.heap.size w (Sort.grow (w.drewN k) os) :=
  ⟨rfl, rfl, rfl, by simp [Sort.grow, World.drewN], fun i hi => Sort.heap_grow_old (w.drewN k) os hi⟩
theorem itoaC (m : Nat) (hm : m < 1000000) (w : World) (hT : Laid w) : Calls Tryz.prog 30 #[.int .i64 (m : Int)] w fun e w' => e = .returned (.string ⟨(Lib.decDigits m).toArray⟩) ∧ Below w.heap.size w w' := by
  refine (Tryz.strconv_Itoa m (by omega) (by omega) w hT.2.1).mono ?_
  rintro e w' ⟨rfl, k, os, rfl⟩
  rw [Lib.itoa_nonneg]
  exact ⟨rfl, below_grow w k os⟩

set_option maxRecDepth 100000 in
theorem Name_any (k : Nat) (n : Int) (w : World) (hT : Laid w) (hk : k < 256) (hn : -9223372036854775808 ≤ n ∧ n ≤ 9223372036854775807) :
    Calls Tryz.prog 19 #[.int .u8 (k : Int), .int .i64 n] w fun e w' => e = .returned (encStr (nameL k n)) ∧ Below w.heap.size w w' := by
  have hm := numB_lt n
  have hpad := Lib.hid (pad_dec (k := 5) (numB n) hm)
  have hl := dec_len (k := 5) (numB n) hm
  have hnum : (min (max n 0) 999999 : Int) = (numB n : Int) := by unfold numB; omega
  have hwr : IntKind.i64.wrap ((6 - (Lib.decDigits (numB n)).length : Nat) : Int) = ((6 - (Lib.decDigits (numB n)).length : Nat) : Int) := IntWalk.i64_in _ (by omega)
  have hpos := dec_pos (numB n)
  have hres : Hid (nameL k n = [kindB k] ++ List.replicate (6 - (Lib.decDigits (numB n)).length) 48 ++ Lib.decDigits (numB n)) := by rw [Hid, List.append_assoc, hpad.out]; rfl
  generalize numB n = m at *
  have hsub : (6 : Int) - ((Lib.decDigits m).length : Int) = ((6 - (Lib.decDigits m).length : Nat) : Int) := by omega
  have hkind : (if k < 97 ∨ 122 < k then Value.int .u8 120 else .int .u8 (k : Int)) = .int .u8 ((kindB k).toNat : Int) := by
    unfold kindB
    by_cases h : k < 97 ∨ 122 < k
    · rw [if_pos h, if_pos h]; rfl
    · rw [if_neg h, if_neg h, UInt8.toNat_ofNat']; congr 1; omega
  have hI := itoaC m (by omega) w hT
  have hd3 : (k : Int) < 97 ∨ 122 < (k : Int) ∨ ((97 : Int) ≤ k ∧ (k : Int) ≤ 122) := by omega
  go_enter Tryz.func19, Tryz.ntmps19
  rcases hd3 with h | h | ⟨h, h'⟩
  · have hK : Hid ((Value.int .u8 120) = .int .u8 ((kindB k).toNat : Int))   := Lib.hid (by rw [← hkind, if_pos (by omega)])
    clear hkind
    go_wp2_with fail
    refine hI.mono ?_
    rintro e w1 ⟨rfl, hb1⟩
    go_upto_region 4 with (fail)
    refine region_free (by kernel_rfl) (fun i => ([Spec.is (.int .u8 ((kindB k).toNat : Int)), Spec.rd b8 [kindB k], Spec.is (.string ⟨[kindB k].toArray⟩), Spec.is (.string ⟨(Lib.decDigits m).toArray⟩), Spec.is (.int .i64 ((Lib.decDigits m).length : Int)), Spec.is (.int .i64 ((6 - (Lib.decDigits m).length : Nat) : Int)), Spec.is (.string ⟨(List.replicate (6 - (Lib.decDigits m).length) 48).toArray⟩), Spec.is (.string ⟨([kindB k] ++ List.replicate (6 - (Lib.decDigits m).length) 48).toArray⟩), Spec.is (.string ⟨(Lib.decDigits m).toArray⟩), Spec.is (.string ⟨([kindB k] ++ List.replicate (6 - (Lib.decDigits m).length) 48 ++ Lib.decDigits m).toArray⟩), Spec.is (.string ⟨([kindB k] ++ List.replicate (6 - (Lib.decDigits m).length) 48 ++ Lib.decDigits m).toArray⟩)] : List Spec).getD i Spec.any) (by kernel_rfl) (ops_all ?_) ?_
    · refine ⟨?_, ?_, ?_, ?_, ?_, ?_, ?_, ?_, ?_, ?_, ?_, trivial⟩
      · intro ho a w hb hd hold
        have x0 : a.tmps.getD 0 undef = .int .u8 ((kindB k).toNat : Int) := (show a.tmps.getD 0 undef = _ from hold 0 rfl).trans hK.out
        exact ob_is ho (met_none rfl) (by go_simp) rfl
      · intro ho a w hb hd hold
        have x16 : a.tmps.getD 16 undef = .int .u8 ((kindB k).toNat : Int) := hd 0 rfl
        have y16 : (a.tmps[16]?).getD undef = .int .u8 ((kindB k).toNat : Int) := by simpa using x16
        exact ob_val (v := .slice (some ⟨w.heap.size, 0, none⟩) 1 1) (w' := w.alloc (.cells #[.int .u8 ((kindB k).toNat : Int)] 5)) ho (met_none rfl) (by go_simp) ((Below.refl _ _).alloc (Nat.le_refl _) _) (Reads.built w _ _ 1 b8 [kindB k] rfl rfl (by simp [maxLen]))
      · intro ho a w hb hd hold
        have x17 : Reads w b8 (a.tmps.getD 17 undef) [kindB k] := hd 1 rfl
        exact ob_is ho (met_none rfl) (run_convert rfl rfl (str_of x17)) rfl
      · intro ho a w hb hd hold
        have x5 : a.tmps.getD 5 undef = .string ⟨(Lib.decDigits m).toArray⟩ := hold 5 rfl
        exact ob_is ho (met_none rfl) (by go_simp) rfl
      · intro ho a w hb hd hold
        have x19 : a.tmps.getD 19 undef = .string ⟨(Lib.decDigits m).toArray⟩ := hd 3 rfl
        exact ob_is ho (met_none rfl) (by go_simp) rfl
      · intro ho a w hb hd hold
        have x20 : a.tmps.getD 20 undef = .int .i64 ((Lib.decDigits m).length : Int) := hd 4 rfl
        exact ob_is ho (met_none rfl) (by go_simp) rfl
      · intro ho a w hb hd hold
        have x21 : a.tmps.getD 21 undef = .int .i64 ((6 - (Lib.decDigits m).length : Nat) : Int) := hd 5 rfl
        refine ob_call (args := #[.string ⟨#[48]⟩, .int .i64 ((6 - (Lib.decDigits m).length : Nat) : Int)]) ho (met_none rfl) (run_callf Tryz.func31 (by kernel_rfl) rfl rfl (by simp [Act.eval, x21])) ?_
        exact (rep0 _ (by omega) w).mono fun e w' h => ⟨_, h.1, rfl, h.2⟩
      · intro ho a w hb hd hold
        have x18 : a.tmps.getD 18 undef = .string ⟨[kindB k].toArray⟩ := hd 2 rfl
        have x22 : a.tmps.getD 22 undef = .string ⟨(List.replicate (6 - (Lib.decDigits m).length) 48).toArray⟩ := hd 6 rfl
        exact ob_is ho (met_none rfl) (run_add rfl x18 x22 (by simp; omega)) rfl
      · intro ho a w hb hd hold
        have x5 : a.tmps.getD 5 undef = .string ⟨(Lib.decDigits m).toArray⟩ := hold 5 rfl
        exact ob_is ho (met_none rfl) (by go_simp) rfl
      · intro ho a w hb hd hold
        have x23 : a.tmps.getD 23 undef = .string ⟨([kindB k] ++ List.replicate (6 - (Lib.decDigits m).length) 48).toArray⟩ := hd 7 rfl
        have x24 : a.tmps.getD 24 undef = .string ⟨(Lib.decDigits m).toArray⟩ := hd 8 rfl
        exact ob_is ho (met_none rfl) (run_add rfl x23 x24 (by simp; omega)) rfl
      · intro ho a w hb hd hold
        have x25 : a.tmps.getD 25 undef = .string ⟨([kindB k] ++ List.replicate (6 - (Lib.decDigits m).length) 48 ++ Lib.decDigits m).toArray⟩ := hd 9 rfl
        exact ob_is ho (met_none rfl) (by go_simp) rfl
    · intro a2 w2 hb2 hdn hold hsz hdf
      have x4 : a2.tmps.getD 4 undef = encStr ([kindB k] ++ List.replicate (6 - (Lib.decDigits m).length) 48 ++ Lib.decDigits m) := hdn 10 _ rfl
      rw [← hres.out] at x4
      go_wp2_with fail
      exact ret_at rfl x4 hdf ⟨rfl, hb1.trans (hb2.mono hb1.size)⟩
  · have hK : Hid ((Value.int .u8 120) = .int .u8 ((kindB k).toNat : Int))   := Lib.hid (by rw [← hkind, if_pos (by omega)])
    clear hkind
    have h97 : (97 : Int) ≤ (k : Int) := by omega
    go_wp2_with fail
    refine hI.mono ?_
    rintro e w1 ⟨rfl, hb1⟩
    go_upto_region 4 with (fail)
    refine region_free (by kernel_rfl) (fun i => ([Spec.is (.int .u8 ((kindB k).toNat : Int)), Spec.rd b8 [kindB k], Spec.is (.string ⟨[kindB k].toArray⟩), Spec.is (.string ⟨(Lib.decDigits m).toArray⟩), Spec.is (.int .i64 ((Lib.decDigits m).length : Int)), Spec.is (.int .i64 ((6 - (Lib.decDigits m).length : Nat) : Int)), Spec.is (.string ⟨(List.replicate (6 - (Lib.decDigits m).length) 48).toArray⟩), Spec.is (.string ⟨([kindB k] ++ List.replicate (6 - (Lib.decDigits m).length) 48).toArray⟩), Spec.is (.string ⟨(Lib.decDigits m).toArray⟩), Spec.is (.string ⟨([kindB k] ++ List.replicate (6 - (Lib.decDigits m).length) 48 ++ Lib.decDigits m).toArray⟩), Spec.is (.string ⟨([kindB k] ++ List.replicate (6 - (Lib.decDigits m).length) 48 ++ Lib.decDigits m).toArray⟩)] : List Spec).getD i Spec.any) (by kernel_rfl) (ops_all ?_) ?_
    · refine ⟨?_, ?_, ?_, ?_, ?_, ?_, ?_, ?_, ?_, ?_, ?_, trivial⟩
      · intro ho a w hb hd hold
        have x0 : a.tmps.getD 0 undef = .int .u8 ((kindB k).toNat : Int) := (show a.tmps.getD 0 undef = _ from hold 0 rfl).trans hK.out
        exact ob_is ho (met_none rfl) (by go_simp) rfl
      · intro ho a w hb hd hold
        have x16 : a.tmps.getD 16 undef = .int .u8 ((kindB k).toNat : Int) := hd 0 rfl
        have y16 : (a.tmps[16]?).getD undef = .int .u8 ((kindB k).toNat : Int) := by simpa using x16
        exact ob_val (v := .slice (some ⟨w.heap.size, 0, none⟩) 1 1) (w' := w.alloc (.cells #[.int .u8 ((kindB k).toNat : Int)] 5)) ho (met_none rfl) (by go_simp) ((Below.refl _ _).alloc (Nat.le_refl _) _) (Reads.built w _ _ 1 b8 [kindB k] rfl rfl (by simp [maxLen]))
      · intro ho a w hb hd hold
        have x17 : Reads w b8 (a.tmps.getD 17 undef) [kindB k] := hd 1 rfl
        exact ob_is ho (met_none rfl) (run_convert rfl rfl (str_of x17)) rfl
      · intro ho a w hb hd hold
        have x5 : a.tmps.getD 5 undef = .string ⟨(Lib.decDigits m).toArray⟩ := hold 5 rfl
        exact ob_is ho (met_none rfl) (by go_simp) rfl
      · intro ho a w hb hd hold
        have x19 : a.tmps.getD 19 undef = .string ⟨(Lib.decDigits m).toArray⟩ := hd 3 rfl
        exact ob_is ho (met_none rfl) (by go_simp) rfl
      · intro ho a w hb hd hold
        have x20 : a.tmps.getD 20 undef = .int .i64 ((Lib.decDigits m).length : Int) := hd 4 rfl
        exact ob_is ho (met_none rfl) (by go_simp) rfl
      · intro ho a w hb hd hold
        have x21 : a.tmps.getD 21 undef = .int .i64 ((6 - (Lib.decDigits m).length : Nat) : Int) := hd 5 rfl
        refine ob_call (args := #[.string ⟨#[48]⟩, .int .i64 ((6 - (Lib.decDigits m).length : Nat) : Int)]) ho (met_none rfl) (run_callf Tryz.func31 (by kernel_rfl) rfl rfl (by simp [Act.eval, x21])) ?_
        exact (rep0 _ (by omega) w).mono fun e w' h => ⟨_, h.1, rfl, h.2⟩
      · intro ho a w hb hd hold
        have x18 : a.tmps.getD 18 undef = .string ⟨[kindB k].toArray⟩ := hd 2 rfl
        have x22 : a.tmps.getD 22 undef = .string ⟨(List.replicate (6 - (Lib.decDigits m).length) 48).toArray⟩ := hd 6 rfl
        exact ob_is ho (met_none rfl) (run_add rfl x18 x22 (by simp; omega)) rfl
      · intro ho a w hb hd hold
        have x5 : a.tmps.getD 5 undef = .string ⟨(Lib.decDigits m).toArray⟩ := hold 5 rfl
        exact ob_is ho (met_none rfl) (by go_simp) rfl
      · intro ho a w hb hd hold
        have x23 : a.tmps.getD 23 undef = .string ⟨([kindB k] ++ List.replicate (6 - (Lib.decDigits m).length) 48).toArray⟩ := hd 7 rfl
        have x24 : a.tmps.getD 24 undef = .string ⟨(Lib.decDigits m).toArray⟩ := hd 8 rfl
        exact ob_is ho (met_none rfl) (run_add rfl x23 x24 (by simp; omega)) rfl
      · intro ho a w hb hd hold
        have x25 : a.tmps.getD 25 undef = .string ⟨([kindB k] ++ List.replicate (6 - (Lib.decDigits m).length) 48 ++ Lib.decDigits m).toArray⟩ := hd 9 rfl
        exact ob_is ho (met_none rfl) (by go_simp) rfl
    · intro a2 w2 hb2 hdn hold hsz hdf
      have x4 : a2.tmps.getD 4 undef = encStr ([kindB k] ++ List.replicate (6 - (Lib.decDigits m).length) 48 ++ Lib.decDigits m) := hdn 10 _ rfl
      rw [← hres.out] at x4
      go_wp2_with fail
      exact ret_at rfl x4 hdf ⟨rfl, hb1.trans (hb2.mono hb1.size)⟩
  · have hK : Hid ((Value.int .u8 (k : Int)) = .int .u8 ((kindB k).toNat : Int))   := Lib.hid (by rw [← hkind, if_neg (by omega)])
    clear hkind
    go_wp2_with fail
    refine hI.mono ?_
    rintro e w1 ⟨rfl, hb1⟩
    go_upto_region 4 with (fail)
    refine region_free (by kernel_rfl) (fun i => ([Spec.is (.int .u8 ((kindB k).toNat : Int)), Spec.rd b8 [kindB k], Spec.is (.string ⟨[kindB k].toArray⟩), Spec.is (.string ⟨(Lib.decDigits m).toArray⟩), Spec.is (.int .i64 ((Lib.decDigits m).length : Int)), Spec.is (.int .i64 ((6 - (Lib.decDigits m).length : Nat) : Int)), Spec.is (.string ⟨(List.replicate (6 - (Lib.decDigits m).length) 48).toArray⟩), Spec.is (.string ⟨([kindB k] ++ List.replicate (6 - (Lib.decDigits m).length) 48).toArray⟩), Spec.is (.string ⟨(Lib.decDigits m).toArray⟩), Spec.is (.string ⟨([kindB k] ++ List.replicate (6 - (Lib.decDigits m).length) 48 ++ Lib.decDigits m).toArray⟩), Spec.is (.string ⟨([kindB k] ++ List.replicate (6 - (Lib.decDigits m).length) 48 ++ Lib.decDigits m).toArray⟩)] : List Spec).getD i Spec.any) (by kernel_rfl) (ops_all ?_) ?_
    · refine ⟨?_, ?_, ?_, ?_, ?_, ?_, ?_, ?_, ?_, ?_, ?_, trivial⟩
      · intro ho a w hb hd hold
        have x0 : a.tmps.getD 0 undef = .int .u8 ((kindB k).toNat : Int) := (show a.tmps.getD 0 undef = _ from hold 0 rfl).trans hK.out
        exact ob_is ho (met_none rfl) (by go_simp) rfl
      · intro ho a w hb hd hold
        have x16 : a.tmps.getD 16 undef = .int .u8 ((kindB k).toNat : Int) := hd 0 rfl
        have y16 : (a.tmps[16]?).getD undef = .int .u8 ((kindB k).toNat : Int) := by simpa using x16
        exact ob_val (v := .slice (some ⟨w.heap.size, 0, none⟩) 1 1) (w' := w.alloc (.cells #[.int .u8 ((kindB k).toNat : Int)] 5)) ho (met_none rfl) (by go_simp) ((Below.refl _ _).alloc (Nat.le_refl _) _) (Reads.built w _ _ 1 b8 [kindB k] rfl rfl (by simp [maxLen]))
      · intro ho a w hb hd hold
        have x17 : Reads w b8 (a.tmps.getD 17 undef) [kindB k] := hd 1 rfl
        exact ob_is ho (met_none rfl) (run_convert rfl rfl (str_of x17)) rfl
      · intro ho a w hb hd hold
        have x5 : a.tmps.getD 5 undef = .string ⟨(Lib.decDigits m).toArray⟩ := hold 5 rfl
        exact ob_is ho (met_none rfl) (by go_simp) rfl
      · intro ho a w hb hd hold
        have x19 : a.tmps.getD 19 undef = .string ⟨(Lib.decDigits m).toArray⟩ := hd 3 rfl
        exact ob_is ho (met_none rfl) (by go_simp) rfl
      · intro ho a w hb hd hold
        have x20 : a.tmps.getD 20 undef = .int .i64 ((Lib.decDigits m).length : Int) := hd 4 rfl
        exact ob_is ho (met_none rfl) (by go_simp) rfl
      · intro ho a w hb hd hold
        have x21 : a.tmps.getD 21 undef = .int .i64 ((6 - (Lib.decDigits m).length : Nat) : Int) := hd 5 rfl
        refine ob_call (args := #[.string ⟨#[48]⟩, .int .i64 ((6 - (Lib.decDigits m).length : Nat) : Int)]) ho (met_none rfl) (run_callf Tryz.func31 (by kernel_rfl) rfl rfl (by simp [Act.eval, x21])) ?_
        exact (rep0 _ (by omega) w).mono fun e w' h => ⟨_, h.1, rfl, h.2⟩
      · intro ho a w hb hd hold
        have x18 : a.tmps.getD 18 undef = .string ⟨[kindB k].toArray⟩ := hd 2 rfl
        have x22 : a.tmps.getD 22 undef = .string ⟨(List.replicate (6 - (Lib.decDigits m).length) 48).toArray⟩ := hd 6 rfl
        exact ob_is ho (met_none rfl) (run_add rfl x18 x22 (by simp; omega)) rfl
      · intro ho a w hb hd hold
        have x5 : a.tmps.getD 5 undef = .string ⟨(Lib.decDigits m).toArray⟩ := hold 5 rfl
        exact ob_is ho (met_none rfl) (by go_simp) rfl
      · intro ho a w hb hd hold
        have x23 : a.tmps.getD 23 undef = .string ⟨([kindB k] ++ List.replicate (6 - (Lib.decDigits m).length) 48).toArray⟩ := hd 7 rfl
        have x24 : a.tmps.getD 24 undef = .string ⟨(Lib.decDigits m).toArray⟩ := hd 8 rfl
        exact ob_is ho (met_none rfl) (run_add rfl x23 x24 (by simp; omega)) rfl
      · intro ho a w hb hd hold
        have x25 : a.tmps.getD 25 undef = .string ⟨([kindB k] ++ List.replicate (6 - (Lib.decDigits m).length) 48 ++ Lib.decDigits m).toArray⟩ := hd 9 rfl
        exact ob_is ho (met_none rfl) (by go_simp) rfl
    · intro a2 w2 hb2 hdn hold hsz hdf
      have x4 : a2.tmps.getD 4 undef = encStr ([kindB k] ++ List.replicate (6 - (Lib.decDigits m).length) 48 ++ Lib.decDigits m) := hdn 10 _ rfl
      rw [← hres.out] at x4
      go_wp2_with fail
      exact ret_at rfl x4 hdf ⟨rfl, hb1.trans (hb2.mono hb1.size)⟩
end Go.Proofs.YtcjbgchhalilnaaGreatDoor
