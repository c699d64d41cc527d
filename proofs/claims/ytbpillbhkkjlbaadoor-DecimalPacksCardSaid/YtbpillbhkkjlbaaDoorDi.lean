/- How a law's arguments are opened: slices of values, as lists; the table of the powers of ten out of the row's list. -/
import Derived.Test.YtbpillbhkkjlbaaDoorDh
import Derived.Test.YtbpillbhkkjlbaaDoorKc
import Derived.Test.YtbpillbhkkjlbaaDoorRows
import Derived.Deep.Slices
import Derived.Deep.Strs
import Derived.Lib.LaidTab
namespace Go.Proofs.YtbpillbhkkjlbaaDoor
open Go Go.RowKit Go.ChangeShapes Go.WideShapes

theorem wf_i64 {n : Int} (h : (Lit.int .i64 n).wf = true) : I64 n := by
  have := bounds_i64 h
  exact this

theorem reads_vals {H : Type} {enc : TypeId × Value → H} {W : World} {r : Reach} {base : Nat}
    {v : Value} {d : DataW H} {p : List MemPlace} (hv : Value.okWide Tryd.prog W r base 22 v) (h : DataW.Trod enc Tryd.prog W 0 (fun _ => true) true 22 v d p) :
    ∃ xs : List V3, ReadsV W v xs ∧ ∀ a ∈ xs, OkV a := by
  obtain ⟨a0, len0, cap0, rfl⟩ := okWide_slice Tryd.underlying22 hv
  obtain ⟨fuel, hf⟩ := h
  rcases Go.Deep.open_slice Tryd.underlying22 hf with ⟨hcs, _⟩ | ⟨x, l, c, m, n, D, Pl, hcs, _, hl, hm, hmm, _, hel⟩
  · simp [Value.cells] at hcs
    obtain ⟨rfl, rfl, rfl⟩ := hcs
    exact ⟨[], ReadsV.nil _, fun n hn => by cases hn⟩
  · simp [Value.cells] at hcs
    obtain ⟨rfl, rfl, rfl⟩ := hcs
    have hmc : m = cap0 := by simpa using hmm
    have each : ∀ i, i < len0 → ∃ q : V3, OkV q ∧ W.cell? (x.add (i * 3)) = some (.int .i64 q.m) ∧ W.cell? (x.add (i * 3 + 1)) = some (.int .i64 q.e) ∧ W.cell? (x.add (i * 3 + 2)) = some (.int .i64 q.s) := by
      intro i hi
      obtain ⟨cs', h1, h2⟩ := hel i (by omega)
      rw [show Tryd.prog.cellsOf 36 = 3 by kernel_rfl] at h1
      obtain ⟨_, hlen, hcell⟩ := World.cells?_some h1
      obtain ⟨y0, y1, y2, k, _, _, g0, g1, g2⟩ := Go.Deep.trod_struct3 Tryd.underlying36 h2
      match cs', hlen with
      | [c0, c1, c2], _ =>
        simp only [show Tryd.prog.cellsOf 2 = 1 by kernel_rfl, show Tryd.prog.cellsOf 3 = 1 by kernel_rfl] at g0 g1 g2
        obtain ⟨z0, e0, _, w0⟩ := DataW.trod_int Tryd.underlying2 g0
        obtain ⟨z1, e1, _, w1⟩ := DataW.trod_int Tryd.underlying3 g1
        obtain ⟨z2, e2, _, w2⟩ := DataW.trod_int Tryd.underlying3 g2
        simp at e0 e1 e2
        subst e0 e1 e2
        have k0 := hcell 0 (by omega)
        have k1 := hcell 1 (by omega)
        have k2 := hcell 2 (by omega)
        rw [Go.Deep.add_add] at k0 k1 k2
        exact ⟨⟨z0, z1, z2⟩, ⟨wf_i64 w0, wf_i64 w1, wf_i64 w2⟩, by simpa using k0, by simpa using k1, by simpa using k2⟩
    by_cases h0 : len0 = 0
    · subst h0
      exact ⟨[], .inl ⟨rfl, some x, cap0, rfl, hm, fun h => by cases h⟩, fun n hn => by cases hn⟩
    · obtain ⟨b, off, spot⟩ := x
      obtain ⟨q0, _, hc0, _⟩ := each 0 (by omega)
      have hspot : spot = none := by simpa [Addr.add] using World.cell?_spot hc0
      subst hspot
      have each2 : ∀ i, i < len0 → ∃ q : V3, OkV q ∧ CellsAt W b (off + i * 3) q := fun i hi => by
        obtain ⟨q, s1, s2, s3, s4⟩ := each i hi
        rw [add_off] at s2 s3 s4
        exact ⟨q, s1, s2, s3, s4⟩
      have hg : ∃ g : Nat → V3, ∀ i, i < len0 → OkV (g i) ∧ CellsAt W b (off + i * 3) (g i) := by
        refine ⟨fun i => if h : i < len0 then (each2 i h).choose else zeroV, fun i hi => ?_⟩
        simp only [hi, dif_pos]
        exact (each2 i hi).choose_spec
      obtain ⟨g, hg⟩ := hg
      have hlen : ((List.range len0).map g).length = len0 := by simp
      refine ⟨(List.range len0).map g, .inr ⟨b, off, cap0, by rw [hlen], by omega, hm, ?_, fun i hi => ?_⟩, fun a ha => ?_⟩
      · rw [show (⟨b, off, none⟩ : Addr).add (0 * 3) = ⟨b, off, none⟩ from rfl] at hc0
        exact World.block_lt_of_cell? W ⟨b, off, none⟩ hc0
      · have hi2 : i < len0 := by omega
        simpa using (hg i hi2).2
      · obtain ⟨i, hi, rfl⟩ := List.mem_map.1 ha
        exact (hg i (List.mem_range.1 hi)).1

theorem gTens : Tryd.prog.globalNamed "esker/decimal.tens" = some 0 := by kernel_rfl
theorem gTensType : (Tryd.prog.globals[0]?).map (·.type) = some 40 := by kernel_rfl
theorem tens_of_laid {W : World} (h : Lib.TabIs Tryd.prog W "esker/decimal.tens" .i64 [1, 10, 100, 1000, 10000, 100000, 1000000, 10000000, 100000000, 1000000000, 10000000000, 100000000000, 1000000000000, 10000000000000, 100000000000000, 1000000000000000, 10000000000000000, 100000000000000000, 1000000000000000000]) : Tens W := by
  have hc : ∀ i : Nat, i < 19 → W.cell? ⟨0, i, none⟩ = some (.int .i64 ((10 ^ i : Nat) : Int)) := by
    intro i hi
    have h1 := h.cell gTens i (by simpa using hi)
    rw [h1]
    have h2 : ∀ i : Nat, i < 19 → ([1, 10, 100, 1000, 10000, 100000, 1000000, 10000000, 100000000, 1000000000, 10000000000, 100000000000, 1000000000000, 10000000000000, 100000000000000, 1000000000000000, 10000000000000000, 100000000000000000, 1000000000000000000] : List Int).getD i 0 = ((10 ^ i : Nat) : Int) := by decide +kernel
    exact congrArg (fun z => some (Value.int .i64 z)) (h2 i hi)
  exact ⟨World.block_lt_of_cell? W ⟨0, 0, none⟩ (hc 0 (by decide)), hc⟩
end Go.Proofs.YtbpillbhkkjlbaaDoor
