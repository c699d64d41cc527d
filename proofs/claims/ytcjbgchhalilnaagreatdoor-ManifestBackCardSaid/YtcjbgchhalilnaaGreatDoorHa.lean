/- How a law's arguments are opened: a manifest by value. -/
import Derived.Test.YtcjbgchhalilnaaGreatDoorEj
import Derived.Deep.Slices
import Derived.Deep.Strs
import Derived.Lib.SmallJoins
namespace Go.Proofs.YtcjbgchhalilnaaGreatDoor
open Go Go.RowKit Go.ChangeShapes Go.WideShapes

theorem string_enc (s : ByteArray) : Value.string s = encStr s.data.toList := by
  obtain ⟨d⟩ := s
  simp [encStr]
theorem add_add2 (b off i j : Nat) : ((⟨b, off, none⟩ : Addr).add i).add j = ⟨b, off + (i + j), none⟩ := by rw [add_off, add_off, Nat.add_assoc]

set_option maxRecDepth 100000 in
theorem reads_strs {H : Type} {enc : TypeId × Value → H} {W : World} {n : Nat} {c : Value} {y : DataW H × List MemPlace} (h : DataW.trod enc Tryz.prog W 0 (fun _ => true) true n 22 [c] = some y) :
    ∃ xs : List (List UInt8), Reads W encStr c xs := by
  rcases Go.Deep.open_slice Tryz.underlying22 h with ⟨hcs, _⟩ | ⟨x, l, cp, m, n, D, Pl, hcs, _, hl, hm, hmm, _, hel⟩
  · simp at hcs
    subst hcs
    exact ⟨[], Reads.nil _ _⟩
  · simp at hcs
    subst hcs
    have hmc : m = cp := by simpa using hmm
    have each : ∀ i, i < l → ∃ s : List UInt8, W.cell? (x.add i) = some (encStr s) := by
      intro i hi
      obtain ⟨cs', h1, h2⟩ := hel i (by omega)
      rw [show Tryz.prog.cellsOf 9 = 1 by kernel_rfl] at h1
      obtain ⟨_, hlen, hcell⟩ := World.cells?_some h1
      obtain ⟨s, hs, _, _⟩ := DataW.trod_string Tryz.underlying9 h2
      subst hs
      have k0 := hcell 0 (by omega)
      rw [Go.Deep.add_add] at k0
      refine ⟨s.data.toList, ?_⟩
      rw [← string_enc]
      simpa using k0
    by_cases h0 : l = 0
    · subst h0
      exact ⟨[], .inl ⟨rfl, some x, cp, rfl, hm, fun h => by cases h⟩⟩
    · obtain ⟨b, off, spot⟩ := x
      obtain ⟨q0, hc0⟩ := each 0 (by omega)
      have hspot : spot = none := by simpa [Addr.add] using World.cell?_spot hc0
      subst hspot
      have each2 : ∀ i, i < l → ∃ s : List UInt8, W.cell? ⟨b, off + i, none⟩ = some (encStr s) := fun i hi => by
        obtain ⟨s, hs⟩ := each i hi
        rw [add_off] at hs
        exact ⟨s, hs⟩
      have hg : ∃ g : Nat → List UInt8, ∀ i, i < l → W.cell? ⟨b, off + i, none⟩ = some (encStr (g i)) := by
        refine ⟨fun i => if h : i < l then (each2 i h).choose else [], fun i hi => ?_⟩
        simp only [hi, dif_pos]
        exact (each2 i hi).choose_spec
      obtain ⟨g, hg⟩ := hg
      have hlen : ((List.range l).map g).length = l := by simp
      refine ⟨(List.range l).map g, .inr ⟨b, off, cp, by rw [hlen], by omega, hm, ?_, fun i hi => ?_⟩⟩
      · exact World.block_lt_of_cell? W ⟨b, off + 0, none⟩ (hg 0 (by omega))
      · rw [List.getElem_map, List.getElem_range]
        exact hg i (by simpa using hi)

set_option maxRecDepth 100000 in
theorem reads_data {H : Type} {enc : TypeId × Value → H} {W : World} {n : Nat} {c : Value} {y : DataW H × List MemPlace} (h : DataW.trod enc Tryz.prog W 0 (fun _ => true) true n 23 [c] = some y) :
    ∃ xs : List D2, ReadsV W c xs ∧ ∀ d ∈ xs, -9223372036854775808 ≤ d.m ∧ d.m ≤ 9223372036854775807 := by
  rcases Go.Deep.open_slice Tryz.underlying23 h with ⟨hcs, _⟩ | ⟨x, l, cp, m, n, D, Pl, hcs, _, hl, hm, hmm, _, hel⟩
  · simp at hcs
    subst hcs
    exact ⟨[], ReadsV.nil _, fun d hd => by cases hd⟩
  · simp at hcs
    subst hcs
    have hmc : m = cp := by simpa using hmm
    have each : ∀ i, i < l → ∃ d : D2, (-9223372036854775808 ≤ d.m ∧ d.m ≤ 9223372036854775807) ∧ W.cell? (x.add (i * 2)) = some (.int .i64 d.m) ∧ W.cell? (x.add (i * 2 + 1)) = some (encStr d.n) := by
      intro i hi
      obtain ⟨cs', h1, h2⟩ := hel i (by omega)
      rw [show Tryz.prog.cellsOf 54 = 2 by kernel_rfl] at h1
      obtain ⟨_, hlen, hcell⟩ := World.cells?_some h1
      obtain ⟨y0, y1, k, _, _, g0, g1⟩ := trod_struct2 Tryz.underlying54 h2
      match cs', hlen with
      | [c0, c1], _ =>
        simp only [show Tryz.prog.cellsOf 3 = 1 by kernel_rfl, show Tryz.prog.cellsOf 9 = 1 by kernel_rfl] at g0 g1
        obtain ⟨z0, e0, _, w0⟩ := DataW.trod_int Tryz.underlying3 g0
        obtain ⟨s1, e1, _, _⟩ := DataW.trod_string Tryz.underlying9 g1
        simp at e0 e1
        subst e0 e1
        have k0 := hcell 0 (by omega)
        have k1 := hcell 1 (by omega)
        rw [Go.Deep.add_add] at k0 k1
        refine ⟨⟨z0, s1.data.toList⟩, bounds_i64 w0, by simpa using k0, ?_⟩
        rw [← string_enc]
        simpa using k1
    by_cases h0 : l = 0
    · subst h0
      exact ⟨[], .inl ⟨rfl, some x, cp, rfl, hm, fun h => by cases h⟩, fun d hd => by cases hd⟩
    · obtain ⟨b, off, spot⟩ := x
      obtain ⟨q0, _, hc0, _⟩ := each 0 (by omega)
      have hspot : spot = none := by simpa [Addr.add] using World.cell?_spot hc0
      subst hspot
      have each2 : ∀ i, i < l → ∃ d : D2, (-9223372036854775808 ≤ d.m ∧ d.m ≤ 9223372036854775807) ∧ CellsAt W b (off + i * 2) d := fun i hi => by
        obtain ⟨d, s0, s1, s2⟩ := each i hi
        rw [add_off] at s1 s2
        exact ⟨d, s0, s1, s2⟩
      have hg : ∃ g : Nat → D2, ∀ i, i < l → (-9223372036854775808 ≤ (g i).m ∧ (g i).m ≤ 9223372036854775807) ∧ CellsAt W b (off + i * 2) (g i) := by
        refine ⟨fun i => if h : i < l then (each2 i h).choose else ⟨0, []⟩, fun i hi => ?_⟩
        simp only [hi, dif_pos]
        exact (each2 i hi).choose_spec
      obtain ⟨g, hg⟩ := hg
      have hlen : ((List.range l).map g).length = l := by simp
      refine ⟨(List.range l).map g, .inr ⟨b, off, cp, by rw [hlen], by omega, hm, ?_, fun i hi => ?_⟩, fun d hd => ?_⟩
      · rw [show (⟨b, off, none⟩ : Addr).add (0 * 2) = ⟨b, off, none⟩ from rfl] at hc0
        exact World.block_lt_of_cell? W ⟨b, off, none⟩ hc0
      · have hi2 : i < l := by omega
        simpa using (hg i hi2).2
      · obtain ⟨i, hi, rfl⟩ := List.mem_map.1 hd
        exact (hg i (List.mem_range.1 hi)).1

def ManB (m : Man) : Prop := (-9223372036854775808 ≤ m.seq ∧ m.seq ≤ 9223372036854775807) ∧ (-9223372036854775808 ≤ m.every ∧ m.every ≤ 9223372036854775807) ∧ (-9223372036854775808 ≤ m.keep ∧ m.keep ≤ 9223372036854775807) ∧ ∀ d ∈ m.data, -9223372036854775808 ≤ d.m ∧ d.m ≤ 9223372036854775807

set_option maxRecDepth 100000 in
theorem reads_man {H : Type} {enc : TypeId × Value → H} {W : World} {r : Reach} {base : Nat} {v : Value} {d : DataW H} {p : List MemPlace} (hv : Value.okWide Tryz.prog W r base 25 v) (h : DataW.Trod enc Tryz.prog W 0 (fun _ => true) true 25 v d p) :
    ∃ m : Man, ReadsM W v m ∧ ManB m := by
  obtain ⟨cs, rfl, hsz⟩ := okWide_struct Tryz.underlying25 hv
  have hsz5 : cs.size = 5 := hsz.trans (by kernel_rfl)
  obtain ⟨fuel, hf⟩ := h
  obtain ⟨xs, n, _, _, _, hlen, hfs⟩ := DataW.trod_struct Tryz.underlying25 hf
  obtain ⟨l⟩ := cs
  have hl5 : l.length = 5 := hsz5
  match l, hl5, xs, hlen with
  | [c0, c1, c2, c3, c4], _, [y0, y1, y2, y3, y4], _ =>
    have g0 : DataW.trod enc Tryz.prog W 0 (fun _ => true) true n 3 [c0] = some y0 := by
      have h := hfs 0 _ rfl
      simpa [Value.cells, show Tryz.prog.cellsOf 3 = 1 by kernel_rfl] using h
    have g1 : DataW.trod enc Tryz.prog W 0 (fun _ => true) true n 3 [c1] = some y1 := by
      have h := hfs 1 _ rfl
      simpa [Value.cells, show Tryz.prog.cellsOf 3 = 1 by kernel_rfl] using h
    have g2 : DataW.trod enc Tryz.prog W 0 (fun _ => true) true n 2 [c2] = some y2 := by
      have h := hfs 2 _ rfl
      simpa [Value.cells, show Tryz.prog.cellsOf 2 = 1 by kernel_rfl] using h
    have g3 : DataW.trod enc Tryz.prog W 0 (fun _ => true) true n 22 [c3] = some y3 := by
      have h := hfs 3 _ rfl
      simpa [Value.cells, show Tryz.prog.cellsOf 22 = 1 by kernel_rfl] using h
    have g4 : DataW.trod enc Tryz.prog W 0 (fun _ => true) true n 23 [c4] = some y4 := by
      have h := hfs 4 _ rfl
      simpa [Value.cells, show Tryz.prog.cellsOf 23 = 1 by kernel_rfl] using h
    obtain ⟨z0, e0, _, w0⟩ := DataW.trod_int Tryz.underlying3 g0
    obtain ⟨z1, e1, _, w1⟩ := DataW.trod_int Tryz.underlying3 g1
    obtain ⟨z2, e2, _, w2⟩ := DataW.trod_int Tryz.underlying2 g2
    simp at e0 e1 e2
    subst e0 e1 e2
    obtain ⟨ix, hix⟩ := reads_strs (c := c3) g3
    obtain ⟨da, hda, hdb⟩ := reads_data (c := c4) g4
    exact ⟨⟨z0, z1, z2, ix, da⟩, ⟨c3, c4, rfl, hix, hda⟩, bounds_i64 w0, bounds_i64 w1, bounds_i64 w2, hdb⟩
end Go.Proofs.YtcjbgchhalilnaaGreatDoor
