/- What the walks of eskerlaw18 want of the package-level variables, and that the row's list gives it. -/
import Derived.Test.YtcjbgchhalilnaaGreatDoorEa
import Derived.Test.YtcjbgchhalilnaaGreatDoorRows
import Derived.Test.YtcjbgchhalilnaaGreatDoorSh
import Derived.Stop.LaidErr
import Derived.Lib.LaidTab
import Derived.WalkSmall
namespace Go.Proofs.YtcjbgchhalilnaaGreatDoor
open Go Go.RowKit

def Laid (w : World) : Prop :=
  HalvesAt w ∧ Lib.TabIs Tryz.prog w "internal/strconv.uint64pow10" .u64 Lib.pow10Tab ∧ 5 ≤ w.heap.size ∧ (∃ t p, w.cell? ⟨3, 0, none⟩ = some (.iface t p)) ∧ ∃ t p, w.cell? ⟨4, 0, none⟩ = some (.iface t p)

theorem gHalves : Tryz.prog.globalNamed "esker/frame.halves" = some 0 := by kernel_rfl
theorem gHalvesT : (Tryz.prog.globals[0]?).map (·.type) = some 134 := by kernel_rfl
theorem cells134 : Tryz.prog.cellsOf 134 = 16 := by kernel_rfl
theorem cellsE0 : Tryz.prog.cellsOf 97 = 1 := by kernel_rfl
theorem gPow : Tryz.prog.globalNamed "internal/strconv.uint64pow10" = some 1 := by kernel_rfl
theorem gPowT : (Tryz.prog.globals[1]?).map (·.type) = some 147 := by kernel_rfl
theorem cells147 : Tryz.prog.cellsOf 147 = 20 := by kernel_rfl
theorem cellsE1 : Tryz.prog.cellsOf 65 = 1 := by kernel_rfl
theorem gSyn : Tryz.prog.globalNamed "strconv.ErrSyntax" = some 3 := by kernel_rfl
theorem gRng : Tryz.prog.globalNamed "strconv.ErrRange" = some 4 := by kernel_rfl
theorem gSynT : (Tryz.prog.globals[3]?).map (·.type) = some 84 := by kernel_rfl
theorem gRngT : (Tryz.prog.globals[4]?).map (·.type) = some 84 := by kernel_rfl
theorem cells162 : Tryz.prog.cellsOf 162 = 1 := by kernel_rfl
theorem cells9 : Tryz.prog.cellsOf 9 = 1 := by kernel_rfl
theorem starE : "*" ++ "errors.errorString" = "*errors.errorString" := by decide
theorem row160 (u : TypeId) (h : Tryz.prog.typeName? 3 u = some "*errors.errorString") : u = 160 :=
  typeName_ptr_named (nm := "errors.errorString") (by rw [starE]; kernel_rfl) (by kernel_rfl) (by decide) u (by rw [starE]; exact h)

theorem Laid.below {w w' : World} {B : Nat} (h : Laid w) (hb : Below B w w') (hB : w.heap.size ≤ B) : Laid w' := by
  obtain ⟨h1, h2, h3, ⟨t, p, h4⟩, u, q, h5⟩ := h
  have hs := hb.size
  refine ⟨h1.below hb hB, var?_below hb gPow (by omega) h2, by omega, ⟨t, p, (hb.cell (p := ⟨3, 0, none⟩) (by show 3 < B; omega)).trans h4⟩, u, q, (hb.cell (p := ⟨4, 0, none⟩) (by show 4 < B; omega)).trans h5⟩

set_option maxRecDepth 100000 in
theorem laid_of {W : World} (h0 : laidMetH Tryz.prog Rows.manifestRowRow.laid W) : Laid W := by
  have h : laidMet Tryz.prog [("math/bits.deBruijn32tab", Rows.laid_math_bits_deBruijn32tab), ("math/bits.deBruijn64tab", Rows.laid_math_bits_deBruijn64tab), ("internal/strconv.uint64pow10", Rows.laid_internal_strconv_uint64pow10), ("strconv.ErrRange", Rows.laid_strconv_ErrRange), ("strconv.ErrSyntax", Rows.laid_strconv_ErrSyntax), ("esker/frame.halves", Rows.laid_esker_frame_halves)] W := h0
  have h2 := h.tail.tail
  have h3 := h2.tail
  have h4 := h3.tail
  have h5 := h4.tail
  have p1 : Lib.TabIs Tryz.prog W "internal/strconv.uint64pow10" .u64 Lib.pow10Tab := Lib.tabIs_of_head gPow gPowT Tryz.underlying147 Tryz.underlying65 cellsE1 cells147 h2
  have p2 : Lib.TabIs Tryz.prog W "esker/frame.halves" .u32 halves := Lib.tabIs_of_head gHalves gHalvesT Tryz.underlying134 Tryz.underlying97 cellsE0 cells134 h5
  obtain ⟨a0, s0, hv0, -, -, -⟩ := laid_sentinel h3 gRng gRngT Tryz.underlying84 row160 Tryz.underlying160 Tryz.underlying162 rfl rfl Tryz.underlying9 cells162 cells9
  obtain ⟨a1, s1, hv1, -, -, -⟩ := laid_sentinel h4 gSyn gSynT Tryz.underlying84 row160 Tryz.underlying160 Tryz.underlying162 rfl rfl Tryz.underlying9 cells162 cells9
  have c0 : W.cell? ⟨4, 0, none⟩ = some (.iface 160 (.pointer (some a0))) := by have h0 := World.var?_cell gRng hv0 0; simpa using h0
  have c1 : W.cell? ⟨3, 0, none⟩ = some (.iface 160 (.pointer (some a1))) := by have h0 := World.var?_cell gSyn hv1 0; simpa using h0
  have hsz : 4 < W.heap.size := World.block_lt_of_cell? W ⟨4, 0, none⟩ c0
  exact ⟨⟨by omega, fun i hi => p2.cell gHalves i (by simpa [halves] using hi)⟩, p1, by omega, ⟨_, _, c1⟩, _, _, c0⟩
end Go.Proofs.YtcjbgchhalilnaaGreatDoor
