/- few: the walk. -/
import Derived.Test.YtcjbgchhalilnaaGreatDoorEj
import Derived.Test.YtcjbgchhalilnaaGreatDoorEf
namespace Go.Proofs.YtcjbgchhalilnaaGreatDoor
open Go Go.RowKit Go.Lib
set_option linter.unusedVariables false

def FewEnd (m : Man) (w : World) (e : Ending) (w' : World) : Prop :=
  ∃ b, e = .returned (.bool b) ∧ (b = true → m.index.length ≤ 150 ∧ m.data.length ≤ 150) ∧ Below w.heap.size w w'

set_option maxRecDepth 100000 in
theorem few_any (v : Value) (m : Man) (w : World) (hr : ReadsM w v m) : Calls Tryz.prog 9 #[v] w (FewEnd m w) := by
  obtain ⟨vi, vd, rfl, hri, hrd⟩ := hr
  obtain ⟨ai, ci, rfl⟩ := hri.slice
  obtain ⟨ad, cd, rfl⟩ := hrd.slice
  obtain ⟨n0, hn0⟩ : ∃ n0, w.heap.size = n0 := ⟨_, rfl⟩
  obtain ⟨W, hW⟩ : ∃ W, w.alloc (.cells #[.int .i64 m.seq, .int .i64 m.every, .int .i64 m.keep, .slice ai m.index.length ci, .slice ad m.data.length cd] 25) = W := ⟨_, rfl⟩
  have hA : Below n0 w W := by rw [← hW]; exact (Below.refl _ _).alloc (by omega) _
  have hWs : W.heap.size = n0 + 1 := by rw [← hW]; simp [hn0]
  have K : ∀ k : Nat, W.cell? ⟨n0, k, none⟩ = (#[.int .i64 m.seq, .int .i64 m.every, .int .i64 m.keep, .slice ai m.index.length ci, .slice ad m.data.length cd] : Array Value)[k]? := by
    intro k
    rw [← hW, ← hn0]
    exact World.cell?_alloc_new _ _ _ _
  have c3 : W.cell? ⟨n0, 3, none⟩ = some (.slice ai m.index.length ci) := K 3
  have c4 : W.cell? ⟨n0, 4, none⟩ = some (.slice ad m.data.length cd) := K 4
  have hriW := hri.below hA (by omega)
  have hrdW := hrd.below hA (by omega)
  clear K hri hrd
  by_cases h1 : (150 : Int) < m.index.length
  · go_enter Tryz.func9, Tryz.ntmps9
    go_wp2_with fail
    go_ret
    exact ⟨_, rfl, fun h => (by cases h), by rw [hn0]; exact hA⟩
  by_cases h2 : (150 : Int) < m.data.length
  · go_enter Tryz.func9, Tryz.ntmps9
    go_wp2_with fail
    go_ret
    exact ⟨_, rfl, fun h => (by cases h), by rw [hn0]; exact hA⟩
  have h1' : (m.index.length : Int) ≤ 150 := by omega
  have h2' : (m.data.length : Int) ≤ 150 := by omega
  go_enter Tryz.func9, Tryz.ntmps9
  go_wp2_with fail
  go_loopw [3] (fun i wr => ∃ j : Nat, j ≤ m.index.length ∧ i = .int .i64 (j : Int) ∧ wr = W) (fun i _ => m.index.length - (intOf i).toNat)
  case atStart => exact ⟨0, Nat.zero_le _, rfl, rfl⟩
  case round =>
    obtain ⟨j, hj, rfl, rfl⟩ := hrel
    by_cases hlt : j < m.index.length
    · obtain ⟨b, off, rfl, hc⟩ := hriW.elem hlt
      have hc' : wr.cell? ⟨b, off + j, none⟩ = some (.string ⟨(m.index[j]).toArray⟩) := hc
      have hsz := str_len m.index[j]
      generalize m.index[j] = s at hc' hsz
      clear hc
      by_cases hs : (50 : Int) < s.length
      · go_wp2_with fail
        go_ret
        exact ⟨_, rfl, fun h => (by cases h), by rw [hn0]; exact hA⟩
      · go_wp2_with fail
        go_roundw
        case rel => exact ⟨j + 1, hlt, by go_num, trivial⟩
        case measure => simp [intOf]; omega
    · have hjl : j = m.index.length := by omega
      subst hjl
      go_wp2_with fail
      go_loopw [4] (fun i w2 => ∃ j : Nat, j ≤ m.data.length ∧ i = .int .i64 (j : Int) ∧ w2 = wr) (fun i _ => m.data.length - (intOf i).toNat)
      case atStart => exact ⟨0, Nat.zero_le _, rfl, rfl⟩
      case round =>
        obtain ⟨j, hj, rfl, rfl⟩ := hrel
        by_cases hlt : j < m.data.length
        · obtain ⟨b, off, rfl, hbl, hc1, hc2⟩ := hrdW.elem hlt
          have hc' : wr.cell? ⟨b, off + j * 2 + 1, none⟩ = some (.string ⟨(m.data[j].n).toArray⟩) := hc2
          have hsz := str_len m.data[j].n
          generalize m.data[j].n = s at hc' hsz
          clear hc1 hc2
          by_cases hs : (50 : Int) < s.length
          · go_wp2_with fail
            go_ret
            exact ⟨_, rfl, fun h => (by cases h), by rw [hn0]; exact hA⟩
          · go_wp2_with fail
            go_roundw
            case rel => exact ⟨j + 1, hlt, by go_num, trivial⟩
            case measure => simp [intOf]; omega
        · have hjl : j = m.data.length := by omega
          subst hjl
          go_wp2_with fail
          go_ret
          exact ⟨_, rfl, fun _ => ⟨by omega, by omega⟩, by rw [hn0]; exact hA⟩
end Go.Proofs.YtcjbgchhalilnaaGreatDoor
