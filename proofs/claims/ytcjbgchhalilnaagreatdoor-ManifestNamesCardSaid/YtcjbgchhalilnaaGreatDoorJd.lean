/- ManifestNames: the walk. -/
import Derived.Test.YtcjbgchhalilnaaGreatDoorJc
import Derived.Test.YtcjbgchhalilnaaGreatDoorHb
import Derived.Test.YtcjbgchhalilnaaGreatDoorIb
import Derived.Test.YtcjbgchhalilnaaGreatDoorFf
namespace Go.Proofs.YtcjbgchhalilnaaGreatDoor
open Go Go.RowKit Go.Lib
set_option linter.unusedVariables false

set_option maxRecDepth 100000 in
set_option maxHeartbeats 4000000 in
theorem names_walk (v : Value) (m : Man) (k : Nat) (n : Int) (w : World) (hT : Laid w) (hr : ReadsM w v m) (hk : k < 256) (hn : -9223372036854775808 ≤ n ∧ n ≤ 9223372036854775807) : Calls Tryz.prog 3 #[v, .int .u8 (k : Int), .int .i64 n] w fun e w' => TrueEnd w e w' := by
  have hrm := hr
  obtain ⟨vi, vd, rfl, hri, hrd⟩ := hr
  obtain ⟨ai, ci, rfl⟩ := hri.slice
  obtain ⟨ad, cd, rfl⟩ := hrd.slice
  obtain ⟨n0, hn0⟩ : ∃ n0, w.heap.size = n0 := ⟨_, rfl⟩
  obtain ⟨W, hW⟩ : ∃ W, w.alloc (.cells #[.int .i64 m.seq, .int .i64 m.every, .int .i64 m.keep, .slice ai m.index.length ci, .slice ad m.data.length cd] 25) = W := ⟨_, rfl⟩
  have hA : Below n0 w W := by rw [← hW]; exact (Below.refl _ _).alloc (by omega) _
  have hWs : W.heap.size = n0 + 1 := by rw [← hW]; simp [hn0]
  have K : ∀ k : Nat, W.cell? ⟨n0, k, none⟩ = (#[.int .i64 m.seq, .int .i64 m.every, .int .i64 m.keep, .slice ai m.index.length ci, .slice ad m.data.length cd] : Array Value)[k]? := by
    intro k
    rw [← hW, ← hn0]
    exact World.cell?_alloc_new _ _ _ _
  have CC : ∀ w', Below (n0 + 1) W w' → w'.cell? ⟨n0, 0, none⟩ = some (.int .i64 m.seq) ∧ w'.cell? ⟨n0, 1, none⟩ = some (.int .i64 m.every) ∧ w'.cell? ⟨n0, 2, none⟩ = some (.int .i64 m.keep) ∧ w'.cell? ⟨n0, 3, none⟩ = some (.slice ai m.index.length ci) ∧ w'.cell? ⟨n0, 4, none⟩ = some (.slice ad m.data.length cd) := by
    intro w' h
    have q : ∀ k, w'.cell? ⟨n0, k, none⟩ = W.cell? ⟨n0, k, none⟩ := fun k => h.cell (p := ⟨n0, k, none⟩) (by show n0 < n0 + 1; omega)
    exact ⟨(q 0).trans (K 0), (q 1).trans (K 1), (q 2).trans (K 2), (q 3).trans (K 3), (q 4).trans (K 4)⟩
  clear K
  have hTW : Laid W := hT.below hA (by omega)
  have hrW := hrm.below hA (by omega)
  have h1 := awake_any W hTW
  go_enter Tryz.func3, Tryz.ntmps3
  go_wp2_with fail
  refine h1.mono ?_
  rintro e w1 ⟨rfl, hb1⟩
  have hb1' : Below (n0 + 1) W w1 := hb1.mono (by omega)
  have hs1 := hb1'.size
  obtain ⟨c0, c1, c2, c3, c4⟩ := CC w1 hb1'
  have h2 := few_any _ m w1 (hrW.below hb1' (by omega))
  clear h1
  go_wp2_with fail
  refine h2.mono ?_
  rintro e w2 ⟨b, rfl, hfew, hb2⟩
  have hb2' : Below (n0 + 1) W w2 := hb1'.trans (hb2.mono (by omega))
  have hs2 := hb2'.size
  clear c0 c1 c2 c3 c4 h2
  by_cases hbt : b = true
  rotate_left
  · rw [show b = false by simpa using hbt]
    go_wp2_with fail
    go_ret
    refine ⟨rfl, ?_⟩
    rw [hn0]
    exact hA.trans (hb2'.mono (by omega))
  subst hbt
  obtain ⟨hl1, hl2⟩ := hfew rfl
  obtain ⟨c0, c1, c2, c3, c4⟩ := CC w2 hb2'
  have h3 := plain_any _ m w2 (by omega) (hrW.below hb2' (by omega))
  go_wp2_with fail
  refine h3.mono ?_
  rintro e w3 ⟨v', rfl, hr3, hb3⟩
  have hb3' : Below (n0 + 1) W w3 := hb2'.trans (hb3.mono (by omega))
  have hs3 := hb3'.size
  clear c0 c1 c2 c3 c4 h3
  obtain ⟨ui, ud, rfl, hui, hud⟩ := hr3
  obtain ⟨bi, di, rfl⟩ := hui.slice
  obtain ⟨bd, dd, rfl⟩ := hud.slice
  obtain ⟨n9, hn9⟩ : ∃ n9, w3.heap.size = n9 := ⟨_, rfl⟩
  obtain ⟨W7, hW7⟩ : ∃ W7, w3.alloc (.cells #[.int .i64 m.seq, .int .i64 m.every, .int .i64 m.keep, .slice bi m.index.length di, .slice bd m.data.length dd] 30) = W7 := ⟨_, rfl⟩
  have hA7 : Below n9 w3 W7 := by rw [← hW7]; exact (Below.refl _ _).alloc (by omega) _
  have hb7 : Below (n0 + 1) W W7 := hb3'.trans (hA7.mono (by omega))
  have hs7 : W7.heap.size = n9 + 1 := by rw [← hW7]; simp [hn9]
  have K7 : ∀ k : Nat, W7.cell? ⟨n9, k, none⟩ = (#[.int .i64 m.seq, .int .i64 m.every, .int .i64 m.keep, .slice bi m.index.length di, .slice bd m.data.length dd] : Array Value)[k]? := by
    intro k
    rw [← hW7, ← hn9]
    exact World.cell?_alloc_new _ _ _ _
  have C1 : ∀ w', Below (n9 + 1) W7 w' → w'.cell? ⟨n0, 0, none⟩ = some (.int .i64 m.seq) ∧ w'.cell? ⟨n0, 1, none⟩ = some (.int .i64 m.every) ∧ w'.cell? ⟨n0, 2, none⟩ = some (.int .i64 m.keep) ∧ w'.cell? ⟨n0, 3, none⟩ = some (.slice ai m.index.length ci) ∧ w'.cell? ⟨n0, 4, none⟩ = some (.slice ad m.data.length cd) := fun w' h => CC w' (hb7.trans (h.mono (by omega)))
  have C2 : ∀ w', Below (n9 + 1) W7 w' → w'.cell? ⟨n9, 0, none⟩ = some (.int .i64 m.seq) ∧ w'.cell? ⟨n9, 1, none⟩ = some (.int .i64 m.every) ∧ w'.cell? ⟨n9, 2, none⟩ = some (.int .i64 m.keep) ∧ w'.cell? ⟨n9, 3, none⟩ = some (.slice bi m.index.length di) ∧ w'.cell? ⟨n9, 4, none⟩ = some (.slice bd m.data.length dd) := by
    intro w' h
    have q : ∀ k, w'.cell? ⟨n9, k, none⟩ = W7.cell? ⟨n9, k, none⟩ := fun k => h.cell (p := ⟨n9, k, none⟩) (by show n9 < n9 + 1; omega)
    exact ⟨(q 0).trans (K7 0), (q 1).trans (K7 1), (q 2).trans (K7 2), (q 3).trans (K7 3), (q 4).trans (K7 4)⟩
  have hm2 : ReadsM W7 (.agg #[.int .i64 m.seq, .int .i64 m.every, .int .i64 m.keep, .slice bi m.index.length di, .slice bd m.data.length dd]) m := ⟨_, _, rfl, hui.below hA7 (by omega), hud.below hA7 (by omega)⟩
  have HW7 := Lib.hid hW7
  clear K7 hW7
  go_wp2_with fail
  rw [HW7.out]
  have e1 := names_le m
  have e2 := of_le m n
  have e3 := months_le m
  refine names8 (W := W7) (nB := n9 + 1) (n0 := n0) (n9 := n9) (ci := ci) (cd := cd) (k := k) (ai := ai) (ad := ad) (m := m) (vi := .slice bi m.index.length di) (vd := .slice bd m.data.length dd) (n := n) rfl rfl rfl rfl (by first | rfl | (rw [← hn9]; rfl)) hk hn (hTW.below hb7 (by omega)) (by omega) (by omega) (by omega) (by omega) (by omega) (Below.refl _ _) (by omega) (hrW.below hb7 (by omega)) hm2 C1 C2 ?_
  intro a w16 hb16 x6 hsz hdf
  go_wp2_with fail
  refine ret_at (fn := Tryz.f3) rfl x6 hdf ⟨rfl, ?_⟩
  rw [hn0]
  exact (hA.trans (hb7.mono (by omega))).trans (hb16.mono (by omega))
end Go.Proofs.YtcjbgchhalilnaaGreatDoor
