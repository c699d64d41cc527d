/- The statements' own example: awake: the walk. -/
import Derived.Test.YtcjbgchhalilnaaGreatDoorFe
namespace Go.Proofs.YtcjbgchhalilnaaGreatDoor
open Go Go.RowKit Go.Lib
set_option linter.unusedVariables false

def sI3 : List UInt8 := [105, 48, 48, 48, 48, 48, 51]
def sD12 : List UInt8 := [100, 48, 48, 48, 48, 49, 50]
def sD5 : List UInt8 := [100, 48, 48, 48, 48, 48, 53]
def m0 : Man := ⟨12, 10, 500, [sI3], [⟨2, sD12⟩, ⟨1, sD5⟩]⟩
theorem nI3 : nameL 105 3 = sI3 := by decide
theorem nD12 : nameL 100 12 = sD12 := by decide
theorem nD5 : nameL 100 5 = sD5 := by decide
theorem fI3 : numF sI3 105 = 3 := by rw [← nI3, numF_name]; decide
theorem fD12 : numF sD12 100 = 12 := by rw [← nD12, numF_name]; decide
theorem fD5 : numF sD5 100 = 5 := by rw [← nD5, numF_name]; decide
theorem m0_ok : CheckP m0 := by
  refine ⟨by decide, by decide, by decide, by decide, by decide, names_nodup.2 (by decide), ?_, ?_⟩
  · intro s hs
    simp only [m0, List.mem_singleton] at hs
    subst hs
    rw [fI3]
    decide
  · intro d hd
    simp only [m0, List.mem_cons, List.not_mem_nil, or_false] at hd
    rcases hd with rfl | rfl
    · simp only; rw [fD12]; decide
    · simp only; rw [fD5]; decide
theorem m0_months : monthsL m0 = [1, 2] := by
  refine SS.ext ordI _ _ (rise_ss ordI _) ?_ fun a => ?_
  · unfold SS
    simp [lts]
  · show a ∈ rise _ [2, 1] ↔ _
    rw [rise_mem ordI]
    simp only [List.mem_cons, List.not_mem_nil, or_false]
    exact or_comm
theorem m0_of : ofL m0 2 = [sD12] := by decide
theorem m0_names : (namesL m0).length = 3 := m0_ok.2.2.2.2.2.1
theorem m0_pack : (packL m0).length ≤ 200000 := by
  have h := bodyL_length m0_ok
  have hl := frameL_length (bodyL m0)
  have hu : (Lib.uvarint (bodyL m0).length).length ≤ 10 := ulen_le (by unfold U64; omega)
  show (frameL 5 (bodyL m0)).length ≤ _
  omega

set_option maxRecDepth 100000 in
set_option maxHeartbeats 4000000 in
theorem awake_any (w : World) (hT : Laid w) : Calls Tryz.prog 8 #[] w fun e w' => TrueEnd w e w' := by
  obtain ⟨n0, hn0⟩ : ∃ n0, w.heap.size = n0 := ⟨_, rfl⟩
  obtain ⟨W, hW⟩ : ∃ W, ((w.alloc (.cells #[.string ⟨#[105, 48, 48, 48, 48, 48, 51]⟩] 9)).alloc (.cells #[.int .i64 2, .string ⟨#[100, 48, 48, 48, 48, 49, 50]⟩, .int .i64 1, .string ⟨#[100, 48, 48, 48, 48, 48, 53]⟩] 54)).alloc (.cells #[.int .i64 12, .int .i64 10, .int .i64 500, .slice (some ⟨n0, 0, none⟩) 1 1, .slice (some ⟨n0 + 1, 0, none⟩) 2 2] 25) = W := ⟨_, rfl⟩
  have AG : W.cell? ⟨n0 + 1 + 1, 0, none⟩ = some (.int .i64 12) ∧ W.cell? ⟨n0 + 1 + 1, 1, none⟩ = some (.int .i64 10) ∧ W.cell? ⟨n0 + 1 + 1, 2, none⟩ = some (.int .i64 500) ∧ W.cell? ⟨n0 + 1 + 1, 3, none⟩ = some (.slice (some ⟨n0, 0, none⟩) 1 1) ∧ W.cell? ⟨n0 + 1 + 1, 4, none⟩ = some (.slice (some ⟨n0 + 1, 0, none⟩) 2 2) := by
    rw [← hW, ← hn0]
    simp [go_sem]
  have hbW : Below n0 w W := by
    rw [← hW]
    exact (((Below.refl _ _).alloc (by omega) _).alloc (by simp; omega) _).alloc (by simp; omega) _
  have hsW : W.heap.size = n0 + 1 + 1 + 1 := by rw [← hW]; simp; omega
  have hRI : Reads W encStr (.slice (some ⟨n0, 0, none⟩) 1 1) [sI3] := by
    refine .inr ⟨n0, 0, 1, rfl, by decide, by simp [maxLen], by omega, fun i hi => ?_⟩
    have : i = 0 := by simpa using hi
    subst this
    rw [← hW, ← hn0]
    simp [go_sem]
    rfl
  have hRD : ReadsV W (.slice (some ⟨n0 + 1, 0, none⟩) 2 2) [⟨2, sD12⟩, ⟨1, sD5⟩] := by
    refine .inr ⟨n0 + 1, 0, 2, rfl, by decide, by simp [maxLen], by omega, fun i hi => ?_⟩
    rw [← hW, ← hn0]
    rcases i with _ | _ | i
    · constructor
      · simp [go_sem]
      · simp [go_sem]; rfl
    · constructor
      · simp [go_sem]
      · simp [go_sem]; rfl
    · simp at hi; omega
  have hRM : ReadsM W (.agg #[.int .i64 12, .int .i64 10, .int .i64 500, .slice (some ⟨n0, 0, none⟩) 1 1, .slice (some ⟨n0 + 1, 0, none⟩) 2 2]) m0 := ⟨_, _, rfl, hRI, hRD⟩
  have HW := Lib.hid hW
  have hTW : Laid W := hT.below hbW (by omega)
  clear hW hRI hRD
  have CC : ∀ w', Below (n0 + 1 + 1 + 1) W w' → w'.cell? ⟨n0 + 1 + 1, 0, none⟩ = some (.int .i64 12) ∧ w'.cell? ⟨n0 + 1 + 1, 1, none⟩ = some (.int .i64 10) ∧ w'.cell? ⟨n0 + 1 + 1, 2, none⟩ = some (.int .i64 500) ∧ w'.cell? ⟨n0 + 1 + 1, 3, none⟩ = some (.slice (some ⟨n0, 0, none⟩) 1 1) ∧ w'.cell? ⟨n0 + 1 + 1, 4, none⟩ = some (.slice (some ⟨n0 + 1, 0, none⟩) 2 2) := by
    intro w' hb
    have q : ∀ k, w'.cell? ⟨n0 + 1 + 1, k, none⟩ = W.cell? ⟨n0 + 1 + 1, k, none⟩ := fun k => hb.cell (p := ⟨n0 + 1 + 1, k, none⟩) (by show n0 + 1 + 1 < _; omega)
    rw [q, q, q, q, q]
    exact AG
  have h1 := Pack_any _ m0 W hTW hRM
  unfold PackEnd at h1
  rw [checkN_ok m0_ok] at h1
  clear AG
  go_enter Tryz.func8, Tryz.ntmps8
  go_wp2_with fail
  rw [HW.out]
  refine h1.mono ?_
  rintro e w1 ⟨vb, rfl, hown, -, hb1⟩
  have hown1 := hown m0_ok
  have hb1' : Below (n0 + 1 + 1 + 1) W w1 := hb1.mono (by omega)
  have h2 := Unpack_any vb (packL m0) w1 (hTW.below hb1 (Nat.le_refl _)) m0_pack (Reads.of_owns hown1)
  unfold UnpackEnd at h2
  rw [unpack_pack m0_ok] at h2
  obtain ⟨ab, cb, rfl⟩ := (Reads.of_owns hown1).slice
  have hs1 := hb1'.size
  clear h1 hown hb1 hown1
  go_wp2_with fail
  refine h2.mono ?_
  rintro e w2 ⟨vm, rfl, hm2, hb2⟩
  obtain ⟨vi, vd, rfl, hri, hrd⟩ := hm2
  obtain ⟨ai, ci, rfl⟩ := hri.slice
  obtain ⟨ad, cd, rfl⟩ := hrd.slice
  have hb2' : Below (n0 + 1 + 1 + 1) W w2 := hb1'.trans (hb2.mono (by omega))
  have hs2 := hb2'.size
  simp only [show m0.seq = (12 : Int) from rfl, show m0.every = (10 : Int) from rfl, show m0.keep = (500 : Int) from rfl, show m0.index.length = 1 from rfl, show m0.data.length = 2 from rfl] at hri hrd ⊢
  obtain ⟨n2, hn2⟩ : ∃ n, w2.heap.size = n := ⟨_, rfl⟩
  have hb3 : Below (n0 + 1 + 1 + 1) W (w2.alloc (.cells #[.int .i64 12, .int .i64 10, .int .i64 500, .slice ai 1 ci, .slice ad 2 cd] 25)) := hb2'.alloc (by omega) _
  obtain ⟨c0, c1, c2, c3, c4⟩ := CC _ hb3
  obtain ⟨W3, hW3⟩ : ∃ W3, w2.alloc (.cells #[.int .i64 12, .int .i64 10, .int .i64 500, .slice ai 1 ci, .slice ad 2 cd] 25) = W3 := ⟨_, rfl⟩
  have hs3 : W3.heap.size = n2 + 1 := by rw [← hW3]; simp [hn2]
  have K0 : W3.cell? ⟨n2, 0, none⟩ = some (.int .i64 12) := by rw [← hW3, ← hn2]; simp [go_sem]
  have K4 : W3.cell? ⟨n2, 4, none⟩ = some (.slice ad 2 cd) := by rw [← hW3, ← hn2]; simp [go_sem]
  have HW3 := Lib.hid hW3
  rw [hW3] at hb3
  have h3 := Months_any _ m0 W3 (by decide) (hRM.below hb3 (by omega))
  clear hW3 h2
  go_wp2_with fail
  rw [HW3.out]
  refine h3.mono ?_
  rintro e w4 ⟨vl, rfl, hrl, hb4⟩
  rw [m0_months] at hrl
  rcases hrl with ⟨h, _⟩ | ⟨bl, ol, cl, rfl, hl1, hl2, hl3, hl4⟩
  · cases h
  have hb4' : Below (n0 + 1 + 1 + 1) W w4 := hb3.trans (hb4.mono (by omega))
  have l0 : w4.cell? ⟨bl, ol, none⟩ = some (.int .i64 1) := hl4 0 (by decide)
  have hl5 : (2 : Int) ≤ cl := by simp at hl1; omega
  clear c0 c1 c2 c3 c4 h3
  have h4 : Calls Tryz.prog 19 #[.int .u8 100, .int .i64 12] w4 fun e w' => e = .returned (.string ⟨#[100, 48, 48, 48, 48, 49, 50]⟩) ∧ Below w4.heap.size w4 w' := by
    have h := Name_any 100 12 w4 (hTW.below hb4' (by omega)) (by decide) (by decide)
    rw [nD12] at h
    exact h
  go_wp2_with fail
  refine h4.mono ?_
  rintro e w5 ⟨rfl, hb5⟩
  have hs4 := hb4.size
  have hs5 := hb5.size
  have hb5' : Below (n0 + 1 + 1 + 1) W w5 := hb4'.trans (hb5.mono (by omega))
  have k0 : w5.cell? ⟨n2, 0, none⟩ = some (.int .i64 12) := (hb5.cell (p := ⟨n2, 0, none⟩) (by show n2 < _; omega)).trans ((hb4.cell (p := ⟨n2, 0, none⟩) (by show n2 < _; omega)).trans K0)
  have k4 : w5.cell? ⟨n2, 4, none⟩ = some (.slice ad 2 cd) := (hb5.cell (p := ⟨n2, 4, none⟩) (by show n2 < _; omega)).trans ((hb4.cell (p := ⟨n2, 4, none⟩) (by show n2 < _; omega)).trans K4)
  have l5 : w5.cell? ⟨bl, ol, none⟩ = some (.int .i64 1) := (hb5.cell (p := ⟨bl, ol, none⟩) hl3).trans l0
  have l5' : w5.cell? ⟨bl, ol + 0, none⟩ = some (.int .i64 1) := l5
  obtain ⟨c0, c1, c2, c3, c4⟩ := CC _ hb5'
  have h5 := Names_any _ m0 w5 (by decide) (by decide) (hRM.below hb5' (by omega))
  clear h4
  go_wp2_with fail
  refine h5.mono ?_
  rintro e w6 ⟨vn, rfl, hrn, hb6⟩
  obtain ⟨an, cn, rfl⟩ := hrn.slice
  rw [m0_names]
  have hb6' : Below (n0 + 1 + 1 + 1) W w6 := hb5'.trans (hb6.mono (by omega))
  clear c0 c1 c2 c3 c4 h5 k0 k4 l5 l5'
  obtain ⟨c0, c1, c2, c3, c4⟩ := CC _ hb6'
  have hs6 := hb6.size
  have h6 := Of_any _ m0 2 w6 (by decide) (hRM.below hb6' (by omega))
  go_wp2_with fail
  refine h6.mono ?_
  rintro e w7 ⟨vo, rfl, hrn2, hb7⟩
  obtain ⟨ao, co, rfl⟩ := (Reads.of_owns hrn2).slice
  rw [m0_of]
  have hb7' : Below (n0 + 1 + 1 + 1) W w7 := hb6'.trans (hb7.mono (by omega))
  clear c0 c1 c2 c3 c4 h6
  obtain ⟨c0, c1, c2, c3, c4⟩ := CC _ hb7'
  have hs7 := hb7.size
  have h7 := Check_any _ m0 w7 (hTW.below hb7' (by omega)) (hRM.below hb7' (by omega))
  rw [checkN_ok m0_ok] at h7
  go_wp2_with fail
  refine h7.mono ?_
  rintro e w8 ⟨rfl, hb8⟩
  go_wp2_with fail
  go_ret
  refine ⟨rfl, ?_⟩
  rw [hn0]
  exact hbW.trans ((hb7'.trans (hb8.mono (by omega))).mono (by omega))
end Go.Proofs.YtcjbgchhalilnaaGreatDoor
