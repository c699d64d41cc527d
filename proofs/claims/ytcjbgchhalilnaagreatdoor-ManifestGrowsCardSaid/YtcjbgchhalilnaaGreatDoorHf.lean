/- ManifestGrows: the walk. -/
import Derived.Test.YtcjbgchhalilnaaGreatDoorHe
import Derived.Test.YtcjbgchhalilnaaGreatDoorHb
import Derived.Test.YtcjbgchhalilnaaGreatDoorFf
import Derived.Test.YtcjbgchhalilnaaGreatDoorFc
namespace Go.Proofs.YtcjbgchhalilnaaGreatDoor
open Go Go.RowKit Go.Lib
set_option linter.unusedVariables false

theorem reads_front {w : World} {g K c1 : Nat} {L : List (List UInt8)} {Z : List UInt8} (h : Reads w encStr (.slice (some ⟨g, 0, none⟩) (K + 1) c1) (L ++ [Z])) (hK : L.length = K) :
    Reads w encStr (.slice (some ⟨g, 0, none⟩) K c1) L ∧ w.cell? ⟨g, K, none⟩ = some (encStr Z) ∧ g < w.heap.size ∧ K + 1 ≤ c1 ∧ c1 ≤ maxLen := by
  subst hK
  rcases h with ⟨h, _⟩ | ⟨b, off, cap, hv, h1, h2, h3, h4⟩
  · simp at h
  · simp only [Value.slice.injEq, Option.some.injEq, Addr.mk.injEq, and_true] at hv
    obtain ⟨⟨rfl, rfl⟩, _, rfl⟩ := hv
    have hl : (L ++ [Z]).length = L.length + 1 := by simp
    rw [hl] at h1
    refine ⟨.inr ⟨g, 0, c1, rfl, by omega, h2, h3, fun i hi => ?_⟩, ?_, h3, h1, h2⟩
    · have := h4 i (by omega)
      rwa [List.getElem_append_left hi] at this
    · have := h4 L.length (by omega)
      rw [List.getElem_append_right (Nat.le_refl _)] at this
      simpa using this

set_option maxRecDepth 100000 in
set_option maxHeartbeats 4000000 in
theorem grows_walk (v : Value) (m : Man) (mo : Int) (w : World) (hT : Laid w) (hr : ReadsM w v m) : Calls Tryz.prog 7 #[v, .int .i64 mo] w fun e w' => TrueEnd w e w' := by
  obtain ⟨i0, hi0, hz0, hz1, hz2⟩ := info_parts2 info_d2
  have hrm := hr
  obtain ⟨vi, vd, rfl, hri, hrd⟩ := hr
  obtain ⟨ai, ci, rfl⟩ := hri.slice
  obtain ⟨ad, cd, rfl⟩ := hrd.slice
  obtain ⟨n0, hn0⟩ : ∃ n0, w.heap.size = n0 := ⟨_, rfl⟩
  obtain ⟨W, hW⟩ : ∃ W, w.alloc (.cells #[.int .i64 m.seq, .int .i64 m.every, .int .i64 m.keep, .slice ai m.index.length ci, .slice ad m.data.length cd] 25) = W := ⟨_, rfl⟩
  have hA : Below n0 w W := by rw [← hW]; exact (Below.refl _ _).alloc (by omega) _
  have hWs : W.heap.size = n0 + 1 := by rw [← hW]; simp [hn0]
  have K : ∀ k : Nat, W.cell? ⟨n0, k, none⟩ = (#[.int .i64 m.seq, .int .i64 m.every, .int .i64 m.keep, .slice ai m.index.length ci, .slice ad m.data.length cd] : Array Value)[k]? := by
    intro k
    rw [← hW, ← hn0]
    exact World.cell?_alloc_new _ _ _ _
  have CC : ∀ w', Below (n0 + 1) W w' → w'.cell? ⟨n0, 0, none⟩ = some (.int .i64 m.seq) ∧ w'.cell? ⟨n0, 1, none⟩ = some (.int .i64 m.every) ∧ w'.cell? ⟨n0, 2, none⟩ = some (.int .i64 m.keep) ∧ w'.cell? ⟨n0, 3, none⟩ = some (.slice ai m.index.length ci) ∧ w'.cell? ⟨n0, 4, none⟩ = some (.slice ad m.data.length cd) := by
    intro w' h
    have q : ∀ k, w'.cell? ⟨n0, k, none⟩ = W.cell? ⟨n0, k, none⟩ := fun k => h.cell (p := ⟨n0, k, none⟩) (by show n0 < n0 + 1; omega)
    exact ⟨(q 0).trans (K 0), (q 1).trans (K 1), (q 2).trans (K 2), (q 3).trans (K 3), (q 4).trans (K 4)⟩
  clear K
  have hTW : Laid W := hT.below hA (by omega)
  have hrW := hrm.below hA (by omega)
  have hriW := hri.below hA (by omega)
  have hrdW := hrd.below hA (by omega)
  have h1 := awake_any W hTW
  go_enter Tryz.func7, Tryz.ntmps7
  go_wp2_with fail
  refine h1.mono ?_
  rintro e w1 ⟨rfl, hb1⟩
  have hb1' : Below (n0 + 1) W w1 := hb1.mono (by omega)
  have hs1 := hb1'.size
  obtain ⟨c0, c1, c2, c3, c4⟩ := CC w1 hb1'
  have h2 := few_any _ m w1 (hrW.below hb1' (by omega))
  clear h1
  go_wp2_with fail
  refine h2.mono ?_
  rintro e w2 ⟨b, rfl, hfew, hb2⟩
  have hb2' : Below (n0 + 1) W w2 := hb1'.trans (hb2.mono (by omega))
  have hs2 := hb2'.size
  clear c0 c1 c2 c3 c4 h2
  by_cases hbt : b = true
  rotate_left
  · rw [show b = false by simpa using hbt]
    go_wp2_with fail
    go_ret
    refine ⟨rfl, ?_⟩
    rw [hn0]
    exact hA.trans (hb2'.mono (by omega))
  subst hbt
  obtain ⟨hl1, hl2⟩ := hfew rfl
  by_cases hm0 : mo < 0
  · go_wp2_with fail
    go_ret
    refine ⟨rfl, ?_⟩
    rw [hn0]
    exact hA.trans (hb2'.mono (by omega))
  by_cases hm1 : 2147483647 < mo
  · go_wp2_with fail
    go_ret
    refine ⟨rfl, ?_⟩
    rw [hn0]
    exact hA.trans (hb2'.mono (by omega))
  obtain ⟨c0, c1, c2, c3, c4⟩ := CC w2 hb2'
  have h3 := Check_any _ m w2 (hTW.below hb2' (by omega)) (hrW.below hb2' (by omega))
  by_cases hcp : CheckP m
  rotate_left
  · rw [checkN_no hcp] at h3
    go_wp2_with fail
    refine h3.mono ?_
    rintro e w3 ⟨rfl, hb3⟩
    go_wp2_with fail
    go_ret
    refine ⟨rfl, ?_⟩
    rw [hn0]
    exact (hA.trans (hb2'.mono (by omega))).trans (hb3.mono (by omega))
  rw [checkN_ok hcp] at h3
  have hsq := hcp.1
  have hsq1 := hsq.1
  have hsq2 := hsq.2
  have hl1' : (m.index.length : Int) ≤ 100 := by have := hcp.2.2.2.1; omega
  have hl2' : (m.data.length : Int) ≤ 100 := by have := hcp.2.2.2.2.1; omega
  go_wp2_with fail
  refine h3.mono ?_
  rintro e w3 ⟨rfl, hb3⟩
  have hb3' : Below (n0 + 1) W w3 := hb2'.trans (hb3.mono (by omega))
  have hs3 := hb3'.size
  clear c0 c1 c2 c3 c4 h3
  obtain ⟨c0, c1, c2, c3, c4⟩ := CC w3 hb3'
  have hn3 : n0 ≠ w3.heap.size := by omega
  have c0' := CC (w3.alloc (.cells #[.int .i64 m.seq, .int .i64 m.every, .int .i64 m.keep, .slice ai m.index.length ci, .slice ad m.data.length cd] 25)) (hb3'.alloc (by omega) _)
  obtain ⟨d0, d1, d2, d3, d4⟩ := c0'
  obtain ⟨W7, hW7⟩ : ∃ W7, w3.alloc (.cells #[.int .i64 (m.seq + 1), .int .i64 m.every, .int .i64 m.keep, .slice ai m.index.length ci, .slice ad m.data.length cd] 25) = W7 := ⟨_, rfl⟩
  have hb7 : Below (n0 + 1) W W7 := by rw [← hW7]; exact hb3'.alloc (by omega) _
  have hs7 : W7.heap.size = w3.heap.size + 1 := by rw [← hW7]; simp
  have M7 : MCell w3.heap.size (m.seq + 1) m.every m.keep (.slice ai m.index.length ci) (.slice ad m.data.length cd) W7 := by
    rw [← hW7]
    exact ⟨World.cell?_alloc_new _ _ _ _, World.cell?_alloc_new _ _ _ _, World.cell?_alloc_new _ _ _ _, World.cell?_alloc_new _ _ _ _, World.cell?_alloc_new _ _ _ _, (fun k => World.frozen?_alloc_new _ _ _ _), by simp⟩
  have HW7 := Lib.hid hW7
  have h4 := Name_any 100 (m.seq + 1) W7 (hTW.below hb7 (by omega)) (by decide) (by omega)
  clear hW7
  go_wp2_with fail
  rw [HW7.out]
  refine h4.mono ?_
  rintro e w8 ⟨rfl, hb8⟩
  have hb8' : Below (n0 + 1) W w8 := hb7.trans (hb8.mono (by omega))
  have hs8 := hb8.size
  have M8 := M7.below hb8 (by omega)
  clear c0 c1 c2 c3 c4 d0 d1 d2 d3 d4 h4 M7 HW7
  obtain ⟨n7, hn7⟩ : ∃ n7, w3.heap.size = n7 := ⟨_, rfl⟩
  rw [hn7] at M8 hs7
  obtain ⟨n8, hn8⟩ : ∃ n8, w8.heap.size = n8 := ⟨_, rfl⟩
  have hbE : Below (n0 + 1) W (w8.alloc (.cells #[] 54)) := hb8'.alloc (by omega) _
  obtain ⟨c0, c1, c2, c3, c4⟩ := CC _ hbE
  have M8E := M8.below ((Below.refl n8 w8).alloc (by omega) (.cells #[] 54)) (by omega)
  have hsE : (w8.alloc (.cells #[] 54)).heap.size = n8 + 1 := by simp; omega
  have ow0 : (w8.alloc (.cells #[] 54)).ownsRow n8 54 2 (.slice (some ⟨w8.heap.size, 0, none⟩) 0 0) 0 (flatV []) := World.ownsRow_lit (base := n8) (e := 54) (size := 2) w8 #[] 0 (by omega) (by simp [maxLen]) rfl
  rw [hn8] at ow0
  have hrdE := hrdW.below hbE (by omega)
  have HN := Lib.hid (show nameL 100 (m.seq + 1) = nameL 100 (m.seq + 1) from rfl)
  obtain ⟨W8, hW8⟩ : ∃ W8, w8.alloc (.cells #[] 54) = W8 := ⟨_, rfl⟩
  rw [hW8] at hbE c0 c1 c2 c3 c4 M8E hsE ow0 hrdE
  go_wp2_with (first | (at_builtin; refine wpList_extendV rfl (.tmp 44) (.tmp 46) 23 rfl n8 54 i0 _ 24 Tryz.underlying23 hi0 hz0 hz1 hz2 rfl [] m.data _ _ rfl ow0 rfl hrdE (by simp only [maxLen, List.length_nil]; omega) (by simp only [List.length_nil]; omega) (by omega) ?_; intro va wa owA hbA) | (at_builtin; refine wpList_pushV rfl (.tmp 47) (.tmp 51) 23 rfl n8 54 i0 _ 24 Tryz.underlying23 hi0 hz0 hz1 hz2 rfl m.data ⟨mo, nameL 100 (m.seq + 1)⟩ _ _ rfl rfl owA (congrArg (fun n => Value.slice (some ⟨n, 0, none⟩) 1 1) (by simp)) (by simp only [maxLen]; omega) (by omega) (by have := hbA.size; omega) ?_; intro vb wb owB hbB; obtain ⟨k0, k1, k2, k3, k4, kz, klt⟩ := (M8E.below hbA (by omega)).below hbB (by omega); have kz4 := kz 4; obtain ⟨ab, cb, rfl⟩ := (ReadsV.of_owns owB).slice))
  have hlen : (m.data ++ [(⟨mo, nameL 100 (m.seq + 1)⟩ : D2)]).length = m.data.length + 1 := by simp
  rw [hlen] at owB
  have hsA := hbA.size
  have hsB := hbB.size
  have hbwb : Below (n0 + 1) W wb := hbE.trans ((hbA.trans hbB).mono (by omega))
  have MX := MCell.set4 ⟨k0, k1, k2, k3, k4, kz, klt⟩ (.slice ab (m.data.length + 1) cb)
  have hbX := hbwb.setCell (p := ⟨n7, 4, none⟩) (by show n0 + 1 ≤ n7; omega) (.slice ab (m.data.length + 1) cb)
  have owX := ownsRow_setCell_below owB (a := ⟨n7, 4, none⟩) (by show n7 < n8; omega) (.slice ab (m.data.length + 1) cb)
  have hsX : (wb.setCell ⟨n7, 4, none⟩ (.slice ab (m.data.length + 1) cb)).heap.size = wb.heap.size := by simp
  generalize wb.setCell ⟨n7, 4, none⟩ (.slice ab (m.data.length + 1) cb) = WX at MX hbX owX hsX ⊢
  have owX' : WX.ownsRow n8 54 2 (.slice ab (m.data ++ [(⟨mo, nameL 100 (m.seq + 1)⟩ : D2)]).length cb) (m.data ++ [(⟨mo, nameL 100 (m.seq + 1)⟩ : D2)]).length (flatV (m.data ++ [⟨mo, nameL 100 (m.seq + 1)⟩])) := by rw [hlen]; exact owX
  have hm2 : ReadsM WX (.agg #[.int .i64 (m.seq + 1), .int .i64 m.every, .int .i64 m.keep, .slice ai m.index.length ci, .slice ab (m.data.length + 1) cb]) (grown m mo) := by
    refine ⟨_, _, rfl, hriW.below hbX (by omega), ?_⟩
    have := ReadsV.of_owns owX'
    rw [hlen] at this
    exact this
  obtain ⟨NB, hNB⟩ : ∃ NB, WX.heap.size = NB := ⟨_, rfl⟩
  have C1 : ∀ w', Below NB WX w' → w'.cell? ⟨n0, 0, none⟩ = some (.int .i64 m.seq) ∧ w'.cell? ⟨n0, 1, none⟩ = some (.int .i64 m.every) ∧ w'.cell? ⟨n0, 2, none⟩ = some (.int .i64 m.keep) ∧ w'.cell? ⟨n0, 3, none⟩ = some (.slice ai m.index.length ci) ∧ w'.cell? ⟨n0, 4, none⟩ = some (.slice ad m.data.length cd) := fun w' h => CC w' (hbX.trans (h.mono (by omega)))
  have C2 : ∀ w', Below NB WX w' → w'.cell? ⟨n7, 0, none⟩ = some (.int .i64 (m.seq + 1)) ∧ w'.cell? ⟨n7, 1, none⟩ = some (.int .i64 m.every) ∧ w'.cell? ⟨n7, 2, none⟩ = some (.int .i64 m.keep) ∧ w'.cell? ⟨n7, 3, none⟩ = some (.slice ai m.index.length ci) ∧ w'.cell? ⟨n7, 4, none⟩ = some (.slice ab (m.data.length + 1) cb) := fun w' h => by
    have M := MX.below h (by omega)
    exact ⟨M.c0, M.c1, M.c2, M.c3, M.c4⟩
  have hTX : Laid WX := hTW.below hbX (by omega)
  have hrX := hrW.below hbX (by omega)
  have h5 := Check_any _ (grown m mo) WX hTX hm2
  clear c0 c1 c2 c3 c4 k0 k1 k2 k3 k4 kz kz4 klt ow0 owA owB owX owX' hrdE M8E M8
  have hgi : (grown m mo).index.length = m.index.length := rfl
  have hgd : (grown m mo).data.length = m.data.length + 1 := by simp [grown]
  by_cases hfail : m.seq = 999999 ∨ m.data.length = 100
  · rw [checkN_no (grown_no hfail)] at h5
    refine h5.mono ?_
    rintro e w11 ⟨rfl, hb11⟩
    obtain ⟨c0, c1, c2, c3, c4⟩ := C1 w11 (hb11.mono (by omega))
    rcases hfail with hf | hf
    · go_wp2_with fail
      go_ret
      refine ⟨rfl, ?_⟩
      rw [hn0]
      exact (hA.trans (hbX.mono (by omega))).trans (hb11.mono (by omega))
    · by_cases hf2 : m.seq = 999999
      · go_wp2_with fail
        go_ret
        refine ⟨rfl, ?_⟩
        rw [hn0]
        exact (hA.trans (hbX.mono (by omega))).trans (hb11.mono (by omega))
      · go_wp2_with fail
        go_ret
        refine ⟨rfl, ?_⟩
        rw [hn0]
        exact (hA.trans (hbX.mono (by omega))).trans (hb11.mono (by omega))
  · have hf1 : m.seq ≠ 999999 := fun e => hfail (.inl e)
    have hf2 : m.data.length ≠ 100 := fun e => hfail (.inr e)
    have hok := grown_ok (mo := mo) hcp ⟨by omega, by omega⟩ hf1 hf2
    rw [checkN_ok hok] at h5
    refine h5.mono ?_
    rintro e w11 ⟨rfl, hb11⟩
    have hx11 : Below NB WX w11 := hb11.mono (by omega)
    have hs11 := hx11.size
    obtain ⟨c0, c1, c2, c3, c4⟩ := C1 w11 hx11
    obtain ⟨d0, d1, d2, d3, d4⟩ := C2 w11 hx11
    have hf1' : (m.seq == 999999) = false := by simpa using hf1
    have hf2' : ((m.data.length : Int) == 100) = false := by simp; omega
    have h6 := Of_any _ (grown m mo) mo w11 (by omega) (hm2.below hx11 (by omega))
    rw [grown_of] at h6
    clear h5
    go_wp2_with fail
    refine h6.mono ?_
    rintro e w12 ⟨vl, rfl, owl, hb12⟩
    have hx12 : Below NB WX w12 := hx11.trans (hb12.mono (by omega))
    have hs12 := hx12.size
    have hLle := of_le m mo
    have HL2 := Lib.hid (grown_names (mo := mo) hcp hf1)
    have HL1 := Lib.hid hcp.2.2.2.2.2.1
    have HPK := Lib.hid (grown_pack hcp hok)
    generalize hLL : ofL m mo = L at owl hLle
    obtain ⟨K, hK⟩ : ∃ K, L.length = K := ⟨_, rfl⟩
    have hlenL : (L ++ [nameL 100 (m.seq + 1)]).length = K + 1 := by simp [hK]
    rw [hlenL] at owl
    obtain ⟨g, e1, rfl, _, _⟩ := owns_some owl (by omega)
    have hrl := Reads.of_owns (xs := L ++ [nameL 100 (m.seq + 1)]) (by rw [hlenL]; exact owl)
    clear owl c0 c1 c2 c3 c4 d0 d1 d2 d3 d4 h6
    obtain ⟨c0, c1, c2, c3, c4⟩ := C1 w12 hx12
    have h7 := Of_any _ m mo w12 (by omega) (hrX.below hx12 (by omega))
    rw [hLL] at h7
    clear hLL
    go_wp2_with fail
    refine h7.mono ?_
    rintro e w13 ⟨vn, rfl, own, hb13⟩
    have hx13 : Below NB WX w13 := hx12.trans (hb13.mono (by omega))
    have hs13 := hb13.size
    have hrn := Reads.of_owns own
    rw [hK] at own
    obtain ⟨an, e2, rfl⟩ : ∃ an e2, vn = .slice an K e2 := by
      obtain ⟨an, e2, h⟩ := hrn.slice
      exact ⟨an, e2, by rw [h, hK]⟩
    clear own c0 c1 c2 c3 c4 h7
    obtain ⟨c0, c1, c2, c3, c4⟩ := C1 w13 hx13
    have h8 := Pack_any _ m w13 (hTX.below hx13 (by omega)) (hrX.below hx13 (by omega))
    unfold PackEnd at h8
    rw [checkN_ok hcp] at h8
    go_wp2_with fail
    refine h8.mono ?_
    rintro e w14 ⟨vp, rfl, hop, -, hb14⟩
    have hrp := Reads.of_owns (hop hcp)
    have hx14 : Below NB WX w14 := hx13.trans (hb14.mono (by have := hx13.size; omega))
    have hs14 := hb14.size
    clear hop c0 c1 c2 c3 c4 h8
    obtain ⟨d0, d1, d2, d3, d4⟩ := C2 w14 hx14
    have h9 := Pack_any _ (grown m mo) w14 (hTX.below hx14 (by omega)) (hm2.below hx14 (by omega))
    unfold PackEnd at h9
    rw [checkN_ok hok] at h9
    go_wp2_with fail
    refine h9.mono ?_
    rintro e w15 ⟨vq, rfl, hoq, -, hb15⟩
    have hrq := Reads.of_owns (hoq hok)
    have hx15 : Below NB WX w15 := hx14.trans (hb15.mono (by have := hx14.size; omega))
    have hs15 := hb15.size
    have hd15 : Below w12.heap.size w12 w15 := hb13.trans ((hb14.mono hs13).trans (hb15.mono (by omega)))
    have hd15' : Below w13.heap.size w13 w15 := hb14.trans (hb15.mono hs14)
    have hrl15 := hrl.below hd15 (Nat.le_refl _)
    obtain ⟨f1, f2, f3, f4, f5⟩ := reads_front hrl15 hK
    have hrn15 := hrn.below hd15' (Nat.le_refl _)
    clear hoq d0 d1 d2 d3 d4 h9 hlenL
    go_wp2_with fail
    refine grows18 (W := WX) (nB := NB) (n0 := n0) (n7 := n7) (ci := ci) (cd := cd) (ce := cb) (me := m.data.length + 1) (g := g) (c1 := e1) (c2 := e2) (K := K) (Q := m.index.length + m.data.length) (ai := ai) (ad := ad) (ae := ab) (an := an) (m := m) (M2 := grown m mo) (vb := vp) (vc := vq) (X := packL m) (Y := packL (grown m mo)) (Z := nameL 100 (m.seq + 1)) (L := L) rfl rfl rfl rfl rfl rfl rfl rfl rfl rfl rfl (hrp.below hb15 (Nat.le_refl _)) hrq HPK.out (by omega) (by omega) f4 f5 f3 f2 f1 hrn15 (by omega) (by omega) (by omega) (by omega) (by omega) HL1.out (by rw [HL2.out]; omega) hx15 (by have := hx15.size; omega) (hrX.below hx15 (by omega)) (hm2.below hx15 (by omega)) C1 C2 ?_
    intro a w16 hb16 x4 hsz hdf
    go_wp2_with fail
    refine ret_at (fn := Tryz.f7) rfl x4 hdf ⟨rfl, ?_⟩
    rw [hn0]
    exact ((hA.trans (hbX.mono (by omega))).trans (hx15.mono (by omega))).trans (hb16.mono (by have := hx15.size; omega))
end Go.Proofs.YtcjbgchhalilnaaGreatDoor
