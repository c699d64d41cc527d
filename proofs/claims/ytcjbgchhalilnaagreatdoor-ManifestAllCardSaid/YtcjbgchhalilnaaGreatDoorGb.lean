/- ManifestAll: the walk. -/
import Derived.Test.YtcjbgchhalilnaaGreatDoorGa
import Derived.Test.YtcjbgchhalilnaaGreatDoorFf
import Derived.Test.YtcjbgchhalilnaaGreatDoorFb
import Derived.Test.YtcjbgchhalilnaaGreatDoorGc
import Derived.WalkLawsBesides
namespace Go.Proofs.YtcjbgchhalilnaaGreatDoor
open Go Go.RowKit Go.Lib
set_option linter.unusedVariables false

def AllA (m : Man) (n0 : Nat) (W : World) (x i : Value) (wr : World) : Prop :=
  ∃ j : Nat, j ≤ (monthsL m).length ∧ i = .int .i64 (j : Int) ∧ x = .int .i64 ((m.index.length + sumTo m j : Nat) : Int) ∧ Below (n0 + 1) W wr
def AllB (l : List (List UInt8)) (n0 : Nat) (W : World) (i : Value) (wr : World) : Prop :=
  ∃ j : Nat, 1 ≤ j ∧ (j ≤ l.length ∨ j = 1) ∧ i = .int .i64 (j : Int) ∧ Below (n0 + 1) W wr

set_option maxRecDepth 100000 in
set_option maxHeartbeats 4000000 in
theorem all_walk (v : Value) (m : Man) (w : World) (hT : Laid w) (hr : ReadsM w v m) : Calls Tryz.prog 5 #[v] w fun e w' => TrueEnd w e w' := by
  have hrm := hr
  obtain ⟨vi, vd, rfl, hri, hrd⟩ := hr
  obtain ⟨ai, ci, rfl⟩ := hri.slice
  obtain ⟨ad, cd, rfl⟩ := hrd.slice
  obtain ⟨n0, hn0⟩ : ∃ n0, w.heap.size = n0 := ⟨_, rfl⟩
  obtain ⟨W, hW⟩ : ∃ W, w.alloc (.cells #[.int .i64 m.seq, .int .i64 m.every, .int .i64 m.keep, .slice ai m.index.length ci, .slice ad m.data.length cd] 25) = W := ⟨_, rfl⟩
  have hA : Below n0 w W := by rw [← hW]; exact (Below.refl _ _).alloc (by omega) _
  have hWs : W.heap.size = n0 + 1 := by rw [← hW]; simp [hn0]
  have K : ∀ k : Nat, W.cell? ⟨n0, k, none⟩ = (#[.int .i64 m.seq, .int .i64 m.every, .int .i64 m.keep, .slice ai m.index.length ci, .slice ad m.data.length cd] : Array Value)[k]? := by
    intro k
    rw [← hW, ← hn0]
    exact World.cell?_alloc_new _ _ _ _
  have CC : ∀ w', Below (n0 + 1) W w' → w'.cell? ⟨n0, 0, none⟩ = some (.int .i64 m.seq) ∧ w'.cell? ⟨n0, 1, none⟩ = some (.int .i64 m.every) ∧ w'.cell? ⟨n0, 2, none⟩ = some (.int .i64 m.keep) ∧ w'.cell? ⟨n0, 3, none⟩ = some (.slice ai m.index.length ci) ∧ w'.cell? ⟨n0, 4, none⟩ = some (.slice ad m.data.length cd) := by
    intro w' h
    have q : ∀ k, w'.cell? ⟨n0, k, none⟩ = W.cell? ⟨n0, k, none⟩ := fun k => h.cell (p := ⟨n0, k, none⟩) (by show n0 < n0 + 1; omega)
    exact ⟨(q 0).trans (K 0), (q 1).trans (K 1), (q 2).trans (K 2), (q 3).trans (K 3), (q 4).trans (K 4)⟩
  clear K
  have hTW : Laid W := hT.below hA (by omega)
  have hrW := hrm.below hA (by omega)
  have h1 := awake_any W hTW
  go_enter Tryz.func5, Tryz.ntmps5
  go_wp2_with fail
  refine h1.mono ?_
  rintro e w1 ⟨rfl, hb1⟩
  have hb1' : Below (n0 + 1) W w1 := hb1.mono (by omega)
  have hs1 := hb1'.size
  obtain ⟨c0, c1, c2, c3, c4⟩ := CC w1 hb1'
  have h2 := Check_any _ m w1 (hTW.below hb1' (by omega)) (hrW.below hb1' (by omega))
  clear h1
  by_cases hcp : CheckP m
  · rw [checkN_ok hcp] at h2
    have hl1 : (m.index.length : Int) ≤ 100 := by have := hcp.2.2.2.1; omega
    have hl2 : (m.data.length : Int) ≤ 100 := by have := hcp.2.2.2.2.1; omega
    have HN := Lib.hid hcp.2.2.2.2.2.1
    go_wp2_with fail
    refine h2.mono ?_
    rintro e w2 ⟨rfl, hb2⟩
    have hb2' : Below (n0 + 1) W w2 := hb1'.trans (hb2.mono (by omega))
    have hs2 := hb2'.size
    clear c0 c1 c2 c3 c4 h2
    obtain ⟨c0, c1, c2, c3, c4⟩ := CC w2 hb2'
    have h3 := Months_any _ m w2 (by omega) (hrW.below hb2' (by omega))
    go_wp2_with fail
    refine h3.mono ?_
    rintro e w3 ⟨vl, rfl, hrl, hb3⟩
    have hb3' : Below (n0 + 1) W w3 := hb2'.trans (hb3.mono (by omega))
    have hs3 := hb3'.size
    clear c0 c1 c2 c3 c4 h3
    obtain ⟨c0, c1, c2, c3, c4⟩ := CC w3 hb3'
    obtain ⟨al, cl, rfl⟩ := hrl.slice
    have hml := months_le m
    have hml' : ((monthsL m).length : Int) ≤ 100 := by omega
    go_wp2_with fail
    go_loopw [5, 6, 7] (fun x i _ wr => AllA m n0 W x i wr ∧ Below w3.heap.size w3 wr) (fun _ i _ _ => (monthsL m).length - (intOf i).toNat)
    case atStart => exact ⟨⟨0, Nat.zero_le _, rfl, by rw [sumTo_zero]; rfl, hb3'⟩, Below.refl _ _⟩
    case round =>
      obtain ⟨⟨j, hj, rfl, rfl, hb⟩, hbw⟩ := hrel
      clear c0 c1 c2 c3 c4
      by_cases hlt : j < (monthsL m).length
      · have hrw := hrl.below hbw (by omega)
        rcases hrw with ⟨h, _⟩ | ⟨b, off, cap, hv, g1, g2, g3, g4⟩
        · rw [h] at hlt; simp at hlt
        simp only [Value.slice.injEq, true_and] at hv
        obtain ⟨rfl, rfl⟩ := hv
        have hc := g4 j hlt
        have HS := Lib.hid (sumTo_succ m hlt)
        have hle1 := sumTo_le m j hj
        have hle2 := sumTo_le m (j + 1) hlt
        have hpos := of_some m hlt
        have hole := of_le m (monthsL m)[j]
        have HUP := Lib.hid (fun h0 : 0 < j => months_up m h0 hlt)
        have hsum : m.index.length + sumTo m j + (ofL m (monthsL m)[j]).length ≤ 1000 := by have := HS.out; omega
        have hc' : 0 < j → wr.cell? ⟨b, off + (j - 1), none⟩ = some (.int .i64 (monthsL m)[j - 1]) := fun h0 => g4 (j - 1) (by omega)
        clear g4
        have hbs : n0 + 1 ≤ wr.heap.size := by have := hb.size; omega
        go_wp2_with fail
        refine all11 (W := W) (n0 := n0) (j := j) (b := b) (off := off) (cl := cl) (L := (monthsL m).length) rfl rfl rfl rfl hlt (by omega) (by omega) hb hbs (hrW.below hb (by omega)) g3 hc CC ?_
        intro a w8 hb8 hr8 hold hsz hdf
        obtain ⟨y, hy⟩ : ∃ y, a.tmps.getD 7 undef = y := ⟨_, rfl⟩
        obtain ⟨gg, hgg⟩ : ∃ gg : Nat → Value, ∀ t, a.tmps.getD t undef = gg t := ⟨_, fun _ => rfl⟩
        have hfr := frame_put 7 27 33 y gg hsz hdf (by decide) (of_decide_eq_true (by kernel_rfl)) (by decide) hy (fun t h5 ht => hold t (dst_outK (k := 7) (lo := 27) (hi := 33) (by kernel_rfl) h5 ht)) (fun t _ _ => hgg t)
        rw [hy] at hr8
        clear hgg hold hsz hdf hy
        subst hfr
        simp only [List.set_cons_succ, List.set_cons_zero, List.take_succ_cons, List.take_zero, List.drop_succ_cons, List.drop_zero, List.range', List.map_cons, List.map_nil, List.cons_append, List.nil_append, Nat.reduceAdd, Nat.reduceSub]
        obtain ⟨ay, cy, rfl⟩ := hr8.slice
        generalize (monthsL m)[j] = mo at *
        have hc8 : w8.cell? ⟨b, off + j, none⟩ = some (.int .i64 mo) := (hb8.cell (p := ⟨b, off + j, none⟩) g3).trans hc
        have g38 : b < w8.heap.size := by have := hb8.size; omega
        by_cases h0 : 0 < j
        · have hc8' : w8.cell? ⟨b, off + (j - 1), none⟩ = some (.int .i64 (monthsL m)[j - 1]) := (hb8.cell (p := ⟨b, off + (j - 1), none⟩) g3).trans (hc' h0)
          have hup := HUP.out h0
          generalize (monthsL m)[j - 1] = mp at *
          clear hc hc' HUP hrl
          go_wp2_with fail
          refine all12_pos (b := b) (off := off) (cl := cl) (j := j) (L := (monthsL m).length) (K := (ofL m mo).length) (cy := cy) (ay := ay) (mo := mo) (mp := mp) rfl rfl rfl rfl hlt (by omega) hpos g38 h0 hc8 hc8' hup ?_
          intro a w9 hb9 x hold hsz hdf
          obtain ⟨gg, hgg⟩ : ∃ gg : Nat → Value, ∀ t, a.tmps.getD t undef = gg t := ⟨_, fun _ => rfl⟩
          have hfr := frame_eq 33 52 gg hsz hdf (by decide) (of_decide_eq_true (by kernel_rfl)) (fun t ht => hold t (dst_out (lo := 33) (hi := 52) (by kernel_rfl) ht)) (fun t _ _ => hgg t)
          rw [hgg] at x
          clear hgg hold hsz hdf
          subst hfr
          simp only [List.take_succ_cons, List.take_zero, List.drop_succ_cons, List.drop_zero, List.range', List.map_cons, List.map_nil, List.cons_append, List.nil_append, Nat.reduceAdd, Nat.reduceSub]
          generalize gg 51 = y at x
          subst x
          go_wp2_with fail
          go_roundw
          case rel => exact ⟨⟨j + 1, hlt, by go_num, by rw [HS.out]; go_num, hb.trans ((hb8.trans (hb9.mono hb8.size)).mono hbs)⟩, hbw.trans ((hb8.trans (hb9.mono hb8.size)).mono hbw.size)⟩
          case measure => simp [intOf]; omega
        · clear hc hc' HUP hrl
          go_wp2_with fail
          refine all12_zero (mo := 0) (mp := 0) (b := b) (off := off) (cl := cl) (j := j) (L := (monthsL m).length) (K := (ofL m mo).length) (cy := cy) (ay := ay) rfl rfl rfl rfl hlt (by omega) hpos g38 h0 ?_
          intro a w9 hb9 x hold hsz hdf
          obtain ⟨gg, hgg⟩ : ∃ gg : Nat → Value, ∀ t, a.tmps.getD t undef = gg t := ⟨_, fun _ => rfl⟩
          have hfr := frame_eq 33 52 gg hsz hdf (by decide) (of_decide_eq_true (by kernel_rfl)) (fun t ht => hold t (dst_out (lo := 33) (hi := 52) (by kernel_rfl) ht)) (fun t _ _ => hgg t)
          rw [hgg] at x
          clear hgg hold hsz hdf
          subst hfr
          simp only [List.take_succ_cons, List.take_zero, List.drop_succ_cons, List.drop_zero, List.range', List.map_cons, List.map_nil, List.cons_append, List.nil_append, Nat.reduceAdd, Nat.reduceSub]
          generalize gg 51 = y at x
          subst x
          go_wp2_with fail
          go_roundw
          case rel => exact ⟨⟨j + 1, hlt, by go_num, by rw [HS.out]; go_num, hb.trans ((hb8.trans (hb9.mono hb8.size)).mono hbs)⟩, hbw.trans ((hb8.trans (hb9.mono hb8.size)).mono hbw.size)⟩
          case measure => simp [intOf]; omega
      · have hjl : j = (monthsL m).length := by omega
        subst hjl
        rw [sumTo_all] at *
        obtain ⟨c0, c1, c2, c3, c4⟩ := CC wr hb
        have hbs : n0 + 1 ≤ wr.heap.size := by have := hb.size; omega
        have h4 := Names_any _ m wr (by omega) (by omega) (hrW.below hb (by omega))
        go_wp2_with fail
        refine h4.mono ?_
        rintro e w4 ⟨vn, rfl, hrn, hb4⟩
        have hb4' : Below (n0 + 1) W w4 := hb.trans (hb4.mono hbs)
        have hs4 := hb4'.size
        obtain ⟨an, cn, rfl⟩ := hrn.slice
        have hnl := names_le m
        have hnl' : ((namesL m).length : Int) ≤ 200 := by omega
        clear c0 c1 c2 c3 c4 h4 hrl
        go_wp2_with fail
        go_loopw [9] (fun i wr => AllB (namesL m) n0 W i wr ∧ Below w4.heap.size w4 wr) (fun i _ => (namesL m).length - (intOf i).toNat)
        case atStart => exact ⟨⟨1, by omega, .inr rfl, rfl, hb4'⟩, Below.refl _ _⟩
        case round =>
          obtain ⟨⟨k, hk1, hk2, rfl, hbk⟩, hbk2⟩ := hrel
          by_cases hlt : k < (namesL m).length
          · have hrw := hrn.below hbk2 (by omega)
            rcases hrw with ⟨h, _⟩ | ⟨b, off, cap, hv, g1, g2, g3, g4⟩
            · rw [h] at hlt; simp at hlt
            simp only [Value.slice.injEq, true_and] at hv
            obtain ⟨rfl, rfl⟩ := hv
            have hX := g4 (k - 1) (by omega)
            have hY := g4 k hlt
            have hup := names_up m hk1 hlt
            have hbks := hbk.size
            clear g4
            go_wp2_with fail
            refine all19 (b := b) (off := off) (cl := cn) (j := k) (L := (namesL m).length) rfl rfl rfl hlt (by omega) (by omega) g3 hX hY hup ?_
            intro a w9 hb9 x hold hsz hdf
            obtain ⟨gg, hgg⟩ : ∃ gg : Nat → Value, ∀ t, a.tmps.getD t undef = gg t := ⟨_, fun _ => rfl⟩
            have hfr := frame_eq 64 74 gg hsz hdf (by decide) (of_decide_eq_true (by kernel_rfl)) (fun t ht => hold t (dst_out (lo := 64) (hi := 74) (by kernel_rfl) ht)) (fun t _ _ => hgg t)
            rw [hgg] at x
            clear hgg hold hsz hdf
            subst hfr
            simp only [List.take_succ_cons, List.take_zero, List.drop_succ_cons, List.drop_zero, List.range', List.map_cons, List.map_nil, List.cons_append, List.nil_append, Nat.reduceAdd, Nat.reduceSub]
            generalize gg 73 = y at x
            subst x
            go_wp2_with fail
            go_roundw
            case rel => exact ⟨⟨k + 1, by omega, .inl hlt, by go_num, hbk.trans (hb9.mono (by omega))⟩, hbk2.trans (hb9.mono hbk2.size)⟩
            case measure => simp [intOf]; omega
          · obtain ⟨c0, c1, c2, c3, c4⟩ := CC _ hbk
            have hn := HN.out
            go_wp2_with fail
            go_ret
            refine ⟨rfl, ?_⟩
            rw [hn0]
            exact hA.trans (hbk.mono (by omega))
  · rw [checkN_no hcp] at h2
    go_wp2_with fail
    refine h2.mono ?_
    rintro e w2 ⟨rfl, hb2⟩
    go_wp2_with fail
    go_ret
    refine ⟨rfl, ?_⟩
    rw [hn0]
    exact (hA.trans (hb1'.mono (by omega))).trans (hb2.mono (by omega))
end Go.Proofs.YtcjbgchhalilnaaGreatDoor
