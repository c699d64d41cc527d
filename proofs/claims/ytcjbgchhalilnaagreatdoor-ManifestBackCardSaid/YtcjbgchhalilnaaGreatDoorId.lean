/- The reference's Same on manifests: the walk. -/
import Derived.Test.YtcjbgchhalilnaaGreatDoorIc
namespace Go.Proofs.YtcjbgchhalilnaaGreatDoor
open Go Go.RowKit Go.Lib
set_option linter.unusedVariables false

def SameEnd (a b : Man) (w : World) (e : Ending) (w' : World) : Prop := ∃ q, e = .returned (.bool q) ∧ (q = true ↔ a = b) ∧ Below w.heap.size w w'

set_option maxRecDepth 100000 in
set_option maxHeartbeats 4000000 in
theorem same_any (v1 v2 : Value) (a b : Man) (w : World) (h1 : a.index.length ≤ 1000000) (h2 : a.data.length ≤ 1000000) (hr1 : ReadsM w v1 a) (hr2 : ReadsM w v2 b) :
    Calls Tryz.prog 24 #[v1, v2] w (SameEnd a b w) := by
  obtain ⟨s1, e1, k1, x1, d1⟩ := a
  obtain ⟨s2, e2, k2, x2, d2⟩ := b
  obtain ⟨vi1, vd1, rfl, hri1, hrd1⟩ := hr1
  obtain ⟨vi2, vd2, rfl, hri2, hrd2⟩ := hr2
  obtain ⟨ai1, ci1, rfl⟩ := hri1.slice
  obtain ⟨ad1, cd1, rfl⟩ := hrd1.slice
  obtain ⟨ai2, ci2, rfl⟩ := hri2.slice
  obtain ⟨ad2, cd2, rfl⟩ := hrd2.slice
  simp only at h1 h2 hri1 hrd1 hri2 hrd2 ⊢
  obtain ⟨n1, hn1⟩ : ∃ n1, w.heap.size = n1 := ⟨_, rfl⟩
  obtain ⟨W, hW⟩ : ∃ W, (w.alloc (.cells #[.int .i64 s1, .int .i64 e1, .int .i64 k1, .slice ai1 x1.length ci1, .slice ad1 d1.length cd1] 30)).alloc (.cells #[.int .i64 s2, .int .i64 e2, .int .i64 k2, .slice ai2 x2.length ci2, .slice ad2 d2.length cd2] 30) = W := ⟨_, rfl⟩
  have hA : Below n1 w W := by rw [← hW]; exact ((Below.refl _ _).alloc (by omega) _).alloc (by simp; omega) _
  have hWs : W.heap.size = n1 + 2 := by rw [← hW]; simp [hn1]
  have K1 : ∀ k : Nat, W.cell? ⟨n1, k, none⟩ = (#[.int .i64 s1, .int .i64 e1, .int .i64 k1, .slice ai1 x1.length ci1, .slice ad1 d1.length cd1] : Array Value)[k]? := by
    intro k
    rw [← hW, ((Below.refl (n1 + 1) (w.alloc (.cells #[.int .i64 s1, .int .i64 e1, .int .i64 k1, .slice ai1 x1.length ci1, .slice ad1 d1.length cd1] 30))).alloc (by simp; omega) _).cell (p := ⟨n1, k, none⟩) (by show n1 < n1 + 1; omega), ← hn1]
    exact World.cell?_alloc_new _ _ _ _
  have K2 : ∀ k : Nat, W.cell? ⟨n1 + 1, k, none⟩ = (#[.int .i64 s2, .int .i64 e2, .int .i64 k2, .slice ai2 x2.length ci2, .slice ad2 d2.length cd2] : Array Value)[k]? := by
    intro k
    have e : n1 + 1 = (w.alloc (.cells #[.int .i64 s1, .int .i64 e1, .int .i64 k1, .slice ai1 x1.length ci1, .slice ad1 d1.length cd1] 30)).heap.size := by simp [hn1]
    rw [← hW, e]
    exact World.cell?_alloc_new _ _ _ _
  have C3 : ∀ w', Below (n1 + 2) W w' → w'.cell? ⟨n1, 3, none⟩ = some (.slice ai1 x1.length ci1) ∧ w'.cell? ⟨n1 + 1, 3, none⟩ = some (.slice ai2 x2.length ci2) :=
    fun w' h => ⟨(h.cell (p := ⟨n1, 3, none⟩) (by show n1 < n1 + 2; omega)).trans (K1 3), (h.cell (p := ⟨n1 + 1, 3, none⟩) (by show n1 + 1 < n1 + 2; omega)).trans (K2 3)⟩
  have C4 : ∀ w', Below (n1 + 2) W w' → w'.cell? ⟨n1, 4, none⟩ = some (.slice ad1 d1.length cd1) ∧ w'.cell? ⟨n1 + 1, 4, none⟩ = some (.slice ad2 d2.length cd2) :=
    fun w' h => ⟨(h.cell (p := ⟨n1, 4, none⟩) (by show n1 < n1 + 2; omega)).trans (K1 4), (h.cell (p := ⟨n1 + 1, 4, none⟩) (by show n1 + 1 < n1 + 2; omega)).trans (K2 4)⟩
  have p0 : W.cell? ⟨n1, 0, none⟩ = some (.int .i64 s1) := K1 0
  have p1 : W.cell? ⟨n1, 1, none⟩ = some (.int .i64 e1) := K1 1
  have p2 : W.cell? ⟨n1, 2, none⟩ = some (.int .i64 k1) := K1 2
  have p3 : W.cell? ⟨n1, 3, none⟩ = some (.slice ai1 x1.length ci1) := K1 3
  have p4 : W.cell? ⟨n1, 4, none⟩ = some (.slice ad1 d1.length cd1) := K1 4
  have q0 : W.cell? ⟨n1 + 1, 0, none⟩ = some (.int .i64 s2) := K2 0
  have q1 : W.cell? ⟨n1 + 1, 1, none⟩ = some (.int .i64 e2) := K2 1
  have q2 : W.cell? ⟨n1 + 1, 2, none⟩ = some (.int .i64 k2) := K2 2
  have q3 : W.cell? ⟨n1 + 1, 3, none⟩ = some (.slice ai2 x2.length ci2) := K2 3
  have q4 : W.cell? ⟨n1 + 1, 4, none⟩ = some (.slice ad2 d2.length cd2) := K2 4
  have HW' := Lib.hid hW
  have hriW1 := hri1.below hA (by omega)
  have hriW2 := hri2.below hA (by omega)
  have hrdW1 := hrd1.below hA (by omega)
  have hrdW2 := hrd2.below hA (by omega)
  clear K1 K2 hri1 hri2 hrd1 hrd2
  have HA := Lib.hid hA
  clear hA
  by_cases hs : s1 = s2
  case neg =>
    go_enter Tryz.func24, Tryz.ntmps24
    go_wp2_with fail
    go_ret
    exact ⟨false, rfl, ⟨fun h => (by cases h), fun h => absurd (congrArg Man.seq h) hs⟩, by rw [hn1]; exact HA.out⟩
  subst hs
  by_cases he : e1 = e2
  case neg =>
    go_enter Tryz.func24, Tryz.ntmps24
    go_wp2_with fail
    go_ret
    exact ⟨false, rfl, ⟨fun h => (by cases h), fun h => absurd (congrArg Man.every h) he⟩, by rw [hn1]; exact HA.out⟩
  subst he
  by_cases hk : k1 = k2
  case neg =>
    go_enter Tryz.func24, Tryz.ntmps24
    go_wp2_with fail
    go_ret
    exact ⟨false, rfl, ⟨fun h => (by cases h), fun h => absurd (congrArg Man.keep h) hk⟩, by rw [hn1]; exact HA.out⟩
  subst hk
  by_cases hx : x1.length = x2.length
  case neg =>
    have hx' : ¬ (x1.length : Int) = (x2.length : Int) := by omega
    go_enter Tryz.func24, Tryz.ntmps24
    go_wp2_with fail
    go_ret
    exact ⟨false, rfl, ⟨fun h => (by cases h), fun h => absurd (congrArg (fun m : Man => m.index.length) h) hx⟩, by rw [hn1]; exact HA.out⟩
  obtain ⟨L1, hL1⟩ : ∃ L1, x2.length = L1 := ⟨_, rfl⟩
  rw [hL1] at hx hriW2 C3 HW' q3
  rw [hx] at h1 hriW1 C3 HW' p3
  have HX1 := Lib.hid hx
  have HX2 := Lib.hid hL1
  by_cases hd : d1.length = d2.length
  case neg =>
    clear hx hL1
    have hd' : ¬ (d1.length : Int) = (d2.length : Int) := by omega
    go_enter Tryz.func24, Tryz.ntmps24
    go_wp2_with fail
    go_ret
    exact ⟨false, rfl, ⟨fun h => (by cases h), fun h => absurd (congrArg (fun m : Man => m.data.length) h) hd⟩, by rw [hn1]; exact HA.out⟩
  obtain ⟨L2, hL2⟩ : ∃ L2, d2.length = L2 := ⟨_, rfl⟩
  rw [hL2] at hd hrdW2 C4 HW' q4
  rw [hd] at h2 hrdW1 C4 HW' p4
  have HD1 := Lib.hid hd
  have HD2 := Lib.hid hL2
  rw [hx, hL1, hd, hL2]
  have hW2 := HW'.out
  clear hx hL1 hd hL2 hW HW'
  go_enter Tryz.func24, Tryz.ntmps24
  go_wp2_with fail
  go_loopw [5] (fun i wr => ∃ j : Nat, j ≤ L1 ∧ i = .int .i64 (j : Int) ∧ x1.take j = x2.take j ∧ Below (n1 + 2) W wr) (fun i _ => L1 - (intOf i).toNat)
  case atStart => exact ⟨0, Nat.zero_le _, rfl, rfl, Below.refl _ _⟩
  case round =>
    obtain ⟨j, hj, rfl, heq, hb⟩ := hrel
    obtain ⟨c1, c2⟩ := C3 wr hb
    by_cases hlt : j < L1
    · have hlt1 : j < x1.length := by rw [HX1.out]; exact hlt
      have hlt2 : j < x2.length := by rw [HX2.out]; exact hlt
      obtain ⟨b1, o1, hA1, hk1⟩ := (hriW1.below hb (by omega)).elem hlt1
      obtain ⟨b2, o2, hA2, hk2⟩ := (hriW2.below hb (by omega)).elem hlt2
      have hbl1 : b1 < wr.heap.size := World.block_lt_of_cell? wr ⟨b1, o1 + j, none⟩ hk1
      have hbl2 : b2 < wr.heap.size := World.block_lt_of_cell? wr ⟨b2, o2 + j, none⟩ hk2
      rw [hA1] at c1
      rw [hA2] at c2
      have HS : Hid (x1.take (j + 1) = x1.take j ++ [x1[j]] ∧ x2.take (j + 1) = x2.take j ++ [x2[j]]) := ⟨List.take_succ_eq_append_getElem hlt1, List.take_succ_eq_append_getElem hlt2⟩
      have HD : Hid (x1[j] ≠ x2[j] → x1 ≠ x2) := by
        intro hne
        rintro rfl
        exact hne rfl
      generalize x1[j] = X at hk1 HS HD
      generalize x2[j] = Y at hk2 HS HD
      have hs0 := hb.size
      have HA1 := Lib.hid hA1
      have HA2 := Lib.hid hA2
      clear hlt1 hlt2 hA1 hA2
      by_cases hXY : X = Y
      · have hq : (X == Y) = true := by simp [hXY]
        go_wp2_with fail
        refine same_reg6 (n1 := n1) (n2 := n1 + 1) (b1 := b1) (o1 := o1) (L1 := L1) (c1 := ci1) (b2 := b2) (o2 := o2) (L2 := L1) (c2 := ci2) (j := j) (X := X) (Y := Y) (q := true) rfl rfl rfl rfl hlt hlt (by omega) (by omega) (by omega) hbl1 hbl2 c1 c2 hk1 hk2 hq ?_
        intro a w9 hb9 x hold hsz hdf
        obtain ⟨gg, hgg⟩ : ∃ gg : Nat → Value, ∀ t, a.tmps.getD t undef = gg t := ⟨_, fun _ => rfl⟩
        have hfr := frame_eq 51 62 gg hsz hdf (by decide) (of_decide_eq_true (by kernel_rfl)) (fun t ht => hold t (dst_out (lo := 51) (hi := 62) (by kernel_rfl) ht)) (fun t _ _ => hgg t)
        rw [hgg] at x
        clear hgg hold hsz hdf
        subst hfr
        simp only [List.take_succ_cons, List.take_zero, List.drop_succ_cons, List.drop_zero, List.range', List.map_cons, List.map_nil, List.cons_append, List.nil_append, Nat.reduceAdd, Nat.reduceSub]
        generalize gg 61 = y at x
        subst x
        go_wp2_with fail
        go_roundw
        case rel => exact ⟨j + 1, hlt, by go_num, by rw [HS.out.1, HS.out.2, heq, hXY], hb.trans (hb9.mono (by omega))⟩
        case measure => simp [intOf]; omega
      · have hq : (X == Y) = false := by simp [hXY]
        go_wp2_with fail
        refine same_reg6 (n1 := n1) (n2 := n1 + 1) (b1 := b1) (o1 := o1) (L1 := L1) (c1 := ci1) (b2 := b2) (o2 := o2) (L2 := L1) (c2 := ci2) (j := j) (X := X) (Y := Y) (q := false) rfl rfl rfl rfl hlt hlt (by omega) (by omega) (by omega) hbl1 hbl2 c1 c2 hk1 hk2 hq ?_
        intro a w9 hb9 x hold hsz hdf
        obtain ⟨gg, hgg⟩ : ∃ gg : Nat → Value, ∀ t, a.tmps.getD t undef = gg t := ⟨_, fun _ => rfl⟩
        have hfr := frame_eq 51 62 gg hsz hdf (by decide) (of_decide_eq_true (by kernel_rfl)) (fun t ht => hold t (dst_out (lo := 51) (hi := 62) (by kernel_rfl) ht)) (fun t _ _ => hgg t)
        rw [hgg] at x
        clear hgg hold hsz hdf
        subst hfr
        simp only [List.take_succ_cons, List.take_zero, List.drop_succ_cons, List.drop_zero, List.range', List.map_cons, List.map_nil, List.cons_append, List.nil_append, Nat.reduceAdd, Nat.reduceSub]
        generalize gg 61 = y at x
        subst x
        have hF := HD.out hXY
        go_wp2_with fail
        go_ret
        exact ⟨false, rfl, ⟨fun h => (by cases h), fun h => absurd (congrArg Man.index h) hF⟩, by rw [hn1]; exact HA.out.trans ((hb.trans (hb9.mono (by omega))).mono (by omega))⟩
    · have hjl : j = L1 := by omega
      subst hjl
      have HE1 : Hid (x1 = x2) := by
        rw [List.take_of_length_le (by rw [HX1.out]; exact Nat.le_refl _), List.take_of_length_le (by rw [HX2.out]; exact Nat.le_refl _)] at heq
        exact heq
      have HB := hb
      clear heq c1 c2
      go_wp2_with fail
      go_loopw [6] (fun i wr => ∃ j : Nat, j ≤ L2 ∧ i = .int .i64 (j : Int) ∧ d1.take j = d2.take j ∧ Below (n1 + 2) W wr) (fun i _ => L2 - (intOf i).toNat)
      case atStart => exact ⟨0, Nat.zero_le _, rfl, rfl, hb⟩
      case round =>
        clear hb HB
        obtain ⟨j, hj, rfl, heq, hb⟩ := hrel
        obtain ⟨c1, c2⟩ := C4 wr hb
        by_cases hlt : j < L2
        · have hlt1 : j < d1.length := by rw [HD1.out]; exact hlt
          have hlt2 : j < d2.length := by rw [HD2.out]; exact hlt
          obtain ⟨b1, o1, hA1, hbl1, hk1⟩ := (hrdW1.below hb (by omega)).elem hlt1
          obtain ⟨b2, o2, hA2, hbl2, hk2⟩ := (hrdW2.below hb (by omega)).elem hlt2
          rw [hA1] at c1
          rw [hA2] at c2
          have HS : Hid (d1.take (j + 1) = d1.take j ++ [d1[j]] ∧ d2.take (j + 1) = d2.take j ++ [d2[j]]) := ⟨List.take_succ_eq_append_getElem hlt1, List.take_succ_eq_append_getElem hlt2⟩
          have HD : Hid (d1[j] ≠ d2[j] → d1 ≠ d2) := by
            intro hne
            rintro rfl
            exact hne rfl
          generalize d1[j] = X at hk1 HS HD
          generalize d2[j] = Y at hk2 HS HD
          have hs0 := hb.size
          have HA1 := Lib.hid hA1
          have HA2 := Lib.hid hA2
          clear hlt1 hlt2 hA1 hA2
          by_cases hXY : X = Y
          · have hq : (X.m == Y.m && X.n == Y.n) = true := by simp [hXY]
            go_wp2_with fail
            refine same_reg11 (n1 := n1) (n2 := n1 + 1) (b1 := b1) (o1 := o1) (L1 := L2) (c1 := cd1) (b2 := b2) (o2 := o2) (L2 := L2) (c2 := cd2) (j := j) (X := X) (Y := Y) (q := true) rfl rfl rfl rfl hlt hlt (by omega) (by omega) (by omega) hbl1 hbl2 c1 c2 hk1.1 hk1.2 hk2.1 hk2.2 hq ?_
            intro a w9 hb9 x hold hsz hdf
            obtain ⟨gg, hgg⟩ : ∃ gg : Nat → Value, ∀ t, a.tmps.getD t undef = gg t := ⟨_, fun _ => rfl⟩
            have hfr := frame_eq 69 80 gg hsz hdf (by decide) (of_decide_eq_true (by kernel_rfl)) (fun t ht => hold t (dst_out (lo := 69) (hi := 80) (by kernel_rfl) ht)) (fun t _ _ => hgg t)
            rw [hgg] at x
            clear hgg hold hsz hdf
            subst hfr
            simp only [List.take_succ_cons, List.take_zero, List.drop_succ_cons, List.drop_zero, List.range', List.map_cons, List.map_nil, List.cons_append, List.nil_append, Nat.reduceAdd, Nat.reduceSub]
            generalize gg 79 = y at x
            subst x
            go_wp2_with fail
            go_roundw
            case rel => exact ⟨j + 1, hlt, by go_num, by rw [HS.out.1, HS.out.2, heq, hXY], hb.trans (hb9.mono (by omega))⟩
            case measure => simp [intOf]; omega
          · have hq : (X.m == Y.m && X.n == Y.n) = false := by
              obtain ⟨Xm, Xn⟩ := X
              obtain ⟨Ym, Yn⟩ := Y
              simp only [D2.mk.injEq, not_and] at hXY
              by_cases h : Xm = Ym
              · simp [h, hXY h]
              · simp [h]
            go_wp2_with fail
            refine same_reg11 (n1 := n1) (n2 := n1 + 1) (b1 := b1) (o1 := o1) (L1 := L2) (c1 := cd1) (b2 := b2) (o2 := o2) (L2 := L2) (c2 := cd2) (j := j) (X := X) (Y := Y) (q := false) rfl rfl rfl rfl hlt hlt (by omega) (by omega) (by omega) hbl1 hbl2 c1 c2 hk1.1 hk1.2 hk2.1 hk2.2 hq ?_
            intro a w9 hb9 x hold hsz hdf
            obtain ⟨gg, hgg⟩ : ∃ gg : Nat → Value, ∀ t, a.tmps.getD t undef = gg t := ⟨_, fun _ => rfl⟩
            have hfr := frame_eq 69 80 gg hsz hdf (by decide) (of_decide_eq_true (by kernel_rfl)) (fun t ht => hold t (dst_out (lo := 69) (hi := 80) (by kernel_rfl) ht)) (fun t _ _ => hgg t)
            rw [hgg] at x
            clear hgg hold hsz hdf
            subst hfr
            simp only [List.take_succ_cons, List.take_zero, List.drop_succ_cons, List.drop_zero, List.range', List.map_cons, List.map_nil, List.cons_append, List.nil_append, Nat.reduceAdd, Nat.reduceSub]
            generalize gg 79 = y at x
            subst x
            have hF := HD.out hXY
            go_wp2_with fail
            go_ret
            exact ⟨false, rfl, ⟨fun h => (by cases h), fun h => absurd (congrArg Man.data h) hF⟩, by rw [hn1]; exact HA.out.trans ((hb.trans (hb9.mono (by omega))).mono (by omega))⟩
        · have hjl : j = L2 := by omega
          subst hjl
          have HE2 : Hid (d1 = d2) := by
            rw [List.take_of_length_le (by rw [HD1.out]; exact Nat.le_refl _), List.take_of_length_le (by rw [HD2.out]; exact Nat.le_refl _)] at heq
            exact heq
          go_wp2_with fail
          go_ret
          exact ⟨true, rfl, ⟨fun _ => by rw [HE1.out, HE2.out], fun _ => rfl⟩, by rw [hn1]; exact HA.out.trans (hb.mono (by omega))⟩
end Go.Proofs.YtcjbgchhalilnaaGreatDoor
