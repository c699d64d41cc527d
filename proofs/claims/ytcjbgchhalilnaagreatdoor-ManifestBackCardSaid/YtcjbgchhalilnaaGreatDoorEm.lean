/- manifest.Check: the walk. -/
import Derived.Test.YtcjbgchhalilnaaGreatDoorEk
namespace Go.Proofs.YtcjbgchhalilnaaGreatDoor
open Go Go.RowKit Go.Lib
set_option linter.unusedVariables false

def ChkRel1 (m : Man) (n0 : Nat) (W : World) (i : Value) (wr : World) : Prop :=
  ∃ j : Nat, j ≤ m.index.length ∧ i = .int .i64 (j : Int) ∧ Below (n0 + 1) W wr ∧ ∀ i (h : i < j) (h' : i < m.index.length), 1 ≤ numF m.index[i] 105 ∧ (numF m.index[i] 105 : Int) ≤ m.seq
def ChkRel2 (m : Man) (n0 : Nat) (W : World) (i : Value) (wr : World) : Prop :=
  ∃ j : Nat, j ≤ m.data.length ∧ i = .int .i64 (j : Int) ∧ Below (n0 + 1) W wr ∧ ∀ i (h : i < j) (h' : i < m.data.length), (1 ≤ numF m.data[i].n 100 ∧ (numF m.data[i].n 100 : Int) ≤ m.seq) ∧ 0 ≤ m.data[i].m ∧ m.data[i].m ≤ 2147483647
set_option maxRecDepth 100000 in
set_option maxHeartbeats 4000000 in
theorem Check_any (v : Value) (m : Man) (w : World) (hT : Laid w) (hr : ReadsM w v m) :
    Calls Tryz.prog 22 #[v] w fun e w' => e = .returned (.int .i64 (checkN m)) ∧ Below w.heap.size w w' := by
  have hrm := hr
  obtain ⟨vi, vd, rfl, hri, hrd⟩ := hr
  obtain ⟨ai, ci, rfl⟩ := hri.slice
  obtain ⟨ad, cd, rfl⟩ := hrd.slice
  have hlci := hri.len_cap
  have hlcd := hrd.len_cap
  simp only [maxLen] at hlci hlcd
  obtain ⟨n0, hn0⟩ : ∃ n0, w.heap.size = n0 := ⟨_, rfl⟩
  obtain ⟨W, hW⟩ : ∃ W, w.alloc (.cells #[.int .i64 m.seq, .int .i64 m.every, .int .i64 m.keep, .slice ai m.index.length ci, .slice ad m.data.length cd] 25) = W := ⟨_, rfl⟩
  have hA : Below n0 w W := by rw [← hW]; exact (Below.refl _ _).alloc (by omega) _
  have hWs : W.heap.size = n0 + 1 := by rw [← hW]; simp [hn0]
  have K : ∀ k : Nat, W.cell? ⟨n0, k, none⟩ = (#[.int .i64 m.seq, .int .i64 m.every, .int .i64 m.keep, .slice ai m.index.length ci, .slice ad m.data.length cd] : Array Value)[k]? := by
    intro k
    rw [← hW, ← hn0]
    exact World.cell?_alloc_new _ _ _ _
  have C0 : ∀ w', Below (n0 + 1) W w' → w'.cell? ⟨n0, 0, none⟩ = some (.int .i64 m.seq) := fun w' h => (h.cell (p := ⟨n0, 0, none⟩) (by show n0 < n0 + 1; omega)).trans (K 0)
  have C1 : ∀ w', Below (n0 + 1) W w' → w'.cell? ⟨n0, 1, none⟩ = some (.int .i64 m.every) := fun w' h => (h.cell (p := ⟨n0, 1, none⟩) (by show n0 < n0 + 1; omega)).trans (K 1)
  have C2 : ∀ w', Below (n0 + 1) W w' → w'.cell? ⟨n0, 2, none⟩ = some (.int .i64 m.keep) := fun w' h => (h.cell (p := ⟨n0, 2, none⟩) (by show n0 < n0 + 1; omega)).trans (K 2)
  have C3 : ∀ w', Below (n0 + 1) W w' → w'.cell? ⟨n0, 3, none⟩ = some (.slice ai m.index.length ci) := fun w' h => (h.cell (p := ⟨n0, 3, none⟩) (by show n0 < n0 + 1; omega)).trans (K 3)
  have C4 : ∀ w', Below (n0 + 1) W w' → w'.cell? ⟨n0, 4, none⟩ = some (.slice ad m.data.length cd) := fun w' h => (h.cell (p := ⟨n0, 4, none⟩) (by show n0 < n0 + 1; omega)).trans (K 4)
  clear K
  go_enter Tryz.func22, Tryz.ntmps22
  go_wp2_with fail
  refine wp_scope_jumps 0 (fun a' w' => a'.tmps.size = 91 ∧ a'.defers = [] ∧ ¬ CheckP m ∧ Below n0 w w') (fun _ _ => 0) rfl ?_ ?_
  · have c0 := C0 W (Below.refl _ _)
    have c1 := C1 W (Below.refl _ _)
    have c2 := C2 W (Below.refl _ _)
    have c3 := C3 W (Below.refl _ _)
    have c4 := C4 W (Below.refl _ _)
    go_wp2_with fail
    have hTW : Laid W := hT.below hA (by omega)
    have hrmW : ReadsM W _ m := hrm.below hA (by omega)
    have hriW := hri.below hA (by omega)
    have hrdW := hrd.below hA (by omega)
    by_cases g1 : 0 ≤ m.seq ∧ m.seq ≤ 999999
    rotate_left
    · have hq1 : decide (0 ≤ m.seq ∧ m.seq ≤ 999999) = false := decide_eq_false g1
      have hno : ¬ CheckP m := fun h => g1 h.1
      go_wp2_with (go_at_call 35; refine (within_any _ _ _ _).mono ?_; rintro e w1 ⟨rfl, hw1⟩; rw [hw1]; clear hw1; simp only [hq1])
      go_step3
      exact ⟨rfl, rfl, rfl, hno, hA⟩
    have hq1 : decide (0 ≤ m.seq ∧ m.seq ≤ 999999) = true := decide_eq_true g1
    by_cases g2 : 1 ≤ m.every ∧ m.every ≤ 1073741824
    rotate_left
    · have hq2 : decide (1 ≤ m.every ∧ m.every ≤ 1073741824) = false := decide_eq_false g2
      have hno : ¬ CheckP m := fun h => g2 h.2.1
      go_wp2_with (go_at_call 35; refine (within_any _ _ _ _).mono ?_; rintro e w1 ⟨rfl, hw1⟩; rw [hw1]; clear hw1; simp only [hq1, hq2])
      go_step3
      exact ⟨rfl, rfl, rfl, hno, hA⟩
    have hq2 : decide (1 ≤ m.every ∧ m.every ≤ 1073741824) = true := decide_eq_true g2
    by_cases g3 : m.keep < 1
    · have hno : ¬ CheckP m := fun h => by have := h.2.2.1.1; omega
      go_wp2_with (go_at_call 35; refine (within_any _ _ _ _).mono ?_; rintro e w1 ⟨rfl, hw1⟩; rw [hw1]; clear hw1; simp only [hq1, hq2])
      go_step3
      exact ⟨rfl, rfl, rfl, hno, hA⟩
    have g3b : decide (m.keep < 1) = false := decide_eq_false g3
    have g3c : 1 ≤ m.keep := by omega
    by_cases g4 : 1099511627776 < m.keep
    · have hno : ¬ CheckP m := fun h => by have := h.2.2.1.2; omega
      go_wp2_with (go_at_call 35; refine (within_any _ _ _ _).mono ?_; rintro e w1 ⟨rfl, hw1⟩; rw [hw1]; clear hw1; simp only [hq1, hq2])
      go_step3
      exact ⟨rfl, rfl, rfl, hno, hA⟩
    have g4b : m.keep ≤ 1099511627776 := by omega
    go_wp2_with (go_at_call 35; refine (within_any _ _ _ _).mono ?_; rintro e w1 ⟨rfl, hw1⟩; rw [hw1]; clear hw1; simp only [hq1, hq2])
    clear hq1 hq2 g3b
    by_cases g5 : (100 : Int) < m.index.length
    · have hno : ¬ CheckP m := fun h => by have := h.2.2.2.1; omega
      have hd5 : decide ((100 : Int) < m.index.length) = true := decide_eq_true g5
      go_quiet (fail)
      go_wp2_with fail
      go_step3
      exact ⟨rfl, rfl, rfl, hno, Below.drewN hA nq⟩
    have hd5 : decide ((100 : Int) < m.index.length) = false := decide_eq_false g5
    have g5b : (m.index.length : Int) ≤ 100 := by omega
    by_cases g6 : (100 : Int) < m.data.length
    · have hno : ¬ CheckP m := fun h => by have := h.2.2.2.2.1; omega
      have hd6 : decide ((100 : Int) < m.data.length) = true := decide_eq_true g6
      go_quiet (fail)
      go_wp2_with fail
      go_step3
      exact ⟨rfl, rfl, rfl, hno, Below.drewN hA nq⟩
    have g6b : (m.data.length : Int) ≤ 100 := by omega
    have hwr : IntKind.i64.wrap ((m.index.length : Int) + m.data.length) = (m.index.length : Int) + m.data.length := IntWalk.i64_in _ (by omega)
    clear hd5 g5 g6
    by_cases g7 : ((namesL m).length : Int) = (m.index.length : Int) + m.data.length
    rotate_left
    · have hno : ¬ CheckP m := fun h => by have := h.2.2.2.2.2.1; omega
      refine check3_true (W := W) (n0 := n0) rfl (Below.refl _ _) (by omega) hTW rfl g5b g6b hwr hrmW g7 C0 C1 C2 C3 C4 ?_
      intro a w8 hb8 x hold hsz hdf
      obtain ⟨gg, hgg⟩ : ∃ gg : Nat → Value, ∀ t, a.tmps.getD t undef = gg t := ⟨_, fun _ => rfl⟩
      have hfr := frame_eq 30 53 gg hsz hdf (by decide) (of_decide_eq_true (by kernel_rfl)) (fun t ht => hold t (dst_out (lo := 30) (hi := 53) (by kernel_rfl) ht)) (fun t _ _ => hgg t)
      rw [hgg] at x
      clear hgg hold hsz hdf
      subst hfr
      simp only [List.take_succ_cons, List.take_zero, List.drop_succ_cons, List.drop_zero, List.range', List.map_cons, List.map_nil, List.cons_append, List.nil_append, Nat.reduceAdd, Nat.reduceSub]
      generalize gg 52 = y at x
      subst x
      go_wp2_with fail
      go_step3
      exact ⟨rfl, rfl, rfl, hno, hA.trans (hb8.mono (by omega))⟩
    have g7c : Hid ((namesL m).length = m.index.length + m.data.length) := by rw [Hid]; omega
    refine check3_false (W := W) (n0 := n0) rfl (Below.refl _ _) (by omega) hTW rfl g5b g6b hwr hrmW g7 C0 C1 C2 C3 C4 ?_
    intro a w8 hb8 x hold hsz hdf
    obtain ⟨gg, hgg⟩ : ∃ gg : Nat → Value, ∀ t, a.tmps.getD t undef = gg t := ⟨_, fun _ => rfl⟩
    have hfr := frame_eq 30 53 gg hsz hdf (by decide) (of_decide_eq_true (by kernel_rfl)) (fun t ht => hold t (dst_out (lo := 30) (hi := 53) (by kernel_rfl) ht)) (fun t _ _ => hgg t)
    rw [hgg] at x
    clear hgg hold hsz hdf
    subst hfr
    simp only [List.take_succ_cons, List.take_zero, List.drop_succ_cons, List.drop_zero, List.range', List.map_cons, List.map_nil, List.cons_append, List.nil_append, Nat.reduceAdd, Nat.reduceSub]
    generalize gg 52 = y at x
    subst x
    clear g7
    have hb8' : Below (n0 + 1) W w8 := hb8.mono (by omega)
    have c3' := C3 w8 hb8'
    have c4' := C4 w8 hb8'
    clear c0 c1 c2 c3 c4 hrmW hriW hrdW hTW
    go_wp2_with fail
    go_loopw [5, 56] (fun _ i wr => ChkRel1 m n0 W i wr) (fun _ i _ => m.index.length - (intOf i).toNat)
    case atStart => exact ⟨0, Nat.zero_le _, rfl, hb8', fun i h => absurd h (Nat.not_lt_zero i)⟩
    case round =>
      obtain ⟨j, hj, rfl, hbr, hall⟩ := hrel
      have hbw : Below n0 w wr := hA.trans (hbr.mono (by omega))
      have c4r := C4 wr hbr
      by_cases hlt : j < m.index.length
      · obtain ⟨b, off, rfl, hc⟩ := (hri.below hbw (by omega)).elem hlt
        have HM : Hid (m.index[j] ∈ m.index) := List.getElem_mem hlt
        have HE : Hid (m.index[j] = m.index[j]) := rfl
        generalize hsj : m.index[j] = s at hc HM
        have HJ := Lib.hid hsj
        clear hsj
        have hTr : Laid wr := hT.below hbw (by omega)
        have hbrs := hbr.size
        by_cases hq : 1 ≤ (numF s 105 : Int) ∧ (numF s 105 : Int) ≤ m.seq
        · have hqd := decide_eq_true hq
          go_wp2_with fail
          refine check7_false (W := W) (n0 := n0) rfl hbr (by omega) hTr rfl rfl rfl hqd C0 C1 C2 C3 C4 ?_
          intro a wq hwq x hold hsz hdf
          obtain ⟨gg, hgg⟩ : ∃ gg : Nat → Value, ∀ t, a.tmps.getD t undef = gg t := ⟨_, fun _ => rfl⟩
          have hfr := frame_eq 60 67 gg hsz hdf (by decide) (of_decide_eq_true (by kernel_rfl)) (fun t ht => hold t (dst_out (lo := 60) (hi := 67) (by kernel_rfl) ht)) (fun t _ _ => hgg t)
          rw [hgg] at x
          clear hgg hold hsz hdf
          subst hfr
          simp only [List.take_succ_cons, List.take_zero, List.drop_succ_cons, List.drop_zero, List.range', List.map_cons, List.map_nil, List.cons_append, List.nil_append, Nat.reduceAdd, Nat.reduceSub]
          generalize gg 66 = y at x
          subst x
          go_wp2_with fail
          go_roundw
          case rel =>
            refine ⟨j + 1, hlt, by go_num, hbr.trans (hwq.mono (by omega)), fun i h h' => ?_⟩
            by_cases e : i = j
            · subst e
              rw [HJ.out]
              omega
            · exact hall i (by omega) h'
          case measure => simp [intOf]; omega
        · have hqd := decide_eq_false hq
          have hno : ¬ CheckP m := fun h => hq (by have := h.2.2.2.2.2.2.1 s HM.out; omega)
          go_wp2_with fail
          refine check7_true (W := W) (n0 := n0) rfl hbr (by omega) hTr rfl rfl rfl hqd C0 C1 C2 C3 C4 ?_
          intro a wq hwq x hold hsz hdf
          obtain ⟨gg, hgg⟩ : ∃ gg : Nat → Value, ∀ t, a.tmps.getD t undef = gg t := ⟨_, fun _ => rfl⟩
          have hfr := frame_eq 60 67 gg hsz hdf (by decide) (of_decide_eq_true (by kernel_rfl)) (fun t ht => hold t (dst_out (lo := 60) (hi := 67) (by kernel_rfl) ht)) (fun t _ _ => hgg t)
          rw [hgg] at x
          clear hgg hold hsz hdf
          subst hfr
          simp only [List.take_succ_cons, List.take_zero, List.drop_succ_cons, List.drop_zero, List.range', List.map_cons, List.map_nil, List.cons_append, List.nil_append, Nat.reduceAdd, Nat.reduceSub]
          generalize gg 66 = y at x
          subst x
          go_wp2_with fail
          go_step3
          exact ⟨rfl, rfl, rfl, hno, hbw.trans (hwq.mono (by omega))⟩
      · have hjl : j = m.index.length := by omega
        subst hjl
        have HA1 : Hid (∀ s ∈ m.index, 1 ≤ numF s 105 ∧ (numF s 105 : Int) ≤ m.seq) := by
          intro s hs
          obtain ⟨i, hi, rfl⟩ := List.mem_iff_getElem.1 hs
          exact hall i hi hi
        clear hall
        go_wp2_with fail
        go_loopw [7, 71] (fun _ i w2 => ChkRel2 m n0 W i w2) (fun _ i _ => m.data.length - (intOf i).toNat)
        case atStart => exact ⟨0, Nat.zero_le _, rfl, hbr, fun i h => absurd h (Nat.not_lt_zero i)⟩
        case round =>
          clear hbw hbr c4r
          obtain ⟨j, hj, rfl, hbr, hall⟩ := hrel
          have hbw : Below n0 w wr := hA.trans (hbr.mono (by omega))
          by_cases hlt : j < m.data.length
          · obtain ⟨b2, off2, rfl, hbl, hc1, hc2⟩ := (hrd.below hbw (by omega)).elem hlt
            have HM : Hid (m.data[j] ∈ m.data) := List.getElem_mem hlt
            have HE : Hid (m.data[j] = m.data[j]) := rfl
            generalize hsj : m.data[j] = d at hc1 hc2 HM
            have HJ := Lib.hid hsj
            clear hsj
            have hbrs := hbr.size
            have hbA : Below (n0 + 1) W (wr.alloc (.cells #[.int .i64 d.m, encStr d.n] 54)) := hbr.alloc (by omega) _
            have hTr : Laid (wr.alloc (.cells #[.int .i64 d.m, encStr d.n] 54)) := hT.below (hbw.alloc (by omega) _) (by omega)
            have hsA : (wr.alloc (.cells #[.int .i64 d.m, encStr d.n] 54)).heap.size = wr.heap.size + 1 := by simp
            by_cases hq : 1 ≤ (numF d.n 100 : Int) ∧ (numF d.n 100 : Int) ≤ m.seq
            · have hqd := decide_eq_true hq
              by_cases hp : 0 ≤ d.m ∧ d.m ≤ 2147483647
              · have hpd := decide_eq_true hp
                go_wp2_with fail
                refine check12_truetrue (W := W) (n0 := n0) (nd := wr.heap.size) (d := d) rfl hbA (by simp; omega) hTr rfl rfl rfl (by simp) (World.cell?_alloc_new _ _ _ _) (World.cell?_alloc_new _ _ _ _) hqd hpd C0 C1 C2 C3 C4 ?_
                intro a wq hwq x hold hsz hdf
                obtain ⟨gg, hgg⟩ : ∃ gg : Nat → Value, ∀ t, a.tmps.getD t undef = gg t := ⟨_, fun _ => rfl⟩
                have hfr := frame_eq 75 90 gg hsz hdf (by decide) (of_decide_eq_true (by kernel_rfl)) (fun t ht => hold t (dst_out (lo := 75) (hi := 90) (by kernel_rfl) ht)) (fun t _ _ => hgg t)
                rw [hgg] at x
                clear hgg hold hsz hdf
                subst hfr
                simp only [List.take_succ_cons, List.take_zero, List.drop_succ_cons, List.drop_zero, List.range', List.map_cons, List.map_nil, List.cons_append, List.nil_append, Nat.reduceAdd, Nat.reduceSub]
                generalize gg 89 = y at x
                subst x
                go_wp2_with fail
                go_roundw
                case rel =>
                  refine ⟨j + 1, hlt, by go_num, hbA.trans (hwq.mono (by simp; omega)), fun i h h' => ?_⟩
                  by_cases e : i = j
                  · subst e
                    rw [HJ.out]
                    exact ⟨by omega, hp⟩
                  · exact hall i (by omega) h'
                case measure => simp [intOf]; omega
              · have hpd := decide_eq_false hp
                have hno : ¬ CheckP m := fun h => hp (h.2.2.2.2.2.2.2 d HM.out).2
                go_wp2_with fail
                refine check12_truefalse (W := W) (n0 := n0) (nd := wr.heap.size) (d := d) rfl hbA (by simp; omega) hTr rfl rfl rfl (by simp) (World.cell?_alloc_new _ _ _ _) (World.cell?_alloc_new _ _ _ _) hqd hpd C0 C1 C2 C3 C4 ?_
                intro a wq hwq x hold hsz hdf
                obtain ⟨gg, hgg⟩ : ∃ gg : Nat → Value, ∀ t, a.tmps.getD t undef = gg t := ⟨_, fun _ => rfl⟩
                have hfr := frame_eq 75 90 gg hsz hdf (by decide) (of_decide_eq_true (by kernel_rfl)) (fun t ht => hold t (dst_out (lo := 75) (hi := 90) (by kernel_rfl) ht)) (fun t _ _ => hgg t)
                rw [hgg] at x
                clear hgg hold hsz hdf
                subst hfr
                simp only [List.take_succ_cons, List.take_zero, List.drop_succ_cons, List.drop_zero, List.range', List.map_cons, List.map_nil, List.cons_append, List.nil_append, Nat.reduceAdd, Nat.reduceSub]
                generalize gg 89 = y at x
                subst x
                go_wp2_with fail
                go_step3
                exact ⟨rfl, rfl, rfl, hno, (hbw.alloc (by omega) _).trans (hwq.mono (by simp; omega))⟩
            · have hqd := decide_eq_false hq
              have hno : ¬ CheckP m := fun h => hq (by have := (h.2.2.2.2.2.2.2 d HM.out).1; omega)
              go_wp2_with fail
              refine check12_falsefalse (W := W) (n0 := n0) (nd := wr.heap.size) (d := d) rfl hbA (by simp; omega) hTr rfl rfl rfl (by simp) (World.cell?_alloc_new _ _ _ _) (World.cell?_alloc_new _ _ _ _) hqd C0 C1 C2 C3 C4 ?_
              intro a wq hwq x hold hsz hdf
              obtain ⟨gg, hgg⟩ : ∃ gg : Nat → Value, ∀ t, a.tmps.getD t undef = gg t := ⟨_, fun _ => rfl⟩
              have hfr := frame_eq 75 90 gg hsz hdf (by decide) (of_decide_eq_true (by kernel_rfl)) (fun t ht => hold t (dst_out (lo := 75) (hi := 90) (by kernel_rfl) ht)) (fun t _ _ => hgg t)
              rw [hgg] at x
              clear hgg hold hsz hdf
              subst hfr
              simp only [List.take_succ_cons, List.take_zero, List.drop_succ_cons, List.drop_zero, List.range', List.map_cons, List.map_nil, List.cons_append, List.nil_append, Nat.reduceAdd, Nat.reduceSub]
              generalize gg 89 = y at x
              subst x
              go_wp2_with fail
              go_step3
              exact ⟨rfl, rfl, rfl, hno, (hbw.alloc (by omega) _).trans (hwq.mono (by simp; omega))⟩
          · have hjl : j = m.data.length := by omega
            subst hjl
            have HOK : CheckP m := ⟨g1, g2, ⟨g3c, g4b⟩, by omega, by omega, g7c.out, HA1.out, fun d hd => by
              obtain ⟨i, hi, rfl⟩ := List.mem_iff_getElem.1 hd
              exact hall i hi hi⟩
            go_wp2_with fail
            simp only [Exit.jump]
            refine ret_at (fn := Tryz.f22) (v := .int .i64 0) rfl rfl rfl ⟨by rw [checkN_ok HOK], by rw [hn0]; exact hbw⟩
  · rintro ⟨tmps, defers⟩ w' ⟨hsz, hdf, hno, hb⟩
    simp only at hsz hdf
    subst hdf
    go_wp2_with fail
    have hx : ({ tmps := tmps.setIfInBounds 2 (Value.int IntKind.i64 180), defers := [] } : Act).tmps.getD 2 undef = .int .i64 180 := by simp [hsz]
    simp only [Exit.jump]
    exact ret_at (fn := Tryz.f22) rfl hx rfl ⟨by rw [checkN_no hno], by rw [hn0]; exact hb⟩
end Go.Proofs.YtcjbgchhalilnaaGreatDoor
