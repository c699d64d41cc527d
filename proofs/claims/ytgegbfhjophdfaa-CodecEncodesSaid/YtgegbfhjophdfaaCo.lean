/- The reference's steps, alike and All: the walks. -/
import Derived.Test.YtgegbfhjophdfaaCg
import Derived.Test.YtgegbfhjophdfaaKd
import Derived.Test.YtgegbfhjophdfaaVh
namespace Go.Proofs.Ytgegbfhjophdfaa
open Go Go.RowKit

theorem own_as {w : World} {base : Nat} {v : Value} {xs ys : List Int} (h : w.ownsRow base 2 1 v xs.length (xs.map vi64)) (he : xs = ys) : w.ownsRow base 2 1 v ys.length (ys.map vi64) := by
  subst he
  exact h
theorem own_asb {w : World} {base : Nat} {v : Value} {xs ys : List UInt8} (h : w.ownsRow base 5 1 v xs.length (xs.map b8)) (he : xs = ys) : w.ownsRow base 5 1 v ys.length (ys.map b8) := by
  subst he
  exact h

theorem steps_take (l : List Int) (j : Nat) (h1 : 1 ≤ j) (h : j < l.length) : (steps l).take j = (steps l).take (j - 1) ++ [df l j] := by
  have hs : j - 1 < (steps l).length := by rw [steps_length]; omega
  have := List.take_succ_eq_append_getElem hs
  rw [show j - 1 + 1 = j by omega] at this
  rw [this, steps_get l (j - 1) hs (by omega), df]
  simp [show j - 1 + 1 = j by omega, h, show j - 1 < l.length by omega]

def StepsRel (l : List Int) (w : World) (v i : Value) (wr : World) : Prop :=
  ∃ j : Nat, 1 ≤ j ∧ j ≤ l.length + 1 ∧ i = .int .i64 (j : Int) ∧ wr.ownsRow w.heap.size 2 1 v ((steps l).take (j - 1)).length (((steps l).take (j - 1)).map vi64) ∧ Below w.heap.size w wr

set_option maxRecDepth 100000 in
set_option maxHeartbeats 4000000 in
theorem refsteps_any (v : Value) (l : List Int) (w : World) (hlen : l.length ≤ 5000) (hr : Reads w vi64 v l) :
    Calls Try.prog 25 #[v] w (NewInts (steps l) w) := by
  obtain ⟨i0, hi, hz0, hz1, hz2⟩ := info_parts info_i64c
  obtain ⟨ad, cap, rfl⟩ := hr.slice
  go_enter Try.func25, Try.ntmps25
  go_wp2_with fail
  go_loopw [3, 4] (fun v i wr => StepsRel l w v i wr) (fun _ i _ => l.length + 1 - (intOf i).toNat)
  case atStart => exact ⟨1, Nat.le_refl _, by omega, rfl, by simpa using World.ownsRow_nil _ _ _ _, Below.refl _ _⟩
  case round =>
    obtain ⟨j, hj1, hj, rfl, hown, hbel⟩ := hrel
    have hB := hbel.size
    by_cases hlt : j < l.length
    · obtain ⟨b, off, rfl, hc1⟩ := (hr.below hbel (Nat.le_refl _)).elem hlt
      obtain ⟨b', off', he, hc0⟩ := (hr.below hbel (Nat.le_refl _)).elem (k := j - 1) (by omega)
      injection he with he
      injection he with he1 he2
      subst he1 he2
      have htk : Hid ((steps l).take (j + 1 - 1) = (steps l).take (j - 1) ++ [wsub l[j] (l[j - 1]'(by omega))]) := by
        rw [Hid, Nat.add_sub_cancel, steps_take l j hj1 hlt, df]
        simp [hlt, show j - 1 < l.length by omega]
      have hsl : ((steps l).take (j - 1)).length ≤ 5000 := by rw [List.length_take, steps_length]; omega
      generalize (steps l).take (j - 1) = xs at hown htk hsl
      generalize l[j] = x1 at hc1 htk
      generalize l[j - 1]'(by omega) = x0 at hc0 htk
      have hc1' : wr.cell? ⟨b, off + j, none⟩ = some (.int .i64 x1) := hc1
      have hc0' : wr.cell? ⟨b, off + (j - 1), none⟩ = some (.int .i64 x0) := hc0
      have hbs : b < wr.heap.size := World.block_lt_of_cell? wr ⟨b, off + j, none⟩ hc1
      have hw1 : IntKind.i64.wrap ((j : Int) - 1) = ((j - 1 : Nat) : Int) := by rw [IntKind.wrap_i64]; omega
      have hw2 : IntKind.i64.wrap (x1 - x0) = wsub x1 x0 := by rw [IntKind.wrap_i64]; unfold wsub wrap64; rfl
      have hj0' : (0 : Int) ≤ ((j - 1 : Nat) : Int) := by omega
      have hjl' : ((j - 1 : Nat) : Int) < (l.length : Int) := by omega
      have hj0 : (0 : Int) ≤ (j : Int) := by omega
      have hjl : (j : Int) < (l.length : Int) := by omega
      clear hc1 hc0 hr
      generalize wsub x1 x0 = y at hw2 htk
      go_wp2_with fail
      refine region_tail 12 (by kernel_rfl) (fun i => ([Spec.is u3, Spec.is (.slice (some ⟨b, off, none⟩) l.length cap), Spec.is (.int .i64 (j : Int)), Spec.is (.pointer (some ⟨b, off + j, none⟩)), Spec.is (.int .i64 x1), Spec.is (.slice (some ⟨b, off, none⟩) l.length cap), Spec.is (.int .i64 (j : Int)), Spec.is (.int .i64 ((j - 1 : Nat) : Int)), Spec.is (.pointer (some ⟨b, off + (j - 1), none⟩)), Spec.is (.int .i64 x0), Spec.is (.int .i64 y), Spec.rd vi64 [y]] : List Spec).getD i Spec.any) (by kernel_rfl) (by kernel_rfl) (opsN_all ?_) ?_
      · refine ⟨?_, ?_, ?_, ?_, ?_, ?_, ?_, ?_, ?_, ?_, ?_, ?_, trivial⟩
        · intro ho a w hb hd hold
          have x3 : a.tmps.getD 3 undef = u3 := hold 3 rfl
          exact ob_is ho (met_none rfl) (by go_simp) rfl
        · intro ho a w hb hd hold
          have x3 : a.tmps.getD 0 undef = .slice (some ⟨b, off, none⟩) l.length cap := hold 0 rfl
          exact ob_is ho (met_none rfl) (by go_simp) rfl
        · intro ho a w hb hd hold
          have x3 : a.tmps.getD 4 undef = .int .i64 (j : Int) := hold 4 rfl
          exact ob_is ho (met_none rfl) (by go_simp) rfl
        · intro ho a w hb hd hold
          have x12 : a.tmps.getD 12 undef = .slice (some ⟨b, off, none⟩) l.length cap := hd 1 rfl
          have x13 : a.tmps.getD 13 undef = .int .i64 (j : Int) := hd 2 rfl
          exact ob_is ho (met_none rfl) (by go_simp) rfl
        · intro ho a w hb hd hold
          have x14 : a.tmps.getD 14 undef = .pointer (some ⟨b, off + j, none⟩) := hd 3 rfl
          have c0 : w.cell? ⟨b, off + j, none⟩ = some (.int .i64 x1) := (hb.cell (p := ⟨b, off + j, none⟩) hbs).trans hc1'
          exact ob_is ho (met_none rfl) (by go_simp) rfl
        · intro ho a w hb hd hold
          have x3 : a.tmps.getD 0 undef = .slice (some ⟨b, off, none⟩) l.length cap := hold 0 rfl
          exact ob_is ho (met_none rfl) (by go_simp) rfl
        · intro ho a w hb hd hold
          have x3 : a.tmps.getD 4 undef = .int .i64 (j : Int) := hold 4 rfl
          exact ob_is ho (met_none rfl) (by go_simp) rfl
        · intro ho a w hb hd hold
          have x17 : a.tmps.getD 17 undef = .int .i64 (j : Int) := hd 6 rfl
          exact ob_is ho (met_none rfl) (by go_simp) rfl
        · intro ho a w hb hd hold
          have x16 : a.tmps.getD 16 undef = .slice (some ⟨b, off, none⟩) l.length cap := hd 5 rfl
          have x18 : a.tmps.getD 18 undef = .int .i64 ((j - 1 : Nat) : Int) := hd 7 rfl
          exact ob_is ho (met_none rfl) (by go_simp) rfl
        · intro ho a w hb hd hold
          have x19 : a.tmps.getD 19 undef = .pointer (some ⟨b, off + (j - 1), none⟩) := hd 8 rfl
          have c0 : w.cell? ⟨b, off + (j - 1), none⟩ = some (.int .i64 x0) := (hb.cell (p := ⟨b, off + (j - 1), none⟩) hbs).trans hc0'
          exact ob_is ho (met_none rfl) (by go_simp) rfl
        · intro ho a w hb hd hold
          have x15 : a.tmps.getD 15 undef = .int .i64 x1 := hd 4 rfl
          have x20 : a.tmps.getD 20 undef = .int .i64 x0 := hd 9 rfl
          exact ob_is ho (met_none rfl) (by go_simp) rfl
        · intro ho a w hb hd hold
          have x21 : a.tmps.getD 21 undef = .int .i64 y := hd 10 rfl
          have x21' : (a.tmps[21]?).getD undef = .int .i64 y := by simpa using x21
          exact ob_val (v := .slice (some ⟨w.heap.size, 0, none⟩) 1 1) (w' := w.alloc (.cells #[.int .i64 y] 2)) ho (met_none rfl) (by go_simp) ((Below.refl _ _).alloc (Nat.le_refl _) _) (Reads.built w _ _ 1 vi64 [y] rfl rfl (by simp [maxLen]))
      · intro a' w' hb hS hold hsz hdf
        have x11 : a'.tmps.getD 11 undef = u3 := hS 0 _ (by decide) rfl
        have x22 : Reads w' vi64 (a'.tmps.getD 22 undef) [y] := hS 11 _ (by decide) rfl
        have hown' := owns_below hown hb
        have hBel' := hbel.trans (hb.mono hB)
        have hBsz := hBel'.size
        obtain ⟨g, hg⟩ : ∃ g : Nat → Value, ∀ t, a'.tmps.getD t undef = g t := ⟨_, fun _ => rfl⟩
        have hfr := frame_eq 11 23 g hsz hdf (by decide) (of_decide_eq_true (by kernel_rfl)) (fun t ht => hold t (isDstN_out (lo := 11) (hi := 23) (by kernel_rfl) ht)) (fun t _ _ => hg t)
        rw [hg] at x11 x22
        clear hg hS hold hsz hdf hb hc0' hc1' hown
        subst hfr
        simp only [List.take_succ_cons, List.take_zero, List.drop_succ_cons, List.drop_zero, List.range', List.map_cons, List.map_nil, List.cons_append, List.nil_append, Nat.reduceAdd, Nat.reduceSub]
        generalize g 11 = y11 at x11
        generalize g 22 = y22 at x22
        subst x11
        go_wp2_with (at_builtin; refine wpList_extend rfl (.tmp 11) (.tmp 22) 22 rfl w.heap.size 2 i0 _ 8 Try.underlying22 hi hz0 hz1 hz2 rfl vi64 xs [y] _ _ (fun _ => rfl) rfl hown' rfl x22 (by simp only [maxLen, List.length_cons, List.length_nil]; omega) (by simp only [List.length_cons, List.length_nil]; omega) hBsz ?_; intro v' w2 hown2 hb2 _)
        go_roundw
        case rel => exact ⟨j + 1, by omega, by omega, by go_num, own_as hown2 htk.out.symm, hBel'.trans hb2⟩
        case measure => simp [intOf]; omega
    · have hst : (steps l).take (j - 1) = steps l := List.take_of_length_le (by rw [steps_length]; omega)
      rw [hst] at hown
      go_wp2_with fail
      go_ret
      exact ⟨_, rfl, hown, hbel⟩

def RefAlikeRel (l : List Int) (w : World) (i : Value) (wr : World) : Prop :=
  ∃ j : Nat, 1 ≤ j ∧ j ≤ l.length + 1 ∧ i = .int .i64 (j : Int) ∧ (∀ i, i < j → i < l.length → l.getD i 0 = l.getD 0 0) ∧ ∃ m, wr = w.drewN m

set_option maxRecDepth 100000 in
theorem refalike_any (v : Value) (l : List Int) (w : World) (hlen : l.length ≤ 5000) (hr : Reads w vi64 v l) :
    Calls Try.prog 26 #[v] w fun e w' => (∃ t : Bool, e = .returned (.bool t) ∧ Hid (t = true ↔ AlikeL l)) ∧ ∃ m, w' = w.drewN m := by
  obtain ⟨ad, cap, rfl⟩ := hr.slice
  go_enter Try.func26, Try.ntmps26
  go_wp2_with fail
  go_loopw [3] (fun i wr => RefAlikeRel l w i wr) (fun i _ => l.length + 1 - (intOf i).toNat)
  case atStart => exact ⟨1, Nat.le_refl _, by omega, rfl, fun i h _ => by rw [show i = 0 by omega], 0, rfl⟩
  case round =>
    obtain ⟨j, hj1, hj, rfl, hall, m, rfl⟩ := hrel
    have hallH := Lib.hid hall
    clear hall
    by_cases hlt : j < l.length
    · obtain ⟨b, off, rfl, hc1⟩ := hr.elem hlt
      obtain ⟨b', off', he, hc0⟩ := hr.elem (k := 0) (by omega)
      injection he with he
      injection he with he1 he2
      subst he1 he2
      have hg1 : Hid (l.getD j 0 = l[j]) := by rw [Hid]; simp [hlt]
      have hg0 : Hid (l.getD 0 0 = l[0]'(by omega)) := by rw [Hid]; simp [show 0 < l.length by omega]
      generalize l[j] = x1 at hc1 hg1
      generalize l[0]'(by omega) = x0 at hc0 hg0
      have hc1' : w.cell? ⟨b, off + j, none⟩ = some (.int .i64 x1) := hc1
      have hc0' : w.cell? ⟨b, off, none⟩ = some (.int .i64 x0) := hc0
      have hj0 : (0 : Int) ≤ (j : Int) := by omega
      have hjl : (j : Int) < (l.length : Int) := by omega
      have h0l : (0 : Int) < (l.length : Int) := by omega
      clear hc1 hc0
      by_cases heq : x1 = x0
      · subst heq
        go_wp2_with fail
        go_quiet (fail)
        go_wp2_with fail
        go_roundw
        case rel =>
          refine ⟨j + 1, by omega, by omega, by go_num, fun i h1 h2 => ?_, m + nq, rfl⟩
          by_cases hij : i = j
          · rw [hij, hg1.out, hg0.out]
          · exact hallH.out i (by omega) h2
        case measure => simp [intOf]; omega
      · have hne : (x1 != x0) = true := by simp [heq]
        have hno : Hid (¬ AlikeL l) := Lib.hid fun h => heq (by have := h j (Nat.zero_le _) hlt; simp only [hg1.out, hg0.out] at this; exact this)
        go_wp2_with fail
        go_quiet (fail)
        go_wp2_with fail
        go_ret
        exact ⟨⟨false, rfl, Lib.hid ⟨fun h => (by cases h), fun h => absurd h hno.out⟩⟩, m + nq, by rw [World.drewN_drewN]⟩
    · have hyes : Hid (AlikeL l) := Lib.hid fun i _ hi => hallH.out i (by omega) hi
      go_wp2_with fail
      go_ret
      exact ⟨⟨true, rfl, Lib.hid ⟨fun _ => hyes.out, fun _ => rfl⟩⟩, m, rfl⟩

def RefAllRel (l : List Int) (w : World) (v i : Value) (wr : World) : Prop :=
  ∃ j : Nat, j ≤ l.length ∧ i = .int .i64 (j : Int) ∧ wr.ownsRow w.heap.size 5 1 v (allBytes (l.take j)).length ((allBytes (l.take j)).map b8) ∧ Below w.heap.size w wr

set_option maxRecDepth 100000 in
set_option maxHeartbeats 4000000 in
theorem refall_any (v : Value) (l : List Int) (w : World) (hl : ∀ n ∈ l, I64 n) (hlen : l.length ≤ 5000) (hr : Reads w vi64 v l) :
    Calls Try.prog 27 #[v] w (NewBytes (allBytes l) w) := by
  obtain ⟨i0, hi, hz0, hz1, hz2⟩ := info_parts info_u8
  obtain ⟨ad, cap, rfl⟩ := hr.slice
  go_enter Try.func27, Try.ntmps27
  go_wp2_with fail
  go_loopw [3, 4] (fun v i wr => RefAllRel l w v i wr) (fun _ i _ => l.length - (intOf i).toNat)
  case atStart => exact ⟨0, Nat.zero_le _, rfl, World.ownsRow_nil _ _ _ _, Below.refl _ _⟩
  case round =>
    obtain ⟨j, hj, rfl, hown, hbel⟩ := hrel
    have hB := hbel.size
    by_cases hlt : j < l.length
    · obtain ⟨b, off, rfl, hc⟩ := (hr.below hbel (Nat.le_refl _)).elem hlt
      have hx64 := hl l[j] (List.getElem_mem hlt)
      have htk : Hid (allBytes (l.take (j + 1)) = allBytes (l.take j) ++ Lib.uvarint (Lib.zigzag l[j])) := by
        rw [Hid, List.take_succ_eq_append_getElem hlt, allBytes_append]
        simp [allBytes]
      have hal : (allBytes (l.take j)).length ≤ 50000 := by
        have := allBytes_length (l := l.take j) (fun n hn => hl n (List.mem_of_mem_take hn))
        rw [List.length_take] at this
        omega
      generalize allBytes (l.take j) = xs at hown htk hal
      generalize l[j] = x at hc hx64 htk
      have hc' : wr.cell? ⟨b, off + j, none⟩ = some (.int .i64 x) := hc
      have hul : (Lib.uvarint (Lib.zigzag x)).length ≤ 10 := ulen_le hx64.zigzag
      clear hc
      go_wp2_with fail
      refine (refzig_any x wr hx64).mono ?_
      rintro e w' ⟨rfl, rfl⟩
      go_wp2_with fail
      refine (refbytes_any _ wr hx64.zigzag).mono ?_
      rintro e w2 ⟨v2, rfl, hown2, hb2⟩
      have hr2 := Reads.of_owns hown2
      have hown' := owns_below hown hb2
      have hBel' := hbel.trans (hb2.mono hB)
      have hBs := hBel'.size
      clear hown hown2
      go_wp2_with (at_builtin; refine wpList_extend rfl (.tmp 11) (.tmp 17) 24 rfl w.heap.size 5 i0 _ 1 Try.underlying24 hi hz0 hz1 hz2 rfl b8 xs (Lib.uvarint (Lib.zigzag x)) _ _ (fun _ => rfl) rfl hown' rfl hr2 (by simp only [maxLen]; omega) (by omega) hBs ?_; intro v' w3 hown3 hb3 _)
      go_roundw
      case rel => exact ⟨j + 1, hlt, by go_num, own_asb hown3 htk.out.symm, hBel'.trans hb3⟩
      case measure => simp [intOf]; omega
    · have hjl : j = l.length := by omega
      subst hjl
      rw [List.take_length] at hown
      go_wp2_with fail
      go_ret
      exact ⟨_, rfl, hown, hbel⟩
end Go.Proofs.Ytgegbfhjophdfaa
