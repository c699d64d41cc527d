/- The reference's As: the walk. -/
import Derived.Test.YtgegbfhjophdfaaCo
import Derived.Test.YtgegbfhjophdfaaCh
import Derived.Deep.CutBlock
namespace Go.Proofs.Ytgegbfhjophdfaa
open Go Go.RowKit

theorem steps_getD (l : List Int) (i : Nat) (h : i + 1 < l.length) : (steps l).getD i 0 = df l (i + 1) := by
  have h1 : i < (steps l).length := by rw [steps_length]; omega
  rw [List.getD_eq_getElem?_getD, List.getElem?_eq_getElem h1, Option.getD_some, steps_get l i h1 h, df]
  simp [h, show i < l.length by omega]
theorem alike_steps {l : List Int} (h2 : 2 ≤ l.length) : AlikeL (steps l) ↔ FlatB (df l) 1 l.length := by
  constructor
  · intro h i h1 hi
    have := h (i - 1) (Nat.zero_le _) (by rw [steps_length]; omega)
    simp only at this
    rw [steps_getD l (i - 1) (by omega), steps_getD l 0 (by omega), show i - 1 + 1 = i by omega] at this
    exact this
  · intro h i _ hi
    rw [steps_length] at hi
    simp only
    rw [steps_getD l i (by omega), steps_getD l 0 (by omega)]
    exact h (i + 1) (by omega) (by omega)
theorem steps_head {l : List Int} (h2 : 2 ≤ l.length) : ∃ h : 0 < (steps l).length, (steps l)[0] = df l 1 := by
  have h1 : 0 < (steps l).length := by rw [steps_length]; omega
  refine ⟨h1, ?_⟩
  have := steps_getD l 0 (by omega)
  rw [List.getD_eq_getElem?_getD, List.getElem?_eq_getElem h1, Option.getD_some] at this
  exact this
theorem firstL_eq {l : List Int} (h : 1 ≤ l.length) : firstL l = [l.getD 0 0] ++ steps l := by
  match l, h with
  | a :: r, _ => rfl
theorem secondL_eq {l : List Int} (h : 2 ≤ l.length) : secondL l = [l.getD 0 0, df l 1] ++ steps (steps l) := by
  match l, h with
  | a :: b :: r, _ => simp [secondL, firstL, steps, df]

theorem asL_kind {kind : Int} {l x : List Int} (hk : kindL kind l = some x) (hl : l.length ≤ 4096) : asL kind l = some ([UInt8.ofNat kind.toNat] ++ Lib.uvarint l.length ++ allBytes x) := by rw [asL, if_neg (by omega), hk]; rfl

set_option maxRecDepth 100000 in
theorem refAs_long (kind : Int) (v : Value) (l : List Int) (w : World) (hbig : 4096 < l.length) (hr : Reads w vi64 v l) :
    Calls Try.prog 10 #[.int .i64 kind, v] w (AsEnd (asL kind l) w) := by
  have ha : asL kind l = none := asL_long hbig kind
  have HA := Lib.hid ha
  clear ha
  obtain ⟨ad, cap, rfl⟩ := hr.slice
  go_enter Try.func10, Try.ntmps10
  go_wp2_with fail
  go_ret2
  rw [HA.out]
  exact ⟨_, rfl, World.ownsRow_nil _ _ _ _, Below.refl _ _⟩

set_option maxRecDepth 100000 in
theorem refAs_out (kind : Int) (v : Value) (l : List Int) (w : World) (hk : kind < 0 ∨ 3 < kind) (hlen : l.length ≤ 4096) (hr : Reads w vi64 v l) :
    Calls Try.prog 10 #[.int .i64 kind, v] w (AsEnd (asL kind l) w) := by
  have ha : asL kind l = none := asL_out kind hk
  have HA := Lib.hid ha
  clear ha
  have hS := refsteps_any v l w (by omega) hr
  obtain ⟨ad, cap, rfl⟩ := hr.slice
  have k0 : (kind == 0) = false := by rw [beq_eq_false_iff_ne]; omega
  have k1 : (kind == 1) = false := by rw [beq_eq_false_iff_ne]; omega
  have k2 : (kind == 2) = false := by rw [beq_eq_false_iff_ne]; omega
  have k3 : (kind == 3) = false := by rw [beq_eq_false_iff_ne]; omega
  clear hk
  go_enter Try.func10, Try.ntmps10
  go_wp2_with fail
  refine hS.mono ?_
  rintro e w1 ⟨v1, rfl, hown1, hb1⟩
  clear hS
  go_wp2_with fail
  go_ret2
  rw [HA.out]
  exact ⟨_, rfl, World.ownsRow_nil _ _ _ _, hb1⟩

set_option maxRecDepth 100000 in
set_option maxHeartbeats 4000000 in
theorem refAs_0 (v : Value) (l : List Int) (w : World) (hl : ∀ n ∈ l, I64 n) (hlen : l.length ≤ 4096) (hr : Reads w vi64 v l) :
    Calls Try.prog 10 #[.int .i64 0, v] w (AsEnd (asL 0 l) w) := by
  obtain ⟨i0, hi, hz0, hz1, hz2⟩ := info_parts info_u8
  obtain ⟨j0, gi, gz0, gz1, gz2⟩ := info_parts info_i64c
  have hu : U64 l.length := by unfold U64; omega
  have hul : (Lib.uvarint l.length).length ≤ 10 := ulen_le hu
  have hdi := steps_i64 l
  have hdl : (steps l).length ≤ l.length := by rw [steps_length]; omega
  have hS := refsteps_any v l w (by omega) hr
  obtain ⟨ad, cap, rfl⟩ := hr.slice
  obtain ⟨hc1, hc2⟩ := hr.len_cap
  simp only [maxLen] at hc2
  by_cases h1 : l.length < 1
  · have HA : Hid (asL 0 l = none) := Lib.hid (asL_no (by rw [kindL, if_pos rfl, kind0, if_neg (by omega)]))
    go_enter Try.func10, Try.ntmps10
    go_wp2_with fail
    refine hS.mono ?_
    rintro e w1 ⟨v1, rfl, hown1, hb1⟩
    clear hS
    have hbel := hb1
    go_wp2_with fail
    go_ret2
    rw [HA.out]
    exact ⟨_, rfl, World.ownsRow_nil _ _ _ _, hbel⟩
  go_enter Try.func10, Try.ntmps10
  go_wp2_with fail
  refine hS.mono ?_
  rintro e w1 ⟨v1, rfl, hown1, hb1⟩
  clear hS
  have hrl1 := hr.below hb1 (Nat.le_refl _)
  have hAl := refalike_any _ l w1 (by omega) hrl1
  go_wp2_with fail
  refine hAl.mono ?_
  rintro e w2 ⟨⟨t, rfl, ht⟩, m, rfl⟩
  clear hAl
  have hbel : Below w.heap.size w (w1.drewN m) := Below.drewN hb1 m
  have hrl2 := hrl1.drewN m
  generalize w1.drewN m = W at hbel hrl2
  clear hb1 hrl1
  cases t with
  | false =>
    have HA : Hid (asL 0 l = none) := Lib.hid (asL_no (by rw [kindL, if_pos rfl, kind0, if_neg (fun h => by have := ht.out.2 h.2; cases this)]))
    clear ht
    go_wp2_with fail
    go_ret2
    rw [HA.out]
    exact ⟨_, rfl, World.ownsRow_nil _ _ _ _, hbel⟩
  | true =>
    have HA : Hid (asL 0 l = some ([0] ++ Lib.uvarint l.length ++ allBytes (l.take 1))) := Lib.hid (asL_kind (by rw [kindL, if_pos rfl, kind0, if_pos ⟨by omega, ht.out.1 rfl⟩]) hlen)
    have hx := hrl2.head 1 (by omega)
    have hxi : ∀ n ∈ l.take 1, I64 n := fun n hn => hl n (List.mem_of_mem_take hn)
    have hxl : (l.take 1).length ≤ 1 := by rw [List.length_take]; omega
    clear ht hown1
    go_upto_region 25 with fail
    have hal := allBytes_length hxi
    have hbW := hbel.size
    have hA0 : Below W.heap.size W (W.alloc (.cells #[.int .u8 0] 5)) := (Below.refl _ _).alloc (Nat.le_refl _) _
    have hown0 : (W.alloc (.cells #[.int .u8 0] 5)).ownsRow W.heap.size 5 1 (.slice (some ⟨W.heap.size, 0, none⟩) 1 1) ([0] : List UInt8).length (([0] : List UInt8).map b8) := World.ownsRow_lit W _ 1 (Nat.le_refl _) (by simp [maxLen]) rfl
    have hBy := refbytes_any l.length (W.alloc (.cells #[.int .u8 0] 5)) hu
    go_wp2_with fail
    refine hBy.mono ?_
    rintro e W2 ⟨v2, rfl, hown2, hb2⟩
    have hr2 := Reads.of_owns hown2
    have hownX := owns_below hown0 hb2
    have hB2 := hA0.trans (hb2.mono hA0.size)
    have hB2s := hB2.size
    clear hown0 hown2 hA0 hb2 hBy
    go_wp2_with (at_builtin; refine wpList_extend rfl (.tmp 77) (.tmp 80) 24 rfl W.heap.size 5 i0 _ 1 Try.underlying24 hi hz0 hz1 hz2 rfl b8 [0] (Lib.uvarint l.length) _ _ (fun _ => rfl) rfl hownX rfl hr2 (by simp only [maxLen, List.length_cons, List.length_nil]; omega) (by simp only [List.length_cons, List.length_nil]; omega) hB2s ?_; intro v3 W3 hown3 hb3 _)
    have hB3 := hB2.trans hb3
    refine (refall_any _ (l.take 1) W3 hxi (by omega) (hx.below hB3 (Nat.le_refl _))).mono ?_
    rintro e W4 ⟨v4, rfl, hown4, hb4⟩
    have hr4 := Reads.of_owns hown4
    have hownY := owns_below hown3 hb4
    have hB4 := hB3.trans (hb4.mono hB3.size)
    have hB4s := hB4.size
    have hl3 : ([0] ++ Lib.uvarint l.length).length ≤ 11 := by simp only [List.length_append, List.length_cons, List.length_nil]; omega
    clear hown3 hown4 hb3 hb4 hB2 hB3 hownX hr2
    go_wp2_with (at_builtin; refine wpList_extend rfl (.tmp 82) (.tmp 84) 24 rfl W.heap.size 5 i0 _ 1 Try.underlying24 hi hz0 hz1 hz2 rfl b8 ([0] ++ Lib.uvarint l.length) (allBytes (l.take 1)) _ _ (fun _ => rfl) rfl hownY rfl hr4 (by simp only [maxLen]; omega) (by omega) hB4s ?_; intro v5 W5 hown5 hb5 _)
    go_ret2
    rw [HA.out]
    exact ⟨v5, rfl, hown5.mono hbW, hbel.trans ((hB4.trans hb5).mono hbW)⟩

set_option maxRecDepth 100000 in
set_option maxHeartbeats 4000000 in
theorem refAs_1 (v : Value) (l : List Int) (w : World) (hl : ∀ n ∈ l, I64 n) (hlen : l.length ≤ 4096) (hr : Reads w vi64 v l) :
    Calls Try.prog 10 #[.int .i64 1, v] w (AsEnd (asL 1 l) w) := by
  obtain ⟨i0, hi, hz0, hz1, hz2⟩ := info_parts info_u8
  obtain ⟨j0, gi, gz0, gz1, gz2⟩ := info_parts info_i64c
  have hu : U64 l.length := by unfold U64; omega
  have hul : (Lib.uvarint l.length).length ≤ 10 := ulen_le hu
  have hdi := steps_i64 l
  have hdl : (steps l).length ≤ l.length := by rw [steps_length]; omega
  have hS := refsteps_any v l w (by omega) hr
  obtain ⟨ad, cap, rfl⟩ := hr.slice
  by_cases h1 : l.length < 2
  · have HA : Hid (asL 1 l = none) := Lib.hid (asL_no (by rw [kindL, if_neg (by decide), if_pos rfl, kind1, if_neg (by omega)]))
    go_enter Try.func10, Try.ntmps10
    go_wp2_with fail
    refine hS.mono ?_
    rintro e w1 ⟨v1, rfl, hown1, hb1⟩
    clear hS
    have hbel := hb1
    go_wp2_with fail
    go_ret2
    rw [HA.out]
    exact ⟨_, rfl, World.ownsRow_nil _ _ _ _, hbel⟩
  go_enter Try.func10, Try.ntmps10
  go_wp2_with fail
  refine hS.mono ?_
  rintro e w1 ⟨v1, rfl, hown1, hb1⟩
  clear hS
  have hrd1 : Reads w1 vi64 v1 (steps l) := Reads.of_owns hown1
  have hrl1 := hr.below hb1 (Nat.le_refl _)
  have hAl := refalike_any _ (steps l) w1 (by omega) hrd1
  clear hown1
  go_wp2_with fail
  refine hAl.mono ?_
  rintro e w2 ⟨⟨t, rfl, ht⟩, m, rfl⟩
  clear hAl
  have hbel : Below w.heap.size w (w1.drewN m) := Below.drewN hb1 m
  have hrl := hrl1.drewN m
  have hrd := hrd1.drewN m
  generalize w1.drewN m = W at hbel hrl hrd ⊢
  clear hb1 hrl1 hrd1 hr
  cases t with
  | false =>
    have HA : Hid (asL 1 l = none) := Lib.hid (asL_no (by rw [kindL, if_neg (by decide), if_pos rfl, kind1, if_neg (fun h => by have := ht.out.2 ((alike_steps h.1).2 h.2); cases this)]))
    clear ht hrd hrl
    go_wp2_with fail
    go_ret2
    rw [HA.out]
    exact ⟨_, rfl, World.ownsRow_nil _ _ _ _, hbel⟩
  | true =>
    have HA : Hid (asL 1 l = some ([1] ++ Lib.uvarint l.length ++ allBytes [l.getD 0 0, df l 1])) := Lib.hid (asL_kind (by rw [kindL, if_neg (by decide), if_pos rfl, kind1, if_pos ⟨by omega, (alike_steps (by omega)).1 (ht.out.1 rfl)⟩]) hlen)
    clear ht
    have hdr : Reads W vi64 v1 (steps l) := hrd
    obtain ⟨a7, c7, rfl⟩ := hdr.slice
    obtain ⟨hsl0, hsh⟩ := steps_head (l := l) (by omega)
    obtain ⟨b7, off7, rfl, hq7'⟩ := hdr.elem hsl0
    obtain ⟨b, off, rfl, hq0'⟩ := hrl.elem (k := 0) (by omega)
    have hx0 : l[0]'(by omega) = l.getD 0 0 := by simp [show 0 < l.length by omega]
    have hx64 : I64 (l.getD 0 0) := by rw [← hx0]; exact hl _ (List.getElem_mem _)
    have hd64 : I64 (df l 1) := df_i64 l 1
    rw [hx0] at hq0'
    rw [hsh] at hq7'
    clear hx0 hsh
    generalize l.getD 0 0 = x0 at hq0' hx64 HA
    generalize df l 1 = d0 at hq7' hd64 HA
    have hq0 : W.cell? ⟨b, off, none⟩ = some (.int .i64 x0) := hq0'
    have hq7 : W.cell? ⟨b7, off7, none⟩ = some (.int .i64 d0) := hq7'
    have hbs : b < W.heap.size := World.block_lt_of_cell? W ⟨b, off, none⟩ hq0
    have hbs7 : b7 < W.heap.size := World.block_lt_of_cell? W ⟨b7, off7, none⟩ hq7
    have hl0' : (0 : Int) < (l.length : Int) := by omega
    have hlne : l ≠ [] := by
      intro h
      rw [h] at h1
      simp at h1
    have hs0' : (0 : Int) < ((steps l).length : Int) := by have := hsl0; omega
    clear hq0' hq7'
    clear hrl hrd hdr
    go_upto_region 15 with fail
    refine region_tail 7 (by kernel_rfl) (fun i => ([Spec.is (.slice (some ⟨b, off, none⟩) l.length cap), Spec.is (.pointer (some ⟨b, off, none⟩)), Spec.is (.int .i64 x0), Spec.is (.slice (some ⟨b7, off7, none⟩) (steps l).length c7), Spec.is (.pointer (some ⟨b7, off7, none⟩)), Spec.is (.int .i64 d0), Spec.rd vi64 [x0, d0]] : List Spec).getD i Spec.any) (by kernel_rfl) (by kernel_rfl) (opsN_all ?_) ?_
    · refine ⟨?_, ?_, ?_, ?_, ?_, ?_, ?_, trivial⟩
      · intro ho a w hb hd hold
        have x1 : a.tmps.getD 1 undef = .slice (some ⟨b, off, none⟩) l.length cap := hold 1 rfl
        exact ob_is ho (met_none rfl) (by go_simp) rfl
      · intro ho a w hb hd hold
        have y1 : a.tmps.getD 37 undef = .slice (some ⟨b, off, none⟩) l.length cap := hd 0 rfl
        exact ob_is ho (met_none rfl) (by go_simp) rfl
      · intro ho a w hb hd hold
        have y1 : a.tmps.getD 38 undef = .pointer (some ⟨b, off, none⟩) := hd 1 rfl
        have c0 : w.cell? ⟨b, off, none⟩ = some (.int .i64 x0) := (hb.cell (p := ⟨b, off, none⟩) hbs).trans hq0
        exact ob_is ho (met_none rfl) (by go_simp) rfl
      · intro ho a w hb hd hold
        have x7 : a.tmps.getD 7 undef = .slice (some ⟨b7, off7, none⟩) (steps l).length c7 := hold 7 rfl
        exact ob_is ho (met_none rfl) (by go_simp) rfl
      · intro ho a w hb hd hold
        have y1 : a.tmps.getD 40 undef = .slice (some ⟨b7, off7, none⟩) (steps l).length c7 := hd 3 rfl
        exact ob_is ho (met_none rfl) (by go_simp) rfl
      · intro ho a w hb hd hold
        have y1 : a.tmps.getD 41 undef = .pointer (some ⟨b7, off7, none⟩) := hd 4 rfl
        have c0 : w.cell? ⟨b7, off7, none⟩ = some (.int .i64 d0) := (hb.cell (p := ⟨b7, off7, none⟩) hbs7).trans hq7
        exact ob_is ho (met_none rfl) (by go_simp) rfl
      · intro ho a w hb hd hold
        have y1 : a.tmps.getD 39 undef = .int .i64 x0 := hd 2 rfl
        have y1' : (a.tmps[39]?).getD undef = .int .i64 x0 := by simpa using y1
        have y2 : a.tmps.getD 42 undef = .int .i64 d0 := hd 5 rfl
        have y2' : (a.tmps[42]?).getD undef = .int .i64 d0 := by simpa using y2
        exact ob_val (v := .slice (some ⟨w.heap.size, 0, none⟩) 2 2) (w' := w.alloc (.cells #[.int .i64 x0, .int .i64 d0] 2)) ho (met_none rfl) (by go_simp) ((Below.refl _ _).alloc (Nat.le_refl _) _) (Reads.built w _ _ 2 vi64 [x0, d0] rfl rfl (by simp [maxLen]))
    · intro a' w' hb hS hold hsz hdf
      have z2 : Reads w' vi64 (a'.tmps.getD 43 undef) [x0, d0] := hS 6 _ (by decide) rfl
      obtain ⟨g, hg⟩ : ∃ g : Nat → Value, ∀ t, a'.tmps.getD t undef = g t := ⟨_, fun _ => rfl⟩
      have hfr := frame_eq 37 44 g hsz hdf (by decide) (of_decide_eq_true (by kernel_rfl)) (fun t ht => hold t (isDstN_out (lo := 37) (hi := 44) (by kernel_rfl) ht)) (fun t _ _ => hg t)
      rw [hg] at z2
      have hbel' := hbel.trans (hb.mono hbel.size)
      clear hg hS hold hsz hdf hb hbel hbs hbs7 hq0 hq7
      subst hfr
      simp only [List.take_succ_cons, List.take_zero, List.drop_succ_cons, List.drop_zero, List.range', List.map_cons, List.map_nil, List.cons_append, List.nil_append, Nat.reduceAdd, Nat.reduceSub]
      generalize g 43 = y2 at z2
      have hbel := hbel'
      clear hbel'
      have hx := z2
      have hxi : ∀ n ∈ [x0, d0], I64 n := fun n hn => by
        simp only [List.mem_cons, List.not_mem_nil, or_false] at hn
        rcases hn with rfl | rfl
        · exact hx64
        · exact hd64
      have hxl : ([x0, d0] : List Int).length = 2 := rfl
      generalize w' = W at *
      clear z2
      go_upto_region 25 with fail
      have hal := allBytes_length hxi
      have hbW := hbel.size
      have hA0 : Below W.heap.size W (W.alloc (.cells #[.int .u8 1] 5)) := (Below.refl _ _).alloc (Nat.le_refl _) _
      have hown0 : (W.alloc (.cells #[.int .u8 1] 5)).ownsRow W.heap.size 5 1 (.slice (some ⟨W.heap.size, 0, none⟩) 1 1) ([1] : List UInt8).length (([1] : List UInt8).map b8) := World.ownsRow_lit W _ 1 (Nat.le_refl _) (by simp [maxLen]) rfl
      have hBy := refbytes_any l.length (W.alloc (.cells #[.int .u8 1] 5)) hu
      go_wp2_with fail
      refine hBy.mono ?_
      rintro e W2 ⟨v2, rfl, hown2, hb2⟩
      have hr2 := Reads.of_owns hown2
      have hownX := owns_below hown0 hb2
      have hB2 := hA0.trans (hb2.mono hA0.size)
      have hB2s := hB2.size
      clear hown0 hown2 hA0 hb2 hBy
      go_wp2_with (at_builtin; refine wpList_extend rfl (.tmp 77) (.tmp 80) 24 rfl W.heap.size 5 i0 _ 1 Try.underlying24 hi hz0 hz1 hz2 rfl b8 [1] (Lib.uvarint l.length) _ _ (fun _ => rfl) rfl hownX rfl hr2 (by simp only [maxLen, List.length_cons, List.length_nil]; omega) (by simp only [List.length_cons, List.length_nil]; omega) hB2s ?_; intro v3 W3 hown3 hb3 _)
      have hB3 := hB2.trans hb3
      refine (refall_any _ [x0, d0] W3 hxi (by omega) (hx.below hB3 (Nat.le_refl _))).mono ?_
      rintro e W4 ⟨v4, rfl, hown4, hb4⟩
      have hr4 := Reads.of_owns hown4
      have hownY := owns_below hown3 hb4
      have hB4 := hB3.trans (hb4.mono hB3.size)
      have hB4s := hB4.size
      have hl3 : ([1] ++ Lib.uvarint l.length).length ≤ 11 := by simp only [List.length_append, List.length_cons, List.length_nil]; omega
      clear hown3 hown4 hb3 hb4 hB2 hB3 hownX hr2
      go_wp2_with (at_builtin; refine wpList_extend rfl (.tmp 82) (.tmp 84) 24 rfl W.heap.size 5 i0 _ 1 Try.underlying24 hi hz0 hz1 hz2 rfl b8 ([1] ++ Lib.uvarint l.length) (allBytes [x0, d0]) _ _ (fun _ => rfl) rfl hownY rfl hr4 (by simp only [maxLen]; omega) (by omega) hB4s ?_; intro v5 W5 hown5 hb5 _)
      go_ret2
      rw [HA.out]
      exact ⟨v5, rfl, hown5.mono hbW, hbel.trans ((hB4.trans hb5).mono hbW)⟩

set_option maxRecDepth 100000 in
set_option maxHeartbeats 4000000 in
theorem refAs_2 (v : Value) (l : List Int) (w : World) (hl : ∀ n ∈ l, I64 n) (hlen : l.length ≤ 4096) (hr : Reads w vi64 v l) :
    Calls Try.prog 10 #[.int .i64 2, v] w (AsEnd (asL 2 l) w) := by
  obtain ⟨i0, hi, hz0, hz1, hz2⟩ := info_parts info_u8
  obtain ⟨j0, gi, gz0, gz1, gz2⟩ := info_parts info_i64c
  have hu : U64 l.length := by unfold U64; omega
  have hul : (Lib.uvarint l.length).length ≤ 10 := ulen_le hu
  have hdi := steps_i64 l
  have hdl : (steps l).length ≤ l.length := by rw [steps_length]; omega
  have hS := refsteps_any v l w (by omega) hr
  have hrv := hr
  obtain ⟨ad, cap, hv⟩ := hr.slice
  subst hv
  by_cases h0 : l.length = 0
  · have hnil : l = [] := List.eq_nil_of_length_eq_zero h0
    have hfe : firstL l = steps l := by rw [hnil]; rfl
    have HA : Hid (asL 2 l = some ([2] ++ Lib.uvarint l.length ++ allBytes (steps l))) := Lib.hid (by rw [← hfe]; exact asL_kind (by rw [kindL, if_neg (by decide), if_neg (by decide), if_pos rfl]) hlen)
    clear hfe hnil
    have h0' : ¬ 0 < l.length := by omega
    have hln : decide ((0 : Int) < (l.length : Int)) = false := decide_eq_false (by omega)
    clear h0
    go_enter Try.func10, Try.ntmps10
    go_wp2_with fail
    refine hS.mono ?_
    rintro e w1 ⟨v1, rfl, hown1, hb1⟩
    clear hS
    have hrd := Reads.of_owns hown1
    go_upto_region 25 with (at_builtin; refine wpList_extend rfl (.tmp 54) (.tmp 55) 22 rfl w1.heap.size 2 j0 _ 8 Try.underlying22 gi gz0 gz1 gz2 rfl vi64 [] (steps l) _ _ (fun _ => rfl) rfl (World.ownsRow_nil _ _ _ _) rfl hrd (by simp only [maxLen, List.length_nil]; omega) (by simp only [List.length_nil]; omega) (Nat.le_refl _) ?_; intro v8 W hown8 hb8 _)
    have hx : Reads W vi64 v8 (steps l) := Reads.of_owns hown8
    have hxi := hdi
    have hxl : (steps l).length ≤ 4096 := by omega
    have hbel := hb1.trans (hb8.mono hb1.size)
    clear hrd hown8 hb8 hb1 hown1
    have hal := allBytes_length hxi
    have hbW := hbel.size
    have hA0 : Below W.heap.size W (W.alloc (.cells #[.int .u8 2] 5)) := (Below.refl _ _).alloc (Nat.le_refl _) _
    have hown0 : (W.alloc (.cells #[.int .u8 2] 5)).ownsRow W.heap.size 5 1 (.slice (some ⟨W.heap.size, 0, none⟩) 1 1) ([2] : List UInt8).length (([2] : List UInt8).map b8) := World.ownsRow_lit W _ 1 (Nat.le_refl _) (by simp [maxLen]) rfl
    have hBy := refbytes_any l.length (W.alloc (.cells #[.int .u8 2] 5)) hu
    go_wp2_with fail
    refine hBy.mono ?_
    rintro e W2 ⟨v2, rfl, hown2, hb2⟩
    have hr2 := Reads.of_owns hown2
    have hownX := owns_below hown0 hb2
    have hB2 := hA0.trans (hb2.mono hA0.size)
    have hB2s := hB2.size
    clear hown0 hown2 hA0 hb2 hBy
    go_wp2_with (at_builtin; refine wpList_extend rfl (.tmp 77) (.tmp 80) 24 rfl W.heap.size 5 i0 _ 1 Try.underlying24 hi hz0 hz1 hz2 rfl b8 [2] (Lib.uvarint l.length) _ _ (fun _ => rfl) rfl hownX rfl hr2 (by simp only [maxLen, List.length_cons, List.length_nil]; omega) (by simp only [List.length_cons, List.length_nil]; omega) hB2s ?_; intro v3 W3 hown3 hb3 _)
    have hB3 := hB2.trans hb3
    refine (refall_any _ (steps l) W3 hxi (by omega) (hx.below hB3 (Nat.le_refl _))).mono ?_
    rintro e W4 ⟨v4, rfl, hown4, hb4⟩
    have hr4 := Reads.of_owns hown4
    have hownY := owns_below hown3 hb4
    have hB4 := hB3.trans (hb4.mono hB3.size)
    have hB4s := hB4.size
    have hl3 : ([2] ++ Lib.uvarint l.length).length ≤ 11 := by simp only [List.length_append, List.length_cons, List.length_nil]; omega
    clear hown3 hown4 hb3 hb4 hB2 hB3 hownX hr2
    go_wp2_with (at_builtin; refine wpList_extend rfl (.tmp 82) (.tmp 84) 24 rfl W.heap.size 5 i0 _ 1 Try.underlying24 hi hz0 hz1 hz2 rfl b8 ([2] ++ Lib.uvarint l.length) (allBytes (steps l)) _ _ (fun _ => rfl) rfl hownY rfl hr4 (by simp only [maxLen]; omega) (by omega) hB4s ?_; intro v5 W5 hown5 hb5 _)
    go_ret2
    rw [HA.out]
    exact ⟨v5, rfl, hown5.mono hbW, hbel.trans ((hB4.trans hb5).mono hbW)⟩
  have hfe : firstL l = [l.getD 0 0] ++ steps l := firstL_eq (by omega)
  have HA : Hid (asL 2 l = some ([2] ++ Lib.uvarint l.length ++ allBytes ([l.getD 0 0] ++ steps l))) := Lib.hid (by rw [← hfe]; exact asL_kind (by rw [kindL, if_neg (by decide), if_neg (by decide), if_pos rfl]) hlen)
  clear hfe
  have hlp : (0 : Int) < (l.length : Int) := by omega
  go_enter Try.func10, Try.ntmps10
  go_wp2_with fail
  refine hS.mono ?_
  rintro e w1 ⟨v1, rfl, hown1, hb1⟩
  clear hS
  have hrd := Reads.of_owns hown1
  obtain ⟨b, off, rfl, hc0⟩ := (hr.below hb1 (Nat.le_refl _)).elem (k := 0) (by omega)
  have hx0 : l[0]'(by omega) = l.getD 0 0 := by simp [show 0 < l.length by omega]
  have hx64 : I64 (l.getD 0 0) := by rw [← hx0]; exact hl _ (List.getElem_mem _)
  rw [hx0] at hc0
  clear hx0
  generalize l.getD 0 0 = x0 at hc0 hx64 HA
  have hc0' : w1.cell? ⟨b, off, none⟩ = some (.int .i64 x0) := hc0
  clear hc0
  go_upto_region 25 with (first
    | (at_builtin; refine wpList_push rfl (.tmp 48) (.tmp 52) 22 rfl w1.heap.size 2 j0 _ 8 Try.underlying22 gi gz0 gz1 gz2 rfl vi64 [] x0 _ _ rfl rfl rfl (World.ownsRow_nil _ _ _ _) rfl (by simp only [maxLen, List.length_nil]; omega) (by simp only [List.length_nil]; omega) (Nat.le_refl _) ?_; intro v7 W7 hown7 hb7 _; have hrd7 := hrd.below hb7 (Nat.le_refl _); have hs7 := hb7.size)
    | (at_builtin; refine wpList_extend rfl (.tmp 54) (.tmp 55) 22 rfl w1.heap.size 2 j0 _ 8 Try.underlying22 gi gz0 gz1 gz2 rfl vi64 [x0] (steps l) _ _ (fun _ => rfl) rfl hown7 rfl hrd7 (by simp only [maxLen, List.length_cons, List.length_nil]; omega) (by simp only [List.length_cons, List.length_nil]; omega) hs7 ?_; intro v8 W hown8 hb8 _))
  have hx : Reads W vi64 v8 ([x0] ++ steps l) := Reads.of_owns hown8
  have hxi : ∀ n ∈ [x0] ++ steps l, I64 n := fun n hn => by
    rcases List.mem_append.1 hn with h | h
    · obtain rfl : n = x0 := by simpa using h
      exact hx64
    · exact hdi n h
  have hxl : ([x0] ++ steps l).length ≤ 4097 := by simp only [List.length_append, List.length_cons, List.length_nil]; omega
  have hbel := hb1.trans ((hb7.trans hb8).mono hb1.size)
  clear hrd hown8 hb8 hb1 hown1 hown7 hb7 hrd7
  have hal := allBytes_length hxi
  have hbW := hbel.size
  have hA0 : Below W.heap.size W (W.alloc (.cells #[.int .u8 2] 5)) := (Below.refl _ _).alloc (Nat.le_refl _) _
  have hown0 : (W.alloc (.cells #[.int .u8 2] 5)).ownsRow W.heap.size 5 1 (.slice (some ⟨W.heap.size, 0, none⟩) 1 1) ([2] : List UInt8).length (([2] : List UInt8).map b8) := World.ownsRow_lit W _ 1 (Nat.le_refl _) (by simp [maxLen]) rfl
  have hBy := refbytes_any l.length (W.alloc (.cells #[.int .u8 2] 5)) hu
  go_wp2_with fail
  refine hBy.mono ?_
  rintro e W2 ⟨v2, rfl, hown2, hb2⟩
  have hr2 := Reads.of_owns hown2
  have hownX := owns_below hown0 hb2
  have hB2 := hA0.trans (hb2.mono hA0.size)
  have hB2s := hB2.size
  clear hown0 hown2 hA0 hb2 hBy
  go_wp2_with (at_builtin; refine wpList_extend rfl (.tmp 77) (.tmp 80) 24 rfl W.heap.size 5 i0 _ 1 Try.underlying24 hi hz0 hz1 hz2 rfl b8 [2] (Lib.uvarint l.length) _ _ (fun _ => rfl) rfl hownX rfl hr2 (by simp only [maxLen, List.length_cons, List.length_nil]; omega) (by simp only [List.length_cons, List.length_nil]; omega) hB2s ?_; intro v3 W3 hown3 hb3 _)
  have hB3 := hB2.trans hb3
  refine (refall_any _ ([x0] ++ steps l) W3 hxi (by omega) (hx.below hB3 (Nat.le_refl _))).mono ?_
  rintro e W4 ⟨v4, rfl, hown4, hb4⟩
  have hr4 := Reads.of_owns hown4
  have hownY := owns_below hown3 hb4
  have hB4 := hB3.trans (hb4.mono hB3.size)
  have hB4s := hB4.size
  have hl3 : ([2] ++ Lib.uvarint l.length).length ≤ 11 := by simp only [List.length_append, List.length_cons, List.length_nil]; omega
  clear hown3 hown4 hb3 hb4 hB2 hB3 hownX hr2
  go_wp2_with (at_builtin; refine wpList_extend rfl (.tmp 82) (.tmp 84) 24 rfl W.heap.size 5 i0 _ 1 Try.underlying24 hi hz0 hz1 hz2 rfl b8 ([2] ++ Lib.uvarint l.length) (allBytes ([x0] ++ steps l)) _ _ (fun _ => rfl) rfl hownY rfl hr4 (by simp only [maxLen]; omega) (by omega) hB4s ?_; intro v5 W5 hown5 hb5 _)
  go_ret2
  rw [HA.out]
  exact ⟨v5, rfl, hown5.mono hbW, hbel.trans ((hB4.trans hb5).mono hbW)⟩

set_option maxRecDepth 100000 in
set_option maxHeartbeats 4000000 in
theorem refAs_3 (v : Value) (l : List Int) (w : World) (hl : ∀ n ∈ l, I64 n) (hlen : l.length ≤ 4096) (hr : Reads w vi64 v l) :
    Calls Try.prog 10 #[.int .i64 3, v] w (AsEnd (asL 3 l) w) := by
  obtain ⟨i0, hi, hz0, hz1, hz2⟩ := info_parts info_u8
  obtain ⟨j0, gi, gz0, gz1, gz2⟩ := info_parts info_i64c
  have hu : U64 l.length := by unfold U64; omega
  have hul : (Lib.uvarint l.length).length ≤ 10 := ulen_le hu
  have hdi := steps_i64 l
  have hdl : (steps l).length ≤ l.length := by rw [steps_length]; omega
  have hS := refsteps_any v l w (by omega) hr
  obtain ⟨ad, cap, rfl⟩ := hr.slice
  by_cases h1 : l.length < 2
  · have HA : Hid (asL 3 l = none) := Lib.hid (asL_no (by rw [kindL, if_neg (by decide), if_neg (by decide), if_neg (by decide), if_pos rfl, kind3, if_neg (by omega)]))
    go_enter Try.func10, Try.ntmps10
    go_wp2_with fail
    refine hS.mono ?_
    rintro e w1 ⟨v1, rfl, hown1, hb1⟩
    clear hS
    have hbel := hb1
    go_wp2_with fail
    go_ret2
    rw [HA.out]
    exact ⟨_, rfl, World.ownsRow_nil _ _ _ _, hbel⟩
  have hfe : secondL l = [l.getD 0 0, df l 1] ++ steps (steps l) := secondL_eq (by omega)
  have HA : Hid (asL 3 l = some ([3] ++ Lib.uvarint l.length ++ allBytes ([l.getD 0 0, df l 1] ++ steps (steps l)))) := Lib.hid (by rw [← hfe]; exact asL_kind (by rw [kindL, if_neg (by decide), if_neg (by decide), if_neg (by decide), if_pos rfl, kind3, if_pos (by omega)]) hlen)
  clear hfe
  go_enter Try.func10, Try.ntmps10
  go_wp2_with fail
  refine hS.mono ?_
  rintro e w1 ⟨v1, rfl, hown1, hb1⟩
  clear hS
  have hrd : Reads w1 vi64 v1 (steps l) := Reads.of_owns hown1
  have hrl := hr.below hb1 (Nat.le_refl _)
  have hbel := hb1
  clear hown1 hb1 hr
  generalize w1 = W at hbel hrl hrd ⊢
  have hdr : Reads W vi64 v1 (steps l) := hrd
  obtain ⟨a7, c7, rfl⟩ := hdr.slice
  obtain ⟨hsl0, hsh⟩ := steps_head (l := l) (by omega)
  obtain ⟨b7, off7, rfl, hq7'⟩ := hdr.elem hsl0
  obtain ⟨b, off, rfl, hq0'⟩ := hrl.elem (k := 0) (by omega)
  have hx0 : l[0]'(by omega) = l.getD 0 0 := by simp [show 0 < l.length by omega]
  have hx64 : I64 (l.getD 0 0) := by rw [← hx0]; exact hl _ (List.getElem_mem _)
  have hd64 : I64 (df l 1) := df_i64 l 1
  rw [hx0] at hq0'
  rw [hsh] at hq7'
  clear hx0 hsh
  generalize l.getD 0 0 = x0 at hq0' hx64 HA
  generalize df l 1 = d0 at hq7' hd64 HA
  have hq0 : W.cell? ⟨b, off, none⟩ = some (.int .i64 x0) := hq0'
  have hq7 : W.cell? ⟨b7, off7, none⟩ = some (.int .i64 d0) := hq7'
  have hbs : b < W.heap.size := World.block_lt_of_cell? W ⟨b, off, none⟩ hq0
  have hbs7 : b7 < W.heap.size := World.block_lt_of_cell? W ⟨b7, off7, none⟩ hq7
  have hl0' : (0 : Int) < (l.length : Int) := by omega
  have hlne : l ≠ [] := by
    intro h
    rw [h] at h1
    simp at h1
  have hs0' : (0 : Int) < ((steps l).length : Int) := by have := hsl0; omega
  clear hq0' hq7'
  have hdd : (steps (steps l)).length ≤ (steps l).length := by rw [steps_length]; omega
  have hddi := steps_i64 (steps l)
  clear hrl hrd
  go_upto_region 23 with fail
  refine region_tail 8 (by kernel_rfl) (fun i => ([Spec.is (.slice none 0 0), Spec.is (.slice (some ⟨b, off, none⟩) l.length cap), Spec.is (.pointer (some ⟨b, off, none⟩)), Spec.is (.int .i64 x0), Spec.is (.slice (some ⟨b7, off7, none⟩) (steps l).length c7), Spec.is (.pointer (some ⟨b7, off7, none⟩)), Spec.is (.int .i64 d0), Spec.rd vi64 [x0, d0]] : List Spec).getD i Spec.any) (by kernel_rfl) (by kernel_rfl) (opsN_all ?_) ?_
  · refine ⟨?_, ?_, ?_, ?_, ?_, ?_, ?_, ?_, trivial⟩
    · intro ho a w hb hd hold
      have x8 : a.tmps.getD 8 undef = .slice none 0 0 := hold 8 rfl
      exact ob_is ho (met_none rfl) (by go_simp) rfl
    · intro ho a w hb hd hold
      have x1 : a.tmps.getD 1 undef = .slice (some ⟨b, off, none⟩) l.length cap := hold 1 rfl
      exact ob_is ho (met_none rfl) (by go_simp) rfl
    · intro ho a w hb hd hold
      have y1 : a.tmps.getD 62 undef = .slice (some ⟨b, off, none⟩) l.length cap := hd 1 rfl
      exact ob_is ho (met_none rfl) (by go_simp) rfl
    · intro ho a w hb hd hold
      have y1 : a.tmps.getD 63 undef = .pointer (some ⟨b, off, none⟩) := hd 2 rfl
      have c0 : w.cell? ⟨b, off, none⟩ = some (.int .i64 x0) := (hb.cell (p := ⟨b, off, none⟩) hbs).trans hq0
      exact ob_is ho (met_none rfl) (by go_simp) rfl
    · intro ho a w hb hd hold
      have x7 : a.tmps.getD 7 undef = .slice (some ⟨b7, off7, none⟩) (steps l).length c7 := hold 7 rfl
      exact ob_is ho (met_none rfl) (by go_simp) rfl
    · intro ho a w hb hd hold
      have y1 : a.tmps.getD 65 undef = .slice (some ⟨b7, off7, none⟩) (steps l).length c7 := hd 4 rfl
      exact ob_is ho (met_none rfl) (by go_simp) rfl
    · intro ho a w hb hd hold
      have y1 : a.tmps.getD 66 undef = .pointer (some ⟨b7, off7, none⟩) := hd 5 rfl
      have c0 : w.cell? ⟨b7, off7, none⟩ = some (.int .i64 d0) := (hb.cell (p := ⟨b7, off7, none⟩) hbs7).trans hq7
      exact ob_is ho (met_none rfl) (by go_simp) rfl
    · intro ho a w hb hd hold
      have y1 : a.tmps.getD 64 undef = .int .i64 x0 := hd 3 rfl
      have y1' : (a.tmps[64]?).getD undef = .int .i64 x0 := by simpa using y1
      have y2 : a.tmps.getD 67 undef = .int .i64 d0 := hd 6 rfl
      have y2' : (a.tmps[67]?).getD undef = .int .i64 d0 := by simpa using y2
      exact ob_val (v := .slice (some ⟨w.heap.size, 0, none⟩) 2 2) (w' := w.alloc (.cells #[.int .i64 x0, .int .i64 d0] 2)) ho (met_none rfl) (by go_simp) ((Below.refl _ _).alloc (Nat.le_refl _) _) (Reads.built w _ _ 2 vi64 [x0, d0] rfl rfl (by simp [maxLen]))
  · intro a' w' hb hS hold hsz hdf
    have z2 : Reads w' vi64 (a'.tmps.getD 68 undef) [x0, d0] := hS 7 _ (by decide) rfl
    have z1 : a'.tmps.getD 61 undef = .slice none 0 0 := hS 0 _ (by decide) rfl
    obtain ⟨g, hg⟩ : ∃ g : Nat → Value, ∀ t, a'.tmps.getD t undef = g t := ⟨_, fun _ => rfl⟩
    have hfr := frame_eq 61 69 g hsz hdf (by decide) (of_decide_eq_true (by kernel_rfl)) (fun t ht => hold t (isDstN_out (lo := 61) (hi := 69) (by kernel_rfl) ht)) (fun t _ _ => hg t)
    rw [hg] at z2 z1
    have hbel' := hbel.trans (hb.mono hbel.size)
    have hrd' := hdr.below hb (Nat.le_refl _)
    clear hg hS hold hsz hdf hb hbel hbs hbs7 hq0 hq7
    subst hfr
    simp only [List.take_succ_cons, List.take_zero, List.drop_succ_cons, List.drop_zero, List.range', List.map_cons, List.map_nil, List.cons_append, List.nil_append, Nat.reduceAdd, Nat.reduceSub]
    generalize g 68 = y2 at z2
    generalize g 61 = y1 at z1
    subst z1
    have hbel := hbel'
    clear hbel'
    clear hdr
    go_wp2_with (at_builtin; refine wpList_extend rfl (.tmp 61) (.tmp 68) 22 rfl w'.heap.size 2 j0 _ 8 Try.underlying22 gi gz0 gz1 gz2 rfl vi64 [] [x0, d0] _ _ (fun _ => rfl) rfl (World.ownsRow_nil _ _ _ _) rfl z2 (by simp only [maxLen, List.length_cons, List.length_nil]; omega) (by simp only [List.length_cons, List.length_nil]; omega) (Nat.le_refl _) ?_; intro v8 W8 hown8 hb8 _)
    refine (refsteps_any _ (steps l) W8 (by omega) (hrd'.below hb8 (Nat.le_refl _))).mono ?_
    rintro e W9 ⟨v9, rfl, hown9, hb9⟩
    have hr9 := Reads.of_owns hown9
    have hown89 := owns_below hown8 hb9
    have hb89 := hb8.trans (hb9.mono hb8.size)
    have hs89 := hb89.size
    clear hown8 hown9 hb8 hb9 hrd' z2
    go_upto_region 25 with (at_builtin; refine wpList_extend rfl (.tmp 70) (.tmp 72) 22 rfl w'.heap.size 2 j0 _ 8 Try.underlying22 gi gz0 gz1 gz2 rfl vi64 [x0, d0] (steps (steps l)) _ _ (fun _ => rfl) rfl hown89 rfl hr9 (by simp only [maxLen, List.length_cons, List.length_nil]; omega) (by simp only [List.length_cons, List.length_nil]; omega) hs89 ?_; intro v10 W10 hown10 hb10 _)
    have hx : Reads W10 vi64 v10 ([x0, d0] ++ steps (steps l)) := Reads.of_owns hown10
    have hxi : ∀ n ∈ [x0, d0] ++ steps (steps l), I64 n := fun n hn => by
      rcases List.mem_append.1 hn with h | h
      · simp only [List.mem_cons, List.not_mem_nil, or_false] at h
        rcases h with rfl | rfl
        · exact hx64
        · exact hd64
      · exact hddi n h
    have hxl : ([x0, d0] ++ steps (steps l)).length ≤ 4098 := by simp only [List.length_append, List.length_cons, List.length_nil]; omega
    have hbel9 := hbel.trans ((hb89.trans hb10).mono hbel.size)
    clear hown10 hb10 hb89 hs89 hown89 hr9 hbel
    have hbel := hbel9
    clear hbel9
    generalize W10 = W at *
    have hal := allBytes_length hxi
    have hbW := hbel.size
    have hA0 : Below W.heap.size W (W.alloc (.cells #[.int .u8 3] 5)) := (Below.refl _ _).alloc (Nat.le_refl _) _
    have hown0 : (W.alloc (.cells #[.int .u8 3] 5)).ownsRow W.heap.size 5 1 (.slice (some ⟨W.heap.size, 0, none⟩) 1 1) ([3] : List UInt8).length (([3] : List UInt8).map b8) := World.ownsRow_lit W _ 1 (Nat.le_refl _) (by simp [maxLen]) rfl
    have hBy := refbytes_any l.length (W.alloc (.cells #[.int .u8 3] 5)) hu
    go_wp2_with fail
    refine hBy.mono ?_
    rintro e W2 ⟨v2, rfl, hown2, hb2⟩
    have hr2 := Reads.of_owns hown2
    have hownX := owns_below hown0 hb2
    have hB2 := hA0.trans (hb2.mono hA0.size)
    have hB2s := hB2.size
    clear hown0 hown2 hA0 hb2 hBy
    go_wp2_with (at_builtin; refine wpList_extend rfl (.tmp 77) (.tmp 80) 24 rfl W.heap.size 5 i0 _ 1 Try.underlying24 hi hz0 hz1 hz2 rfl b8 [3] (Lib.uvarint l.length) _ _ (fun _ => rfl) rfl hownX rfl hr2 (by simp only [maxLen, List.length_cons, List.length_nil]; omega) (by simp only [List.length_cons, List.length_nil]; omega) hB2s ?_; intro v3 W3 hown3 hb3 _)
    have hB3 := hB2.trans hb3
    refine (refall_any _ ([x0, d0] ++ steps (steps l)) W3 hxi (by omega) (hx.below hB3 (Nat.le_refl _))).mono ?_
    rintro e W4 ⟨v4, rfl, hown4, hb4⟩
    have hr4 := Reads.of_owns hown4
    have hownY := owns_below hown3 hb4
    have hB4 := hB3.trans (hb4.mono hB3.size)
    have hB4s := hB4.size
    have hl3 : ([3] ++ Lib.uvarint l.length).length ≤ 11 := by simp only [List.length_append, List.length_cons, List.length_nil]; omega
    clear hown3 hown4 hb3 hb4 hB2 hB3 hownX hr2
    go_wp2_with (at_builtin; refine wpList_extend rfl (.tmp 82) (.tmp 84) 24 rfl W.heap.size 5 i0 _ 1 Try.underlying24 hi hz0 hz1 hz2 rfl b8 ([3] ++ Lib.uvarint l.length) (allBytes ([x0, d0] ++ steps (steps l))) _ _ (fun _ => rfl) rfl hownY rfl hr4 (by simp only [maxLen]; omega) (by omega) hB4s ?_; intro v5 W5 hown5 hb5 _)
    go_ret2
    rw [HA.out]
    exact ⟨v5, rfl, hown5.mono hbW, hbel.trans ((hB4.trans hb5).mono hbW)⟩

theorem refAs_any (kind : Int) (v : Value) (l : List Int) (w : World) (hl : ∀ n ∈ l, I64 n) (hr : Reads w vi64 v l) :
    Calls Try.prog 10 #[.int .i64 kind, v] w (AsEnd (asL kind l) w) := by
  by_cases hbig : 4096 < l.length
  · exact refAs_long kind v l w hbig hr
  by_cases h : kind < 0 ∨ 3 < kind
  · exact refAs_out kind v l w h (by omega) hr
  · have h4 : kind = 0 ∨ kind = 1 ∨ kind = 2 ∨ kind = 3 := by omega
    rcases h4 with rfl | rfl | rfl | rfl
    · exact refAs_0 v l w hl (by omega) hr
    · exact refAs_1 v l w hl (by omega) hr
    · exact refAs_2 v l w hl (by omega) hr
    · exact refAs_3 v l w hl (by omega) hr
end Go.Proofs.Ytgegbfhjophdfaa
