/- VarintBack: the walk of the law. -/
import Derived.Test.YtmdojdpokghihaaVf
import Derived.Test.YtmdojdpokghihaaVm
import Derived.Test.YtmdojdpokghihaaVn
namespace Go.Proofs.Ytmdojdpokghihaa
open Go Go.RowKit

theorem Put_back (u : Nat) (w : World) (hu : U64 u) : Calls Try.prog 11 #[.slice none 0 0, .int .u64 (u : Int)] w fun e w' => ∃ g cap, e = .returned (.slice (some ⟨g, 0, none⟩) (ulen u) cap) ∧ ulen u ≤ cap ∧ cap ≤ maxLen ∧ Reads w' b8 (.slice (some ⟨g, 0, none⟩) (ulen u) cap) (Lib.uvarint u) ∧ Below w.heap.size w w' := by
  refine (Put_any (.slice none 0 0) [] u w hu (by simp) (Reads.nil _ _)).mono ?_
  rintro e w1 ⟨v1, rfl, hown1, hb1⟩
  rw [List.nil_append] at hown1
  have hr1 := Reads.of_owns hown1
  obtain ⟨g, cap, rfl, h1, h2⟩ := owns_some hown1 (by have := Lib.uvarint_pos u; omega)
  exact ⟨g, cap, rfl, h1, h2, hr1, hb1⟩

theorem Take_back (v : Value) (u : Nat) (rest : List UInt8) (w : World) (hu : U64 u) (hl : (Lib.uvarint u ++ rest).length ≤ 70368744177664) (hr : Reads w b8 v (Lib.uvarint u ++ rest)) :
    Calls Try.prog 16 #[v] w fun e w' => ∃ ad n cap, e = .returned (.tuple #[.int .u64 (u : Int), .slice ad n cap, .int .i64 0]) ∧ Hid (n = rest.length) ∧ Reads w' b8 (.slice ad n cap) rest ∧ Below w.heap.size w w' := by
  refine (Take_any v _ w hl hr).mono ?_
  rintro e w1 ⟨v1, rfl, hown1, hb1⟩
  have hT := take_uvarint hu rest
  have hR : takeRest (Lib.uvarint u ++ rest) = rest := by rw [takeRest, hT, if_pos rfl, List.drop_left]
  rw [hR] at hown1
  have hr1 := Reads.of_owns hown1
  obtain ⟨ad, cap, rfl⟩ := owns_slice hown1
  exact ⟨ad, rest.length, cap, by rw [hT]; rfl, rfl, hr1, hb1⟩

theorem Take_short (v : Value) (u : Nat) (w : World) (hu : U64 u) (hr : Reads w b8 v (Lib.uvarint u).dropLast) :
    Calls Try.prog 16 #[v] w fun e w' => ∃ v1, e = .returned (.tuple #[.int .u64 0, v1, .int .i64 10]) ∧ Below w.heap.size w w' := by
  refine (Take_any v _ w (by have := ulen_le hu; unfold ulen at this; rw [List.length_dropLast]; omega) hr).mono ?_
  rintro e w1 ⟨v1, rfl, _, hb1⟩
  exact ⟨v1, by rw [take_cut hu]; rfl, hb1⟩

theorem TakeAll_back (v : Value) (l : List Int) (rest : List UInt8) (w : World) (hl : ∀ n ∈ l, I64 n) (hn : l.length ≤ 1048576) (hb : (allBytes l ++ rest).length ≤ 70368744177664) (hr : Reads w b8 v (allBytes l ++ rest)) :
    Calls Try.prog 18 #[v, .int .i64 (l.length : Int)] w fun e w' => ∃ v4 v5, e = .returned (.tuple #[v4, v5, .int .i64 0]) ∧ Reads w' vi64 v4 l ∧ Reads w' b8 v5 rest ∧ Below w.heap.size w w' := by
  refine (TakeAll_any v _ l.length w hb hn hr).mono ?_
  rintro e w1 ⟨v4, v5, rfl, h4, h5, hb1⟩
  rw [takeN_all l hl rest] at h4 h5
  exact ⟨v4, v5, by rw [takeN_all l hl rest]; rfl, Reads.of_owns h4, Reads.of_owns h5, hb1⟩

set_option maxRecDepth 100000 in
set_option maxHeartbeats 2000000 in
theorem back_walk (vl : Value) (l : List Int) (u : Nat) (vb : Value) (behind : List UInt8) (w : World) (hl : ∀ n ∈ l, I64 n) (hu : U64 u) (hrl : Reads w vi64 vl l) (hrb : Reads w b8 vb behind) :
    Calls Try.prog 6 #[vl, .int .u64 (u : Int), vb] w (TrueEnd w) := by
  obtain ⟨i0, hi, hz0, hz1, hz2⟩ := info_parts info_u8
  have hml := hrl.len_le
  have hmb := hrb.len_le
  simp only [maxLen] at hml hmb
  obtain ⟨al, cl, rfl⟩ := hrl.slice
  obtain ⟨ab, cb, rfl⟩ := hrb.slice
  by_cases hbig1 : 1000 < l.length
  · go_enter Try.func6, Try.ntmps6
    go_wp2_with fail
    refine (awake_any w).mono ?_
    rintro e w1 ⟨rfl, hb1⟩
    go_wp2_with fail
    go_ret
    exact ⟨rfl, hb1⟩
  by_cases hbig2 : 1000 < behind.length
  · go_enter Try.func6, Try.ntmps6
    go_wp2_with fail
    refine (awake_any w).mono ?_
    rintro e w1 ⟨rfl, hb1⟩
    go_wp2_with fail
    go_ret
    exact ⟨rfl, hb1⟩
  · go_enter Try.func6, Try.ntmps6
    go_wp2_with fail
    refine (awake_any w).mono ?_
    rintro e w1 ⟨rfl, hb1⟩
    go_wp2_with fail
    refine (Put_back u w1 hu).mono ?_
    rintro e w2 ⟨g2, c2, rfl, hc2, hc2', hr2, hb2⟩
    have hul := ulen_le hu
    have hul1 := ulen_pos u
    go_wp2_with fail
    have hr2' : Reads w2 b8 (.slice (some ⟨g2, 0, none⟩) (ulen u) c2) (Lib.uvarint u ++ []) := by rw [List.append_nil]; exact hr2
    refine (Take_back _ u [] w2 hu (by rw [List.append_nil]; have : (Lib.uvarint u).length ≤ 10 := hul; omega) hr2').mono ?_
    rintro e w3 ⟨a3, n3, c3, rfl, hn3, hr3, hb3⟩
    obtain rfl : n3 = 0 := hn3.out
    clear hr2'
    go_wp2_with fail
    have hcut := (hr2.below hb3 (Nat.le_refl _)).head (ulen u - 1) (by show ulen u - 1 ≤ ulen u; omega)
    rw [show (Lib.uvarint u).take (ulen u - 1) = (Lib.uvarint u).dropLast from List.dropLast_eq_take.symm] at hcut
    refine (Take_short _ u w3 hu hcut).mono ?_
    rintro e w4 ⟨v4, rfl, hb4⟩
    have h23 : Below w2.heap.size w2 w4 := hb3.trans (hb4.mono hb3.size)
    have h14 : Below w1.heap.size w1 w4 := hb2.trans (h23.mono hb2.size)
    have h04 : Below w.heap.size w w4 := hb1.trans (h14.mono hb1.size)
    have hal := allBytes_length hl
    have hul10 : (Lib.uvarint u).length ≤ 10 := hul
    have hlen2 : (Lib.uvarint u ++ allBytes l).length ≤ 20000 := by rw [List.length_append]; omega
    go_wp2_with fail
    refine (PutAll_any _ _ (Lib.uvarint u) l w4 hl (by omega) (hr2.below h23 (Nat.le_refl _)) (hrl.below h04 (Nat.le_refl _))).mono ?_
    rintro e w5 ⟨v5, rfl, hown5, hb5⟩
    have h05 : Below w.heap.size w w5 := h04.trans (hb5.mono h04.size)
    have hsz5 := hb5.size
    clear hcut hr2 hb1 hb2 hb3 hb4 hb5 h23 h14
    go_wp2_with (at_builtin; refine wpList_extend rfl (.tmp 53) (.tmp 54) 27 rfl w4.heap.size 5 i0 _ 1 Try.underlying27 hi hz0 hz1 hz2 rfl b8 (Lib.uvarint u ++ allBytes l) behind _ _ (fun _ => rfl) rfl hown5 rfl (hrb.below h05 (Nat.le_refl _)) (by simp only [maxLen]; omega) (by omega) hsz5 ?_; intro v6 w6 hown6 hb6 _)
    have hr6 := Reads.of_owns hown6
    have h06 : Below w.heap.size w w6 := h05.trans (hb6.mono h04.size)
    rw [List.append_assoc] at hr6
    clear hown5 hown6 hb6
    refine (Take_back _ u (allBytes l ++ behind) w6 hu (by simp only [List.length_append] at hlen2 ⊢; omega) hr6).mono ?_
    rintro e w7 ⟨a7, n7, c7, rfl, hn7, hr7, hb7⟩
    have h07 : Below w.heap.size w w7 := h06.trans (hb7.mono h06.size)
    clear hr6 hb7 h06
    go_wp2_with fail
    refine (TakeAll_back _ l behind w7 hl (by omega) (by simp only [List.length_append] at hlen2 ⊢; omega) hr7).mono ?_
    rintro e w8 ⟨v8, v9, rfl, hr8, hr9, hb8⟩
    have h08 : Below w.heap.size w w8 := h07.trans (hb8.mono h07.size)
    clear hr7 hb8 h07
    go_wp2_with fail
    refine (Same_true _ _ l w8 hr8 (hrl.below h08 (Nat.le_refl _))).mono ?_
    rintro e w9 ⟨rfl, m, rfl⟩
    have hs1 := str_of (hr9.drewN m)
    have hs2 := str_of ((hrb.below h08 (Nat.le_refl _)).drewN m)
    have h09 : Below w.heap.size w (w8.drewN m) := Below.drewN h08 m
    clear hr8 hr9 h08 hrl hrb
    go_wp2_with fail
    go_ret
    exact ⟨rfl, h09⟩

end Go.Proofs.Ytmdojdpokghihaa
