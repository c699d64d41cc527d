/- VarintJoin: the walk of the law. -/
import Derived.Test.YtmdojdpokghihaaVo
import Derived.Deep.RegionWith
namespace Go.Proofs.Ytmdojdpokghihaa
open Go Go.RowKit

theorem cell_i64 (W : World) : (sizeOf 2).run Try.prog W = .ok 1 W := by kernel_rfl
theorem and1023 (x : Int) : ∃ q : Nat, bits .and .i64 x 1023 = (q : Int) ∧ q ≤ 1023 := by
  refine ⟨(BitVec.ofInt 64 x).toNat % 1024, ?_, by omega⟩
  show IntKind.i64.wrap ((BitVec.ofInt 64 x &&& BitVec.ofInt 64 1023).toNat : Int) = _
  have h1 : (BitVec.ofInt 64 1023).toNat = 2 ^ 10 - 1 := by decide
  rw [BitVec.toNat_and, h1, Nat.and_two_pow_sub_one_eq_mod, IntKind.wrap_i64]
  omega

theorem PutAll_nil (v : Value) (l : List Int) (w : World) (hl : ∀ n ∈ l, I64 n) (hn : l.length ≤ 2000) (hr : Reads w vi64 v l) :
    Calls Try.prog 17 #[.slice none 0 0, v] w fun e w' => ∃ v1, e = .returned v1 ∧ Reads w' b8 v1 (allBytes l) ∧ Below w.heap.size w w' := by
  refine (PutAll_any _ _ [] l w hl (by simp; omega) (Reads.nil _ _) hr).mono ?_
  rintro e w1 ⟨v1, rfl, hown1, hb1⟩
  rw [List.nil_append] at hown1
  exact ⟨v1, rfl, Reads.of_owns hown1, hb1⟩

theorem PutAll_more (v vl : Value) (a l : List Int) (w : World) (ha : ∀ n ∈ a, I64 n) (hl : ∀ n ∈ l, I64 n) (hna : a.length ≤ 2000) (hn : l.length ≤ 2000) (hr : Reads w b8 v (allBytes a)) (hrl : Reads w vi64 vl l) :
    Calls Try.prog 17 #[v, vl] w fun e w' => ∃ v1, e = .returned v1 ∧ Reads w' b8 v1 (allBytes (a ++ l)) ∧ Below w.heap.size w w' := by
  refine (PutAll_any _ _ (allBytes a) l w hl (by have := allBytes_length ha; omega) hr hrl).mono ?_
  rintro e w1 ⟨v1, rfl, hown1, hb1⟩
  rw [← allBytes_append] at hown1
  exact ⟨v1, rfl, Reads.of_owns hown1, hb1⟩

theorem TakeAll_part (v : Value) (l : List Int) (k : Nat) (w : World) (hl : ∀ n ∈ l, I64 n) (hn : l.length ≤ 2000) (hk : k ≤ l.length) (hr : Reads w b8 v (allBytes l)) :
    Calls Try.prog 18 #[v, .int .i64 (k : Int)] w fun e w' => ∃ v4 v5, e = .returned (.tuple #[v4, v5, .int .i64 0]) ∧ Reads w' vi64 v4 (l.take k) ∧ Reads w' b8 v5 (allBytes (l.drop k)) ∧ Below w.heap.size w w' := by
  refine (TakeAll_any v _ k w (by have := allBytes_length hl; omega) (by omega) hr).mono ?_
  rintro e w1 ⟨v4, v5, rfl, h4, h5, hb1⟩
  have hT := takeN_part (l.take k) (l.drop k) (fun n hn => hl n (List.mem_of_mem_take hn))
  rw [List.take_append_drop, List.length_take, Nat.min_eq_left hk] at hT
  rw [hT] at h4 h5
  exact ⟨v4, v5, by rw [hT]; rfl, Reads.of_owns h4, Reads.of_owns h5, hb1⟩

theorem TakeAll_end (v : Value) (l : List Int) (z : Int) (w : World) (hl : ∀ n ∈ l, I64 n) (hn : l.length ≤ 2000) (hz : z = (l.length : Int)) (hr : Reads w b8 v (allBytes l)) :
    Calls Try.prog 18 #[v, .int .i64 z] w fun e w' => ∃ v4 a5 c5, e = .returned (.tuple #[v4, .slice a5 0 c5, .int .i64 0]) ∧ Reads w' vi64 v4 l ∧ Below w.heap.size w w' := by
  subst hz
  refine (TakeAll_back v l [] w hl (by omega) (by rw [List.append_nil]; have := allBytes_length hl; omega) (by rw [List.append_nil]; exact hr)).mono ?_
  rintro e w1 ⟨v4, v5, rfl, h4, h5, hb1⟩
  obtain ⟨a5, c5, rfl⟩ := h5.slice
  exact ⟨v4, a5, c5, rfl, h4, hb1⟩

theorem TakeAll_over (v : Value) (l : List Int) (w : World) (hl : ∀ n ∈ l, I64 n) (hn : l.length ≤ 2000) (hr : Reads w b8 v (allBytes l)) :
    Calls Try.prog 18 #[v, .int .i64 ((l.length : Int) + 1)] w fun e w' => ∃ v4 v5, e = .returned (.tuple #[v4, v5, .int .i64 10]) ∧ Below w.heap.size w w' := by
  have h := TakeAll_any v (allBytes l) (l.length + 1) w (by have := allBytes_length hl; omega) (by omega) hr
  rw [show ((l.length + 1 : Nat) : Int) = (l.length : Int) + 1 from by omega] at h
  refine h.mono ?_
  rintro e w1 ⟨v4, v5, rfl, _, _, hb1⟩
  exact ⟨v4, v5, by rw [takeN_short l hl]; rfl, hb1⟩

set_option maxRecDepth 100000 in
set_option maxHeartbeats 4000000 in
theorem join_walk (va : Value) (a : List Int) (vb : Value) (b : List Int) (at1 : Int) (w : World) (ha : ∀ n ∈ a, I64 n) (hb : ∀ n ∈ b, I64 n) (hra : Reads w vi64 va a) (hrb : Reads w vi64 vb b) :
    Calls Try.prog 7 #[va, vb, .int .i64 at1] w (TrueEnd w) := by
  obtain ⟨i0, hi, hz0, hz1, hz2⟩ := info_parts info_i64
  have hma := hra.len_le
  have hmb := hrb.len_le
  simp only [maxLen] at hma hmb
  obtain ⟨aa, ca, rfl⟩ := hra.slice
  obtain ⟨ab, cb, rfl⟩ := hrb.slice
  by_cases hbig1 : 500 < a.length
  · go_enter Try.func7, Try.ntmps7
    go_wp2_with fail
    refine (awake_any w).mono ?_
    rintro e w1 ⟨rfl, hb1⟩
    go_wp2_with fail
    go_ret
    exact ⟨rfl, hb1⟩
  by_cases hbig2 : 500 < b.length
  · go_enter Try.func7, Try.ntmps7
    go_wp2_with fail
    refine (awake_any w).mono ?_
    rintro e w1 ⟨rfl, hb1⟩
    go_wp2_with fail
    go_ret
    exact ⟨rfl, hb1⟩
  · go_enter Try.func7, Try.ntmps7
    go_wp2_with fail
    refine (awake_any w).mono ?_
    rintro e w1 ⟨rfl, hb1⟩
    have hra1 := hra.below hb1 (Nat.le_refl _)
    have hsz1 := hb1.size
    go_wp2_with (first
      | (at_builtin; refine wpList_extend rfl (.tmp 31) (.tmp 32) 34 rfl w.heap.size 2 i0 _ 8 Try.underlying34 hi hz0 hz1 hz2 rfl vi64 [] a _ _ (fun _ => rfl) rfl (World.ownsRow_nil _ _ _ _) rfl hra1 (by simp only [maxLen, List.length_nil]; omega) (by simp only [List.length_nil]; omega) hsz1 ?_; intro v2 w2 hown2 hb2 _; rw [List.nil_append] at hown2; have hB2 : Below w.heap.size w w2 := hb1.trans hb2; have hrb2 := hrb.below hB2 (Nat.le_refl _); have hsz2 := hB2.size)
      | (at_builtin; refine wpList_extend rfl (.tmp 34) (.tmp 35) 34 rfl w.heap.size 2 i0 _ 8 Try.underlying34 hi hz0 hz1 hz2 rfl vi64 a b _ _ (fun _ => rfl) rfl hown2 rfl hrb2 (by simp only [maxLen]; omega) (by omega) hsz2 ?_; intro v3 w3 hown3 hb3 _; have hB3 : Below w.heap.size w w3 := hB2.trans hb3))
    have hr3 := Reads.of_owns hown3
    clear hown2 hown3 hb2 hb3 hrb2 hra1 hsz1 hsz2 hb1
    refine (PutAll_nil _ a w3 ha (by omega) (hra.below hB3 (Nat.le_refl _))).mono ?_
    rintro e w4 ⟨v4, rfl, hr4, hb4⟩
    have hB4 : Below w.heap.size w w4 := hB3.trans (hb4.mono hB3.size)
    go_wp2_with fail
    refine (PutAll_more _ _ a b w4 ha hb (by omega) (by omega) hr4 (hrb.below hB4 (Nat.le_refl _))).mono ?_
    rintro e w5 ⟨v5, rfl, hr5, hb5⟩
    have hB5 : Below w.heap.size w w5 := hB4.trans (hb5.mono hB4.size)
    have hall := (hr3.below hb4 (Nat.le_refl _)).below hb5 (Nat.le_refl _)
    have hlm : ∀ n ∈ a ++ b, I64 n := fun n hn => (List.mem_append.1 hn).elim (ha n) (hb n)
    have hll : (a ++ b).length ≤ 1000 := by rw [List.length_append]; omega
    generalize a ++ b = l at hall hr5 hlm hll
    obtain ⟨a3, c3, rfl⟩ := hall.slice
    clear hr3 hr4 hb4 hb5 hB3 hB4 hra hrb hi hz0 hz1 hz2
    have hs5 := str_of hr5.drew
    go_wp2_with fail
    go_region_with (go_at_call 17; refine (PutAll_nil _ l w5.drew hlm (by omega) hall.drew).mono ?_; rintro e w6 ⟨v6, rfl, hr6, hb6⟩; have hs6 := str_of hr6; have hs56 := str_of (hr5.drew.below hb6 (Nat.le_refl _)))
    all_goals
      have hB6 : Below w.heap.size w w6 := hB5.trans (((Below.refl w5.heap.size w5).drew.trans hb6).mono hB5.size)
      have hr5' := hr5.drew.below hb6 (Nat.le_refl _)
      have hall' := hall.drew.below hb6 (Nat.le_refl _)
      obtain ⟨hlc, hcm⟩ := hall'.len_cap
      simp only [maxLen] at hcm
      clear hr5 hall hb6 hs5 hs6 hs56 hr6 hB5
      obtain ⟨q, hq, hq1⟩ := and1023 at1
      obtain ⟨k, hk, hkl⟩ : ∃ k : Nat, (q : Int) % ((l.length : Int) + 1) = (k : Int) ∧ k ≤ l.length := ⟨q % (l.length + 1), by simp, by have := Nat.mod_lt q (show 0 < l.length + 1 by omega); omega⟩
      go_wp2_with fail
      refine (TakeAll_part v5 l k w6 hlm (by omega) hkl hr5').mono ?_
      rintro e w7 ⟨v7, v8, rfl, hr7, hr8, hb7⟩
      have hB7 : Below w.heap.size w w7 := hB6.trans (hb7.mono hB6.size)
      have hr57 := hr5'.below hb7 (Nat.le_refl _)
      have hall7 := hall'.below hb7 (Nat.le_refl _)
      clear hr5' hall' hb7 hB6
      go_wp2_with fail
      refine (TakeAll_end v8 (l.drop k) _ w7 (fun n hn => hlm n (List.mem_of_mem_drop hn)) (by rw [List.length_drop]; omega) (by rw [List.length_drop]; omega) hr8).mono ?_
      rintro e w8 ⟨v9, a10, c10, rfl, hr9, hb8⟩
      have hB8 : Below w.heap.size w w8 := hB7.trans (hb8.mono hB7.size)
      have hr58 := hr57.below hb8 (Nat.le_refl _)
      have hall8 := hall7.below hb8 (Nat.le_refl _)
      have hr78 := hr7.below hb8 (Nat.le_refl _)
      clear hr57 hall7 hb8 hB7 hr7 hr8
      go_wp2_with fail
      refine (TakeAll_over v5 l w8 hlm (by omega) hr58).mono ?_
      rintro e w9 ⟨v11, v12, rfl, hb9⟩
      have hB9 : Below w.heap.size w w9 := hB8.trans (hb9.mono hB8.size)
      have hall9 := hall8.below hb9 (Nat.le_refl _)
      have hr79 := hr78.below hb9 (Nat.le_refl _)
      have hr99 := hr9.below hb9 (Nat.le_refl _)
      clear hr58 hall8 hb9 hB8 hr9 hr78
      obtain ⟨vt, hsl, hrt⟩ := slice_tail (P := Try.prog) (k := k) Try.underlying34 cell_i64 hall9 hkl
      go_wp2_with fail
      refine (Same_true v7 _ (l.take k) w9 hr79 (hall9.head k hkl)).mono ?_
      rintro e w' ⟨rfl, m, rfl⟩
      go_wp2_with fail
      refine (Same_true v9 _ (l.drop k) (w9.drewN m) (hr99.drewN m) (hrt.drewN m)).mono ?_
      rintro e w' ⟨rfl, m2, rfl⟩
      go_wp2_with fail
      go_ret
      exact ⟨rfl, Below.drewN hB9 (m + m2)⟩

end Go.Proofs.Ytmdojdpokghihaa
