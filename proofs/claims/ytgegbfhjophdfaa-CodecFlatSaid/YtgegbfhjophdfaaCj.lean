/- CodecFlat: the walk. -/
import Derived.Test.YtgegbfhjophdfaaCi
namespace Go.Proofs.Ytgegbfhjophdfaa
open Go Go.RowKit

theorem and63 (n : Int) : ∃ K : Nat, K < 64 ∧ bits .and .i64 n 63 = (K : Int) := by
  refine ⟨(BitVec.ofInt 64 n &&& BitVec.ofInt 64 63).toNat, ?_, ?_⟩
  · rw [BitVec.toNat_and]
    exact Nat.lt_of_le_of_lt Nat.and_le_right (by decide)
  · show IntKind.i64.wrap ((BitVec.ofInt 64 n &&& BitVec.ofInt 64 63).toNat : Int) = _
    have h : (BitVec.ofInt 64 n &&& BitVec.ofInt 64 63).toNat < 64 := by
      rw [BitVec.toNat_and]
      exact Nat.lt_of_le_of_lt Nat.and_le_right (by decide)
    rw [IntKind.wrap_i64]
    omega

theorem apart_symm {a b : Option Nat} (h : a = none ∨ a ≠ b) : b = none ∨ b ≠ a := by
  rcases h with h | h
  · cases b
    · exact .inl rfl
    · exact .inr (by rw [h]; simp)
  · exact .inr (Ne.symm h)

def FlatLoop (f s : Int) (k base : Nat) (w : World) (x i va vb : Value) (wr : World) : Prop :=
  ∃ j : Nat, j ≤ k ∧ i = .int .i64 (j : Int) ∧ x = .int .i64 (xAt f s j) ∧ wr.ownsRow base 2 1 va (List.replicate j f).length ((List.replicate j f).map vi64) ∧
    wr.ownsRow base 2 1 vb (evL f s j).length ((evL f s j).map vi64) ∧ (va.ownBlock = none ∨ va.ownBlock ≠ vb.ownBlock) ∧ Below base w wr

set_option maxRecDepth 100000 in
set_option maxHeartbeats 4000000 in
theorem flat_walk (f s n : Int) (w : World) (hf : I64 f) (hs : I64 s) :
    Calls Try.prog 6 #[.int .i64 f, .int .i64 s, .int .i64 n] w (TrueEnd w) := by
  obtain ⟨i0, hi, hz0, hz1, hz2⟩ := info_parts info_i64c
  obtain ⟨K, hK, hand⟩ := and63 n
  have hf' := hf
  have hs' := hs
  unfold I64 at hf' hs'
  go_enter Try.func6, Try.ntmps6
  go_wp2_with fail
  refine (awake_any w).mono ?_
  rintro e w1 ⟨rfl, hb1⟩
  go_wp2_with fail
  go_loopw [11, 12, 9, 10] (fun x i va vb wr => FlatLoop f s (3 + K) w1.heap.size w1 x i va vb wr) (fun _ i _ _ _ => 3 + K - (intOf i).toNat)
  case atStart => exact ⟨0, by omega, rfl, rfl, World.ownsRow_nil _ _ _ _, World.ownsRow_nil _ _ _ _, .inl rfl, Below.refl _ _⟩
  case round =>
    obtain ⟨j, hj, rfl, rfl, hown1, hown2, hap, hbel⟩ := hrel
    have hap' := apart_symm hap
    by_cases hlt : j < 3 + K
    · have hx := xAt_i64 s hf j
      have hl1 : (List.replicate j f).length + 1 ≤ 100 := by simp; omega
      have hl2 : (evL f s j).length + 1 ≤ 100 := by rw [evL_length]; omega
      have hB := hbel.size
      go_wp2_with (first
        | (at_builtin; refine wpList_push_two rfl (.tmp 32) (.tmp 34) 22 rfl w1.heap.size 2 i0 _ 8 Try.underlying22 hi hz0 hz1 hz2 rfl vi64 (List.replicate j f) (evL f s j) f _ _ _ rfl rfl rfl hown1 hown2 hap' rfl (by simp only [maxLen]; omega) (by omega) hB ?_; intro va' wa hownA hownB hapA hbA; have hBA : w1.heap.size ≤ wa.heap.size := Nat.le_trans hB hbA.size; have hapA' := apart_symm hapA)
        | (at_builtin; refine wpList_push_two rfl (.tmp 36) (.tmp 38) 22 rfl w1.heap.size 2 i0 _ 8 Try.underlying22 hi hz0 hz1 hz2 rfl vi64 (evL f s j) (List.replicate j f ++ [f]) (xAt f s j) _ _ _ rfl rfl rfl hownB hownA hapA' rfl (by simp only [maxLen]; omega) (by omega) hBA ?_; intro vb' wb hownB2 hownA2 hapB hbB))
      go_roundw
      case rel => exact ⟨j + 1, by omega, by go_num, rfl, by rw [List.replicate_succ']; exact hownA2, by rw [evL_snoc]; exact hownB2, hapB, hbel.trans (hbA.trans hbB)⟩
      case measure => simp [intOf]; omega
    · have hj3 : j = 3 + K := by omega
      subst hj3
      have hrA := Reads.of_owns hown1
      have hrB := Reads.of_owns hown2
      obtain ⟨ga, ca, rfl, hca, hca'⟩ := owns_some hown1 (by simp)
      obtain ⟨gb, cb, rfl, hcb, hcb'⟩ := owns_some hown2 (by rw [evL_length]; omega)
      have hlA : ∀ n ∈ List.replicate (3 + K) f, I64 n := fun n hn => by rw [List.eq_of_mem_replicate hn]; exact hf
      have hlB : ∀ n ∈ evL f s (3 + K), I64 n := fun n hn => by
        simp only [evL, List.mem_map] at hn
        obtain ⟨i, _, rfl⟩ := hn
        exact xAt_i64 s hf i
      have hbr := best_rep hf (3 + K) (by omega) (by omega)
      have hbe : s ≠ 0 → _ := fun h => best_ev (f := f) hs h (3 + K) (by omega) (by omega)
      have hez : s = 0 → evL f s (3 + K) = List.replicate (3 + K) f := fun h => by subst h; exact evL_zero f hf _
      obtain ⟨ya, hya, hna⟩ := as_one f (3 + K) (by omega)
      obtain ⟨yb, hyb, hnb⟩ := as_two f s hs (3 + K) (by omega)
      have hzs := zlen_pos s
      have hbw : Below w.heap.size w wr := hb1.trans (hbel.mono hb1.size)
      have hA2 := hrA.head 2 (by rw [List.length_replicate]; omega)
      have hB2 := hrB.head 2 (by rw [evL_length]; omega)
      have hwant : Hid ((bestL (evL f s (3 + K))).1 = (if s = 0 then 0 else 1) ∧ (bestL (evL f s (3 + K))).2.length ≤ yb.length) := by
        by_cases h0 : s = 0
        · rw [Hid, if_pos h0, hez h0]
          exact ⟨hbr.1, by rw [hbr.2]; omega⟩
        · rw [Hid, if_neg h0]
          exact ⟨(hbe h0).1, by rw [(hbe h0).2]; omega⟩
      have hAc := hbr.1
      have hAl : Hid ((bestL (List.replicate (3 + K) f)).2.length = ya.length) := by rw [Hid, hbr.2, hna]
      clear hbr hbe hez hna hnb hown1 hown2 hap hap'
      simp only [List.length_replicate, evL_length] at hrA hrB hca hcb ⊢
      generalize List.replicate (3 + K) f = A at hrA hlA hya hA2 hAc hAl
      generalize evL f s (3 + K) = B at hrB hlB hyb hB2 hwant
      have hca2 : ¬ (ca : Int) < 2 := by omega
      have hcb2 : ¬ (cb : Int) < 2 := by omega
      go_wp2_with fail
      refine (Encode_any _ A wr hlA hrA).mono ?_
      rintro e w2 ⟨v2, rfl, hr2, hb2⟩
      go_wp2_with fail
      refine (Encode_any _ B w2 hlB (hrB.below hb2 (Nat.le_refl _))).mono ?_
      rintro e w3 ⟨v3, rfl, hr3, hb3⟩
      have hb23 : Below wr.heap.size wr w3 := hb2.trans (hb3.mono hb2.size)
      go_wp2_with fail
      refine (As_any 0 _ (A.take 2) w3 (fun n hn => hlA n (List.mem_of_mem_take hn)) (hA2.below hb23 (Nat.le_refl _))).mono ?_
      rintro e w4 ⟨v4, rfl, hown4, hb4⟩
      have hb24 : Below wr.heap.size wr w4 := hb23.trans (hb4.mono hb23.size)
      rw [hya] at hown4 ⊢
      go_wp2_with fail
      refine (As_any 1 _ (B.take 2) w4 (fun n hn => hlB n (List.mem_of_mem_take hn)) (hB2.below hb24 (Nat.le_refl _))).mono ?_
      rintro e w5 ⟨v5, rfl, hown5, hb5⟩
      have hb25 : Below wr.heap.size wr w5 := hb24.trans (hb5.mono hb24.size)
      rw [hyb] at hown5 ⊢
      obtain ⟨a2, c2, rfl⟩ := hr2.slice
      obtain ⟨a3, c3, rfl⟩ := hr3.slice
      obtain ⟨a4, c4, rfl⟩ := owns_slice hown4
      obtain ⟨a5, c5, rfl⟩ := owns_slice hown5
      have hl2 := hr2.len_le
      have hl3 := hr3.len_le
      have hq1 : (((bestL A).2.length : Int) == (ya.length : Int)) = true := by rw [hAl.out]; simp
      have hw2 : ((bestL B).2.length : Int) ≤ (yb.length : Int) := by have := hwant.out.2; omega
      have hw1 : (bestL B).1 = if s = 0 then 0 else 1 := hwant.out.1
      have HW := Lib.hid hw1
      clear hwant hw1 hown4 hown5 hr2 hr3 hA2 hB2 hya hyb hAl
      simp only [Option.getD_some]
      by_cases h0 : s = 0
      · have hq0 : (s == 0) = true := by simp [h0]
        have HB : Hid ((bestL B).1 = 0) := by rw [Hid, HW.out, if_pos h0]
        clear h0 HW
        go_wp2_with fail
        refine (Choose_any _ A w5 hlA (hrA.below hb25 (Nat.le_refl _))).mono ?_
        rintro e w6 ⟨rfl, hb6⟩
        have hb26 : Below wr.heap.size wr w6 := hb25.trans (hb6.mono hb25.size)
        rw [hAc]
        go_wp2_with fail
        refine (Choose_any _ B w6 hlB (hrB.below hb26 (Nat.le_refl _))).mono ?_
        rintro e w7 ⟨rfl, hb7⟩
        have hb27 : Below wr.heap.size wr w7 := hb26.trans (hb7.mono hb26.size)
        rw [HB.out]
        go_wp2_with fail
        go_ret
        exact ⟨by go_num, hbw.trans (hb27.mono hbw.size)⟩
      · have hq0 : (s == 0) = false := by simp [h0]
        have HB : Hid ((bestL B).1 = 1) := by rw [Hid, HW.out, if_neg h0]
        clear h0 HW
        go_wp2_with fail
        refine (Choose_any _ A w5 hlA (hrA.below hb25 (Nat.le_refl _))).mono ?_
        rintro e w6 ⟨rfl, hb6⟩
        have hb26 : Below wr.heap.size wr w6 := hb25.trans (hb6.mono hb25.size)
        rw [hAc]
        go_wp2_with fail
        refine (Choose_any _ B w6 hlB (hrB.below hb26 (Nat.le_refl _))).mono ?_
        rintro e w7 ⟨rfl, hb7⟩
        have hb27 : Below wr.heap.size wr w7 := hb26.trans (hb7.mono hb26.size)
        rw [HB.out]
        go_wp2_with fail
        go_ret
        exact ⟨by go_num, hbw.trans (hb27.mono hbw.size)⟩

end Go.Proofs.Ytgegbfhjophdfaa
