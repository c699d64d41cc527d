/- VarintTurns: the walk of the law. -/
import Derived.Test.YtmdojdpokghihaaVf
import Derived.Test.YtmdojdpokghihaaVg
import Derived.Test.YtmdojdpokghihaaVh
namespace Go.Proofs.Ytmdojdpokghihaa
open Go Go.RowKit

set_option maxRecDepth 100000 in
set_option maxHeartbeats 1000000 in
theorem turns_walk (n : Int) (u : Nat) (v : Value) (head : List UInt8) (w : World) (hn : I64 n) (hu : U64 u) (hr : Reads w b8 v head) :
    Calls Try.prog 4 #[.int .i64 n, .int .u64 (u : Int), v] w (TrueEnd w) := by
  obtain ⟨i0, hi, hz0, hz1, hz2⟩ := info_parts info_u8
  have hml := hr.len_le
  simp only [maxLen] at hml
  obtain ⟨ad, cap, rfl⟩ := hr.slice
  by_cases hbig : 1000 < head.length
  · go_enter Try.func4, Try.ntmps4
    go_wp2_with fail
    refine (awake_any w).mono ?_
    rintro e w1 ⟨rfl, hb1⟩
    go_wp2_with fail
    go_ret
    exact ⟨rfl, hb1⟩
  · go_enter Try.func4, Try.ntmps4
    go_wp2_with fail
    refine (awake_any w).mono ?_
    rintro e w1 ⟨rfl, hb1⟩
    have hr1 := hr.below hb1 (Nat.le_refl _)
    have hs1 := str_of hr1
    go_wp2_with (first
      | (at_make; refine wpList_make_own _ rfl _ _ 27 rfl w.heap.size 5 i0 _ 1 Try.underlying27 hi hz0 hz1 .i64 .i64 _ (head.length + 20) rfl rfl (by omega) (by rw [hz2]; omega) (by simp only [maxLen]; omega) hb1.size ?_; intro w2 hown2 hg2; have hB2 : Below w1.heap.size w1 w2 := (Below.refl _ _).grown hg2 (Nat.le_refl _) (fun k hk => by cases hk); have hr2 := hr1.below hB2 (Nat.le_refl _); have hsz2 : w.heap.size ≤ w2.heap.size := Nat.le_trans hb1.size hB2.size)
      | (at_builtin; refine wpList_extend rfl (.tmp 23) (.tmp 24) 27 rfl w.heap.size 5 i0 _ 1 Try.underlying27 hi hz0 hz1 hz2 rfl b8 [] head _ _ (fun _ => rfl) rfl hown2 rfl hr2 (by simp only [maxLen, List.length_nil]; omega) (by simp only [List.length_nil]; omega) hsz2 ?_; intro v3 w3 hown3 hb3 hne3; have hsz3 : w.heap.size ≤ w3.heap.size := Nat.le_trans hsz2 hb3.size)
      | (at_builtin; refine wpList_extend rfl (.tmp 25) (.tmp 26) 27 rfl w.heap.size 5 i0 _ 1 Try.underlying27 hi hz0 hz1 hz2 rfl b8 ([] ++ head) [7, 7, 7] _ _ (fun _ => rfl) rfl (hown3.alloc _) rfl (Reads.built w3 _ _ 3 b8 [7, 7, 7] rfl rfl (by simp [maxLen])) (by simp only [maxLen, List.length_nil, List.nil_append, List.length_cons]; omega) (by simp only [List.length_nil, List.nil_append, List.length_cons]; omega) (by simp; omega) ?_; intro v4 w4 hown4 hb4 hne4; rw [List.nil_append] at hown4; have hroom := Reads.of_owns hown4; have hlen4 : (head ++ [7, 7, 7]).length = head.length + 3 := by simp
         rw [hlen4] at hown4; obtain ⟨g4, c4, rfl, hc4, hc4'⟩ := owns_some hown4 (by omega); clear hlen4 hne4 hne3 hown2 hown3 hown4))
    have hpre := hroom.head head.length (by simp)
    rw [List.take_left] at hpre
    have hB4 : Below w.heap.size w w4 := ((hb1.trans (hB2.mono hb1.size)).trans hb3).trans (((Below.refl w.heap.size w3).alloc hsz3 _).trans hb4)
    clear hb3 hb4 hr2 hr1 hB2 hg2 hs1
    refine (Put_any _ head u w4 hu (by omega) hpre).mono ?_
    rintro e w5 ⟨v5, rfl, hown5, hb5⟩
    have hroom5 := hroom.below hb5 (Nat.le_refl _)
    go_wp2_with fail
    refine (refbytes_any u w5 hu).mono ?_
    rintro e w6 ⟨v6, rfl, hown6, hb6⟩
    have hs6 := str_of (hroom5.below hb6 (Nat.le_refl _))
    have hs5 := str_of ((Reads.of_owns hown5).below hb6 (Nat.le_refl _))
    have hs7 := str_of (Reads.of_owns hown6)
    obtain ⟨a6, c6, rfl⟩ := owns_slice hown6
    have hB6 : Below w.heap.size w w6 := (hB4.trans (hb5.mono hB4.size)).trans (hb6.mono (Nat.le_trans hB4.size hb5.size))
    clear hown5 hown6 hb5 hb6 hroom hroom5 hpre hB4 hb1 hr
    go_wp2_with fail
    refine (zig_any n w6 hn.1 hn.2).mono ?_
    rintro e w' ⟨rfl, rfl⟩
    go_wp2_with fail
    refine (refzig_any n w6 hn).mono ?_
    rintro e w' ⟨rfl, rfl⟩
    go_wp2_with fail
    refine (zag_any u w6 hu).mono ?_
    rintro e w' ⟨rfl, rfl⟩
    go_wp2_with fail
    refine (refzag_any u w6 hu).mono ?_
    rintro e w' ⟨rfl, rfl⟩
    go_wp2_with fail
    refine (size_any u w6 hu).mono ?_
    rintro e w' ⟨rfl, rfl⟩
    have hcat := str_cat
    have hul10 : (Lib.uvarint u).length ≤ 10 := ulen_le hu
    have hul : ((ulen u : Int) == ((Lib.uvarint u).length : Int)) = true := by simp [ulen]
    go_wp2_with fail
    go_ret
    exact ⟨rfl, hB6⟩

end Go.Proofs.Ytmdojdpokghihaa
