/- CodecBack: what is decoded of a kind's bytes, and of them cut short; the walk. -/
import Derived.Test.YtgegbfhjophdfaaCm
import Derived.Test.YtgegbfhjophdfaaCg
import Derived.Test.YtgegbfhjophdfaaKc
namespace Go.Proofs.Ytgegbfhjophdfaa
open Go Go.RowKit

theorem asL_parts {k : Nat} {l : List Int} {y : List UInt8} (hy : asL (k : Int) l = some y) :
    ∃ x, kindL (k : Int) l = some x ∧ l.length ≤ 4096 ∧ y = UInt8.ofNat k :: (Lib.uvarint l.length ++ allBytes x) := by
  unfold asL at hy
  split at hy
  · cases hy
  · cases hx : kindL (k : Int) l with
    | none => rw [hx] at hy; cases hy
    | some x =>
      rw [hx] at hy
      cases hy
      exact ⟨x, rfl, by omega, by simp⟩

theorem as_length {k : Nat} {l : List Int} {y : List UInt8} (hl : ∀ n ∈ l, I64 n) (hy : asL (k : Int) l = some y) : 1 ≤ y.length ∧ y.length ≤ 50000 := by
  obtain ⟨x, hx, hlen, rfl⟩ := asL_parts hy
  obtain ⟨hx1, hx2⟩ := kindL_i64 hl hx
  have h1 := allBytes_length hx1
  have h2 : (Lib.uvarint l.length).length ≤ 10 := ulen_le (u := l.length) (by unfold U64; omega)
  simp only [List.length_cons, List.length_append]
  omega

theorem Decode_back (k : Nat) (v : Value) (l : List Int) (y behind : List UInt8) (w : World) (hk : k < 4) (hl : ∀ n ∈ l, I64 n) (hy : asL (k : Int) l = some y) (hb : behind.length ≤ 100)
    (hr : Reads w b8 v (y ++ behind)) : Calls Try.prog 14 #[v] w (DecEnd l behind 0 w) := by
  have hlen := as_length hl hy
  obtain ⟨x, hx, hn, rfl⟩ := asL_parts hy
  obtain ⟨hx1, hx2⟩ := kindL_i64 hl hx
  obtain ⟨h1, h2, h3⟩ := undo_back k l x hk hl hx
  have hu : U64 l.length := by unfold U64; omega
  have h := Decode_good k v (Lib.uvarint l.length ++ (allBytes x ++ behind)) l.length (Lib.uvarint l.length).length x behind w hk (by simpa using hr)
    (by simp only [List.length_cons, List.length_append] at hlen ⊢; omega) (take_uvarint hu _) hn h1
    (by rw [List.drop_left, ← h2, takeN_all x hx1]) h2
  rw [h3] at h
  exact h

theorem Decode_short (k : Nat) (v : Value) (l : List Int) (y : List UInt8) (w : World) (hk : k < 4) (hl : ∀ n ∈ l, I64 n) (hy : asL (k : Int) l = some y)
    (hr : Reads w b8 v y.dropLast) : Calls Try.prog 14 #[v] w (DecEnd [] [] 10 w) := by
  have hlen := as_length hl hy
  obtain ⟨x, hx, hn, rfl⟩ := asL_parts hy
  obtain ⟨hx1, hx2⟩ := kindL_i64 hl hx
  obtain ⟨h1, h2, h3⟩ := undo_back k l x hk hl hx
  have hu : U64 l.length := by unfold U64; omega
  by_cases hx0 : x = []
  · subst hx0
    have h4 : k = 2 ∧ l.length = 0 := by
      rw [List.length_nil] at h2
      unfold haveOf at h2
      unfold leastOf at h1
      split at h2
      · omega
      · split at h1
        · omega
        · split at h1 <;> omega
    obtain ⟨rfl, h5⟩ := h4
    rw [h5] at hr
    rw [show (UInt8.ofNat 2 :: (Lib.uvarint 0 ++ allBytes [])).dropLast = [2] from by rw [uv_small 0 (by decide)]; rfl] at hr
    exact Decode_two v w hr
  · have hne := allBytes_ne hx0
    have e1 : (UInt8.ofNat k :: (Lib.uvarint l.length ++ allBytes x)).dropLast = UInt8.ofNat k :: (Lib.uvarint l.length ++ (allBytes x).dropLast) := by
      rw [← List.dropLast_append_of_ne_nil hne, List.dropLast_cons_of_ne_nil]
      simp [hne]
    rw [e1] at hr
    refine Decode_cut k v (Lib.uvarint l.length ++ (allBytes x).dropLast) l.length (Lib.uvarint l.length).length w hk hr
      (by simp only [List.length_cons, List.length_append, List.length_dropLast] at hlen ⊢; omega) (take_uvarint hu _) hn h1 ?_
    rw [List.drop_left, ← h2]
    exact takeN_cut x hx1 hx0

def BackLoop (w : World) (k : Value) (wr : World) : Prop := ∃ j : Nat, j ≤ 4 ∧ k = .int .i64 (j : Int) ∧ Below w.heap.size w wr

set_option maxRecDepth 100000 in
set_option maxHeartbeats 4000000 in
theorem backC_walk (v : Value) (l : List Int) (vb : Value) (behind : List UInt8) (w : World) (hl : ∀ n ∈ l, I64 n) (hrl : Reads w vi64 v l) (hrb : Reads w b8 vb behind) :
    Calls Try.prog 4 #[v, vb] w (TrueEnd w) := by
  obtain ⟨i0, hi, hz0, hz1, hz2⟩ := info_parts info_u8
  have hml := hrl.len_le
  have hmb := hrb.len_le
  simp only [maxLen] at hml hmb
  obtain ⟨al, cl, rfl⟩ := hrl.slice
  obtain ⟨ab, cb, rfl⟩ := hrb.slice
  by_cases hbig1 : 4096 < l.length
  · go_enter Try.func4, Try.ntmps4
    go_wp2_with fail
    refine (awake_any w).mono ?_
    rintro e w1 ⟨rfl, hb1⟩
    go_wp2_with fail
    go_ret
    exact ⟨rfl, hb1⟩
  by_cases hbig2 : 100 < behind.length
  · go_enter Try.func4, Try.ntmps4
    go_wp2_with fail
    refine (awake_any w).mono ?_
    rintro e w1 ⟨rfl, hb1⟩
    go_wp2_with fail
    go_ret
    exact ⟨rfl, hb1⟩
  go_enter Try.func4, Try.ntmps4
  go_wp2_with fail
  refine (awake_any w).mono ?_
  rintro e w1 ⟨rfl, hb1⟩
  have hrl1 := hrl.below hb1 (Nat.le_refl _)
  have hrb1 := hrb.below hb1 (Nat.le_refl _)
  clear hrl hrb
  go_wp2_with fail
  go_loopw [6] (fun k w' => BackLoop w1 k w') (fun k _ => 4 - (intOf k).toNat)
  case atStart => exact ⟨0, by omega, rfl, Below.refl _ _⟩
  case round =>
    obtain ⟨j, hj, rfl, hbel⟩ := hrel
    by_cases hlt : j < 4
    · cases hy : asL (j : Int) l with
      | none =>
        go_wp2_with fail
        refine (As_any (j : Int) _ l _ hl (hrl1.below hbel (Nat.le_refl _))).mono ?_
        rintro e w3 ⟨v3, rfl, hown3, hb3⟩
        have hbel3 := hbel.trans (hb3.mono hbel.size)
        rw [hy]
        go_wp2_with fail
        go_roundw
        case rel => exact ⟨j + 1, by omega, by go_num, hbel3⟩
        case measure => simp [intOf]; omega
      | some y =>
        have HY := Lib.hid hy
        clear hy
        go_wp2_with fail
        refine (As_any (j : Int) _ l _ hl (hrl1.below hbel (Nat.le_refl _))).mono ?_
        rintro e w3 ⟨v3, rfl, hown3, hb3⟩
        have hbel3 := hbel.trans (hb3.mono hbel.size)
        rw [HY.out] at hown3 ⊢
        obtain ⟨hy1, hy2⟩ := as_length hl HY.out
        have hr3 : Reads w3 b8 v3 y := Reads.of_owns hown3
        have hr33 := hr3
        have hrb3 := hrb1.below hbel3 (Nat.le_refl _)
        have hsz3 := hbel3.size
        clear hown3
        obtain ⟨a3, c3, rfl⟩ := hr3.slice
        have hown0 : (w3.alloc (.cells #[] 5)).ownsRow w3.heap.size 5 1 (.slice (some ⟨w3.heap.size, 0, none⟩) 0 0) ([] : List UInt8).length (([] : List UInt8).map b8) := World.ownsRow_lit w3 #[] 0 (Nat.le_refl _) (by simp [maxLen]) rfl
        have hrA := hr3.alloc (.cells #[] 5)
        have hrbA := hrb3.alloc (.cells #[] 5)
        have hbA : Below w3.heap.size w3 (w3.alloc (.cells #[] 5)) := (Below.refl _ _).alloc (Nat.le_refl _) _
        have hszA := hbA.size
        clear hrb3
        go_wp2_with (first
          | (at_builtin; refine wpList_extend rfl (.tmp 39) (.tmp 40) 24 rfl w3.heap.size 5 i0 _ 1 Try.underlying24 hi hz0 hz1 hz2 rfl b8 [] y _ _ (fun _ => rfl) rfl hown0 rfl hrA (by simp only [maxLen, List.length_nil]; omega) (by simp only [List.length_nil]; omega) hszA ?_; intro v4 w4 hown4 hb4 _; rw [List.nil_append] at hown4; have hB4 := hbA.trans hb4; clear hown0 hrA hbA hszA hb4; have hrb4 := hrb1.below (hbel3.trans (hB4.mono hsz3)) (Nat.le_refl _); have hsz4 := hB4.size)
          | (at_builtin; refine wpList_extend rfl (.tmp 41) (.tmp 42) 24 rfl w3.heap.size 5 i0 _ 1 Try.underlying24 hi hz0 hz1 hz2 rfl b8 y behind _ _ (fun _ => rfl) rfl hown4 rfl hrb4 (by simp only [maxLen]; omega) (by omega) hsz4 ?_; intro v5 w5 hown5 hb5 _; have hB5 := hB4.trans hb5))
        have hr5 := Reads.of_owns hown5
        have hbel5 := hbel3.trans (hB5.mono hsz3)
        have hr35 := hr33.below hB5 (Nat.le_refl _)
        have hk4 : j < 4 := hlt
        clear hown4 hown5 hB4 hB5 hb5 hsz4 hrbA hr3 hr33 hrb4 hi hz0 hz1 hz2
        refine (Decode_back j _ l y behind w5 hk4 hl HY.out (by omega) hr5).mono ?_
        rintro e w6 ⟨v6, v7, rfl, hr6, hr7, hb6⟩
        have hbel6 := hbel5.trans (hb6.mono hbel5.size)
        have hr36 := hr35.below hb6 (Nat.le_refl _)
        have hcut := hr36.head (y.length - 1) (Nat.sub_le _ _)
        obtain ⟨hc1, hc2⟩ := hr36.len_cap
        simp only [maxLen] at hc2
        rw [← List.dropLast_eq_take] at hcut
        clear hr5 hr35 hr36 hb6 hbel5
        go_wp2_with fail
        refine (Decode_short j _ l y w6 hk4 hl HY.out hcut).mono ?_
        rintro e w7 ⟨v8, v9, rfl, hr8, hr9, hb7⟩
        have hbel7 := hbel6.trans (hb7.mono hbel6.size)
        have hr67 := hr6.below hb7 (Nat.le_refl _)
        have hr77 := hr7.below hb7 (Nat.le_refl _)
        clear hcut hr6 hr7 hr8 hr9 hb7 hbel6
        go_wp2_with fail
        refine (Same_true _ _ l w7 hr67 (hrl1.below hbel7 (Nat.le_refl _))).mono ?_
        rintro e w9 ⟨rfl, m, rfl⟩
        have hs1 := str_of (hr77.drewN m)
        have hs2 := str_of ((hrb1.below hbel7 (Nat.le_refl _)).drewN m)
        have hbel8 := Below.drewN hbel7 m
        clear hr67 hr77 hbel7
        go_wp2_with fail
        go_roundw
        case rel => exact ⟨j + 1, by omega, by go_num, hbel8⟩
        case measure => simp [intOf]; omega
    · go_wp2_with fail
      go_ret
      exact ⟨rfl, hb1.trans (hbel.mono hb1.size)⟩

end Go.Proofs.Ytgegbfhjophdfaa
