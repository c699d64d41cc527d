/- codec: Decode. -/
import Derived.Test.YtgegbfhjophdfaaCe
import Derived.Test.YtgegbfhjophdfaaVm
import Derived.Test.YtgegbfhjophdfaaVn
import Derived.Test.YtgegbfhjophdfaaVe
namespace Go.Proofs.Ytgegbfhjophdfaa
open Go Go.RowKit

def wadd (a b : Int) : Int := wrap64 (a + b)
/-- The step at place i. -/
def stepOf (k : Nat) (x : List Int) (i : Nat) (s : Int) : Int :=
  if k = 1 then x.getD 1 0 else if k = 2 then x.getD i 0 else if k = 3 then wadd s (x.getD i 0) else s
/-- The number and the step at a place. -/
def uv (k : Nat) (x : List Int) : Nat → Int × Int
  | 0 => (x.getD 0 0, 0)
  | i + 1 => (wadd (uv k x i).1 (stepOf k x (i + 1) (uv k x i).2), stepOf k x (i + 1) (uv k x i).2)
def undoL (k : Nat) (x : List Int) (n : Nat) : List Int := (List.range n).map fun i => (uv k x i).1
theorem undoL_length (k : Nat) (x : List Int) (n : Nat) : (undoL k x n).length = n := by simp [undoL]
theorem undoL_get (k : Nat) (x : List Int) (n i : Nat) (h : i < n) : (undoL k x n).getD i 0 = (uv k x i).1 := by simp [undoL, h]

def DecEnd (out : List Int) (rest : List UInt8) (er : Nat) (w : World) (e : Ending) (w' : World) : Prop :=
  ∃ v1 v2, e = .returned (.tuple #[v1, v2, .int .i64 (er : Int)]) ∧ Reads w' vi64 v1 out ∧ Reads w' b8 v2 rest ∧ Below w.heap.size w w'

def DecRel (k : Nat) (x : List Int) (n : Nat) (B g : Nat) (w : World) (i s : Value) (wr : World) : Prop :=
  ∃ j : Nat, j ≤ n ∧ i = .int .i64 (j : Int) ∧ s = .int .i64 (uv k x (j - 1)).2 ∧ wr.ownsRow B 2 1 (.slice (some ⟨g, 0, none⟩) n n) n (((undoL k x n).take j ++ (List.replicate n 0).drop j).map vi64) ∧ Below B w wr

/-- The least count of a kind, and how many numbers it has. -/
def leastOf (k : Nat) : Nat := if k = 0 then 1 else if k = 2 then 0 else 2
def haveOf (k n : Nat) : Nat := if k ≤ 1 then k + 1 else n

theorem index_least (k : Nat) (hk : k < 4) (W : World) : (Instr.index 52 (.agg #[.int .i64 1, .int .i64 2, .int .i64 0, .int .i64 2]) (.int .i64 (k : Int))).run Try.prog W = .ok (.int .i64 (leastOf k : Int)) W := by
  rcases (show k = 0 ∨ k = 1 ∨ k = 2 ∨ k = 3 by omega) with rfl | rfl | rfl | rfl <;> rfl

set_option maxRecDepth 100000 in
set_option maxHeartbeats 4000000 in
theorem Decode_good (k : Nat) (v : Value) (r : List UInt8) (n t : Nat) (x : List Int) (rest : List UInt8) (w : World) (hk : k < 4)
    (hr : Reads w b8 v (UInt8.ofNat k :: r)) (hl : r.length ≤ 1000000)
    (ht : takeF 0 0 r = (n, t, 0)) (hn : n ≤ 4096) (hle : leastOf k ≤ n) (hx : takeN (haveOf k n) (r.drop t) = (x, rest, 0)) (hxl : x.length = haveOf k n) :
    Calls Try.prog 14 #[v] w (DecEnd (undoL k x n) rest 0 w) := by
  obtain ⟨i0, hi, hz0, hz1, hz2⟩ := info_parts info_i64c
  obtain ⟨b, off, cap, rfl, h1, h2, h3, h4⟩ : ∃ b off cap, v = .slice (some ⟨b, off, none⟩) (r.length + 1) cap ∧ r.length + 1 ≤ cap ∧ cap ≤ maxLen ∧ b < w.heap.size ∧
        ∀ i (h : i < (UInt8.ofNat k :: r).length), w.cell? ⟨b, off + i, none⟩ = some (b8 (UInt8.ofNat k :: r)[i]) := by
    rcases hr with ⟨h, _⟩ | h
    · cases h
    · simpa using h
  have hb8 : b8 (UInt8.ofNat k) = .int .u8 (k : Int) := by
    match k, hk with
    | 0, _ => rfl
    | 1, _ => rfl
    | 2, _ => rfl
    | 3, _ => rfl
  have hcell : w.cell? ⟨b, off, none⟩ = some (.int .u8 (k : Int)) := by
    have := h4 0 (by simp)
    rw [Nat.add_zero] at this
    rw [this]
    exact congrArg some hb8
  obtain ⟨vt, hsl0, hrt⟩ := slice_tail (P := Try.prog) (k := 1) Try.underlying24 cell_u8 hr (by simp)
  have hsl : ∀ W : World, (Instr.slice 24 (.slice (some ⟨b, off, none⟩) (r.length + 1) cap) (some (.int .i64 1)) none none).run Try.prog W = .ok vt W := hsl0
  have hTake : Calls Try.prog 29 #[vt] w (TakeEnd3 r w) := Take_any _ r w (by omega) hrt
  have hrest : Hid (takeRest r = r.drop t) := by rw [Hid, takeRest, ht]; rfl
  clear h4 hsl0 hrt
  have HT := Lib.hid ht
  have HX := Lib.hid hx
  clear ht hx
  have hqn : ((r.length : Int) + 1 == 0) = false := by simp; omega
  have h1' : (r.length : Int) + 1 ≤ cap := by omega
  have h2' : cap ≤ 9223372036854775807 := by simp only [maxLen] at h2; exact h2
  go_enter Try.func14, Try.ntmps14
  go_wp2_with fail
  refine hTake.mono ?_
  rintro e w1 ⟨v1, rfl, hown1, hb1⟩
  rw [HT.out]
  rw [hrest.out] at hown1
  have hr1 := Reads.of_owns hown1
  have hd : (r.drop t).length ≤ 1000000 := by rw [List.length_drop]; omega
  clear hTake hown1
  have hn' : (n : Int) ≤ 4096 := by omega
  have hn0 : n = 0 ∨ 1 ≤ n := by omega
  rcases hn0 with rfl | hn1
  · obtain rfl : k = 2 := by
      unfold leastOf at hle
      split at hle
      · omega
      · split at hle <;> omega
    rw [show haveOf 2 0 = 0 from rfl] at HX hxl
    have hTA := TakeAll_any v1 (r.drop t) 0 w1 (by omega) (by omega) hr1
    have hix : ∀ W : World, (Instr.index 52 (.agg #[.int .i64 1, .int .i64 2, .int .i64 0, .int .i64 2]) (.int .i64 2)).run Try.prog W = .ok (.int .i64 0) W := index_least 2 hk
    go_wp2_with fail
    refine hTA.mono ?_
    rintro e w2 ⟨v2, v3, rfl, hown2, hown3, hb2⟩
    rw [HX.out] at hown3 ⊢
    have hr3 := Reads.of_owns hown3
    have hb02 := hb1.trans (hb2.mono hb1.size)
    clear hown2 hown3 hTA hr1 hsl hr hcell
    go_wp2_with (at_make; refine wpList_make_full _ rfl _ _ 22 rfl w2.heap.size 2 i0 _ 1 Try.underlying22 hi hz0 hz1 .i64 .i64 0 0 0 rfl rfl rfl rfl (by rw [hz2]; omega) (by simp only [maxLen]; omega) (Nat.le_refl _) ?_; intro w3 hown hg3)
    have hb3 : Below w2.heap.size w2 w3 := (Below.refl _ _).grown hg3 (Nat.le_refl _) (fun k hk => by cases hk)
    have hr33 := hr3.below hb3 (Nat.le_refl _)
    have hb03 := hb02.trans (hb3.mono hb02.size)
    refine wp_loop_rounds 1 ?_
    rw [rounds_succ]
    go_wp2_with fail
    go_ret3
    exact ⟨.slice (some ⟨w2.heap.size, 0, none⟩) 0 0, _, rfl, .inl ⟨rfl, _, _, rfl, Nat.zero_le _, fun h => by cases h⟩, hr33, hb03⟩
  rcases (show k = 3 ∨ k = 0 ∨ k = 1 ∨ k = 2 by omega) with rfl | rfl | rfl | rfl
  · have hhave : haveOf 3 n = n := rfl
    rw [hhave] at HX hxl
    have hln : (2 : Int) ≤ n := by have : leastOf 3 = 2 := rfl; omega
    have hTA := TakeAll_any v1 (r.drop t) n w1 (by omega) (by omega) hr1
    have hix : ∀ W : World, (Instr.index 52 (.agg #[.int .i64 1, .int .i64 2, .int .i64 0, .int .i64 2]) (.int .i64 3)).run Try.prog W = .ok (.int .i64 2) W := index_least 3 hk
    go_wp2_with fail
    refine hTA.mono ?_
    rintro e w2 ⟨v2, v3, rfl, hown2, hown3, hb2⟩
    rw [HX.out] at hown2 hown3 ⊢
    have hr2 := Reads.of_owns hown2
    have hr3 := Reads.of_owns hown3
    have hb02 := hb1.trans (hb2.mono hb1.size)
    obtain ⟨g2, c2, rfl, hc2, hc2'⟩ := owns_some hown2 (by show x.length ≠ 0; omega)
    clear hown2 hown3 hTA hr1 hsl hr hcell
    go_wp2_with (at_make; refine wpList_make_full _ rfl _ _ 22 rfl w2.heap.size 2 i0 _ 1 Try.underlying22 hi hz0 hz1 .i64 .i64 n n n rfl rfl rfl rfl (by rw [hz2]; omega) (by simp only [maxLen]; omega) (Nat.le_refl _) ?_; intro w3 hown hg3)
    rw [show (Value.int .i64 0).cells = #[.int .i64 0] from rfl, Nat.mul_one, toList_madeCells_one] at hown
    have hb3 : Below w2.heap.size w2 w3 := (Below.refl _ _).grown hg3 (Nat.le_refl _) (fun k hk => by cases hk)
    clear hg3
    have hxc0 : ∀ (W : World), Below w2.heap.size w2 W → ∀ i, i < x.length → W.cell? ⟨g2, i, none⟩ = some (.int .i64 (x.getD i 0)) := by
      intro W hW i hi
      obtain ⟨b', o', he, hc⟩ := (hr2.below hW (Nat.le_refl _)).elem hi
      simp only [Option.some.injEq, Addr.mk.injEq, and_true] at he
      obtain ⟨rfl, rfl⟩ := he
      rw [Nat.zero_add] at hc
      rw [hc]
      simp [hi, vi64]
    go_loopw [67, 14] (fun i s wr => DecRel 3 x n w2.heap.size w2.heap.size w2 i s wr) (fun i _ _ => n - (intOf i).toNat)
    case atStart => exact ⟨0, by omega, rfl, rfl, by simpa [vi64] using hown, hb3⟩
    case round =>
      obtain ⟨j, hj, rfl, rfl, hown, hbel⟩ := hrel
      by_cases hlt : j < n
      · have hxc := hxc0 wr hbel
        clear hxc0
        have hx0 := hxc 0 (by omega)
        have hfz := hown.frozenAt j
        obtain ⟨yc, hcell⟩ : ∃ y, wr.cell? ⟨w2.heap.size, j, none⟩ = some y := ⟨_, (hown.cellAt j (by omega)).trans (List.getElem?_eq_getElem (by simp [undoL_length]; omega))⟩
        have hsu := set_upto (F := undoL 3 x n) (l := List.replicate n 0) (by simp [undoL_length]) j (by simpa using hlt)
        rw [undoL_get _ _ _ _ hlt] at hsu
        have hst := fun y => own_store hown j y hbel
        by_cases hj0 : j = 0
        · subst hj0
          have hst1 := hst (x.getD 0 0)
          rw [show x.getD 0 0 = (uv 3 x 0).1 from rfl, hsu] at hst1
          rw [show (uv 3 x 0).1 = x.getD 0 0 from rfl] at hst1
          clear hst hsu hxc
          generalize x.getD 0 0 = y at hx0 hst1
          go_wp2_with fail
          go_roundw
          case rel => exact ⟨1, by omega, by go_num, rfl, hst1.1, hst1.2⟩
          case measure => simp [intOf]; omega
        · have hjj : j = (j - 1) + 1 := by omega
          have hxj := hxc j (by omega)
          have hcut : (((undoL 3 x n).take j ++ (List.replicate n 0).drop j).map vi64)[j - 1]? = some (.int .i64 (uv 3 x (j - 1)).1) := by
            have h5 := undoL_get 3 x n (j - 1) (by omega)
            rw [List.getD_eq_getElem?_getD] at h5
            rw [List.getElem?_map, List.getElem?_append_left (by simp [undoL_length]; omega), List.getElem?_take_of_lt (by omega)]
            rw [List.getElem?_eq_getElem (by rw [undoL_length]; omega)] at h5 ⊢
            simp only [Option.getD_some] at h5
            rw [h5]
            rfl
          have hprev : wr.cell? ⟨w2.heap.size, j - 1, none⟩ = some (.int .i64 (uv 3 x (j - 1)).1) := (hown.cellAt (j - 1) (by omega)).trans hcut
          have hstep : uv 3 x j = (wadd (uv 3 x (j - 1)).1 (wadd (uv 3 x (j - 1)).2 (x.getD j 0)), wadd (uv 3 x (j - 1)).2 (x.getD j 0)) := by
            rw [hjj]
            rfl
          have hstS := hst (uv 3 x j).1
          rw [hsu] at hstS
          clear hst hsu hxc hcut hx0
          generalize (uv 3 x (j - 1)).1 = pp at hprev hstep
          generalize (uv 3 x (j - 1)).2 = ss at hstep ⊢
          generalize x.getD j 0 = y at hxj hstep
          have hst1 := hstS
          rw [hstep] at hst1
          unfold wadd at hst1
          have HS : Hid (uv 3 x j = ((wrap64 (pp + wrap64 (ss + y))), wrap64 (ss + y))) := by rw [Hid, hstep]; rfl
          clear hstS hstep
          have hz : (j : Int) - 1 = ((j - 1 : Nat) : Int) := by omega
          have hq0 : ((j : Int) == 0) = false := by simp; omega
          clear hjj
          go_wp2_with fail
          go_roundw
          case rel => exact ⟨j + 1, by omega, by go_num, by rw [Nat.add_sub_cancel, HS.out], hst1.1, hst1.2⟩
          case measure => simp [intOf]; omega
      · have hjn : j = n := by omega
        subst hjn
        rw [List.take_of_length_le (Nat.le_of_eq (undoL_length _ _ _)), List.drop_eq_nil_of_le (by simp), List.append_nil] at hown
        have hr33 := hr3.below hbel (Nat.le_refl _)
        have hown2 : wr.ownsRow w2.heap.size 2 1 (.slice (some ⟨w2.heap.size, 0, none⟩) j j) (undoL 3 x j).length ((undoL 3 x j).map vi64) := by rw [undoL_length]; exact hown
        have hro := Reads.of_owns hown2
        have hb04 := hb02.trans (hbel.mono hb02.size)
        clear hown hown2 hxc0
        go_wp2_with fail
        go_ret3
        exact ⟨_, _, rfl, hro, hr33, hb04⟩
  · have hhave : haveOf 0 n = 1 := rfl
    rw [hhave] at HX hxl
    have hln : (1 : Int) ≤ n := by have : leastOf 0 = 1 := rfl; omega
    have hTA := TakeAll_any v1 (r.drop t) 1 w1 (by omega) (by omega) hr1
    have hix : ∀ W : World, (Instr.index 52 (.agg #[.int .i64 1, .int .i64 2, .int .i64 0, .int .i64 2]) (.int .i64 0)).run Try.prog W = .ok (.int .i64 1) W := index_least 0 hk
    go_wp2_with fail
    refine hTA.mono ?_
    rintro e w2 ⟨v2, v3, rfl, hown2, hown3, hb2⟩
    rw [HX.out] at hown2 hown3 ⊢
    have hr2 := Reads.of_owns hown2
    have hr3 := Reads.of_owns hown3
    have hb02 := hb1.trans (hb2.mono hb1.size)
    obtain ⟨g2, c2, rfl, hc2, hc2'⟩ := owns_some hown2 (by show x.length ≠ 0; omega)
    clear hown2 hown3 hTA hr1 hsl hr hcell
    go_wp2_with (at_make; refine wpList_make_full _ rfl _ _ 22 rfl w2.heap.size 2 i0 _ 1 Try.underlying22 hi hz0 hz1 .i64 .i64 n n n rfl rfl rfl rfl (by rw [hz2]; omega) (by simp only [maxLen]; omega) (Nat.le_refl _) ?_; intro w3 hown hg3)
    rw [show (Value.int .i64 0).cells = #[.int .i64 0] from rfl, Nat.mul_one, toList_madeCells_one] at hown
    have hb3 : Below w2.heap.size w2 w3 := (Below.refl _ _).grown hg3 (Nat.le_refl _) (fun k hk => by cases hk)
    clear hg3
    have hxc0 : ∀ (W : World), Below w2.heap.size w2 W → ∀ i, i < x.length → W.cell? ⟨g2, i, none⟩ = some (.int .i64 (x.getD i 0)) := by
      intro W hW i hi
      obtain ⟨b', o', he, hc⟩ := (hr2.below hW (Nat.le_refl _)).elem hi
      simp only [Option.some.injEq, Addr.mk.injEq, and_true] at he
      obtain ⟨rfl, rfl⟩ := he
      rw [Nat.zero_add] at hc
      rw [hc]
      simp [hi, vi64]
    go_loopw [67, 14] (fun i s wr => DecRel 0 x n w2.heap.size w2.heap.size w2 i s wr) (fun i _ _ => n - (intOf i).toNat)
    case atStart => exact ⟨0, by omega, rfl, rfl, by simpa [vi64] using hown, hb3⟩
    case round =>
      obtain ⟨j, hj, rfl, rfl, hown, hbel⟩ := hrel
      by_cases hlt : j < n
      · have hxc := hxc0 wr hbel
        clear hxc0
        have hx0 := hxc 0 (by omega)
        have hfz := hown.frozenAt j
        obtain ⟨yc, hcell⟩ : ∃ y, wr.cell? ⟨w2.heap.size, j, none⟩ = some y := ⟨_, (hown.cellAt j (by omega)).trans (List.getElem?_eq_getElem (by simp [undoL_length]; omega))⟩
        have hsu := set_upto (F := undoL 0 x n) (l := List.replicate n 0) (by simp [undoL_length]) j (by simpa using hlt)
        rw [undoL_get _ _ _ _ hlt] at hsu
        have hst := fun y => own_store hown j y hbel
        by_cases hj0 : j = 0
        · subst hj0
          have hst1 := hst (x.getD 0 0)
          rw [show x.getD 0 0 = (uv 0 x 0).1 from rfl, hsu] at hst1
          rw [show (uv 0 x 0).1 = x.getD 0 0 from rfl] at hst1
          clear hst hsu hxc
          generalize x.getD 0 0 = y at hx0 hst1
          go_wp2_with fail
          go_roundw
          case rel => exact ⟨1, by omega, by go_num, rfl, hst1.1, hst1.2⟩
          case measure => simp [intOf]; omega
        · have hjj : j = (j - 1) + 1 := by omega
          
          have hcut : (((undoL 0 x n).take j ++ (List.replicate n 0).drop j).map vi64)[j - 1]? = some (.int .i64 (uv 0 x (j - 1)).1) := by
            have h5 := undoL_get 0 x n (j - 1) (by omega)
            rw [List.getD_eq_getElem?_getD] at h5
            rw [List.getElem?_map, List.getElem?_append_left (by simp [undoL_length]; omega), List.getElem?_take_of_lt (by omega)]
            rw [List.getElem?_eq_getElem (by rw [undoL_length]; omega)] at h5 ⊢
            simp only [Option.getD_some] at h5
            rw [h5]
            rfl
          have hprev : wr.cell? ⟨w2.heap.size, j - 1, none⟩ = some (.int .i64 (uv 0 x (j - 1)).1) := (hown.cellAt (j - 1) (by omega)).trans hcut
          have hstep : uv 0 x j = (wadd (uv 0 x (j - 1)).1 ((uv 0 x (j - 1)).2), (uv 0 x (j - 1)).2) := by
            rw [hjj]
            rfl
          have hstS := hst (uv 0 x j).1
          rw [hsu] at hstS
          clear hst hsu hxc hcut hx0
          generalize (uv 0 x (j - 1)).1 = pp at hprev hstep
          generalize (uv 0 x (j - 1)).2 = ss at hstep ⊢
          
          have hst1 := hstS
          rw [hstep] at hst1
          unfold wadd at hst1
          have HS : Hid (uv 0 x j = ((wrap64 (pp + ss)), ss)) := by rw [Hid, hstep]; rfl
          clear hstS hstep
          have hz : (j : Int) - 1 = ((j - 1 : Nat) : Int) := by omega
          have hq0 : ((j : Int) == 0) = false := by simp; omega
          clear hjj
          go_wp2_with fail
          go_roundw
          case rel => exact ⟨j + 1, by omega, by go_num, by rw [Nat.add_sub_cancel, HS.out], hst1.1, hst1.2⟩
          case measure => simp [intOf]; omega
      · have hjn : j = n := by omega
        subst hjn
        rw [List.take_of_length_le (Nat.le_of_eq (undoL_length _ _ _)), List.drop_eq_nil_of_le (by simp), List.append_nil] at hown
        have hr33 := hr3.below hbel (Nat.le_refl _)
        have hown2 : wr.ownsRow w2.heap.size 2 1 (.slice (some ⟨w2.heap.size, 0, none⟩) j j) (undoL 0 x j).length ((undoL 0 x j).map vi64) := by rw [undoL_length]; exact hown
        have hro := Reads.of_owns hown2
        have hb04 := hb02.trans (hbel.mono hb02.size)
        clear hown hown2 hxc0
        go_wp2_with fail
        go_ret3
        exact ⟨_, _, rfl, hro, hr33, hb04⟩
  · have hhave : haveOf 1 n = 2 := rfl
    rw [hhave] at HX hxl
    have hln : (2 : Int) ≤ n := by have : leastOf 1 = 2 := rfl; omega
    have hTA := TakeAll_any v1 (r.drop t) 2 w1 (by omega) (by omega) hr1
    have hix : ∀ W : World, (Instr.index 52 (.agg #[.int .i64 1, .int .i64 2, .int .i64 0, .int .i64 2]) (.int .i64 1)).run Try.prog W = .ok (.int .i64 2) W := index_least 1 hk
    go_wp2_with fail
    refine hTA.mono ?_
    rintro e w2 ⟨v2, v3, rfl, hown2, hown3, hb2⟩
    rw [HX.out] at hown2 hown3 ⊢
    have hr2 := Reads.of_owns hown2
    have hr3 := Reads.of_owns hown3
    have hb02 := hb1.trans (hb2.mono hb1.size)
    obtain ⟨g2, c2, rfl, hc2, hc2'⟩ := owns_some hown2 (by show x.length ≠ 0; omega)
    clear hown2 hown3 hTA hr1 hsl hr hcell
    go_wp2_with (at_make; refine wpList_make_full _ rfl _ _ 22 rfl w2.heap.size 2 i0 _ 1 Try.underlying22 hi hz0 hz1 .i64 .i64 n n n rfl rfl rfl rfl (by rw [hz2]; omega) (by simp only [maxLen]; omega) (Nat.le_refl _) ?_; intro w3 hown hg3)
    rw [show (Value.int .i64 0).cells = #[.int .i64 0] from rfl, Nat.mul_one, toList_madeCells_one] at hown
    have hb3 : Below w2.heap.size w2 w3 := (Below.refl _ _).grown hg3 (Nat.le_refl _) (fun k hk => by cases hk)
    clear hg3
    have hxc0 : ∀ (W : World), Below w2.heap.size w2 W → ∀ i, i < x.length → W.cell? ⟨g2, i, none⟩ = some (.int .i64 (x.getD i 0)) := by
      intro W hW i hi
      obtain ⟨b', o', he, hc⟩ := (hr2.below hW (Nat.le_refl _)).elem hi
      simp only [Option.some.injEq, Addr.mk.injEq, and_true] at he
      obtain ⟨rfl, rfl⟩ := he
      rw [Nat.zero_add] at hc
      rw [hc]
      simp [hi, vi64]
    go_loopw [67, 14] (fun i s wr => DecRel 1 x n w2.heap.size w2.heap.size w2 i s wr) (fun i _ _ => n - (intOf i).toNat)
    case atStart => exact ⟨0, by omega, rfl, rfl, by simpa [vi64] using hown, hb3⟩
    case round =>
      obtain ⟨j, hj, rfl, rfl, hown, hbel⟩ := hrel
      by_cases hlt : j < n
      · have hxc := hxc0 wr hbel
        clear hxc0
        have hx0 := hxc 0 (by omega)
        have hfz := hown.frozenAt j
        obtain ⟨yc, hcell⟩ : ∃ y, wr.cell? ⟨w2.heap.size, j, none⟩ = some y := ⟨_, (hown.cellAt j (by omega)).trans (List.getElem?_eq_getElem (by simp [undoL_length]; omega))⟩
        have hsu := set_upto (F := undoL 1 x n) (l := List.replicate n 0) (by simp [undoL_length]) j (by simpa using hlt)
        rw [undoL_get _ _ _ _ hlt] at hsu
        have hst := fun y => own_store hown j y hbel
        by_cases hj0 : j = 0
        · subst hj0
          have hst1 := hst (x.getD 0 0)
          rw [show x.getD 0 0 = (uv 1 x 0).1 from rfl, hsu] at hst1
          rw [show (uv 1 x 0).1 = x.getD 0 0 from rfl] at hst1
          clear hst hsu hxc
          generalize x.getD 0 0 = y at hx0 hst1
          go_wp2_with fail
          go_roundw
          case rel => exact ⟨1, by omega, by go_num, rfl, hst1.1, hst1.2⟩
          case measure => simp [intOf]; omega
        · have hjj : j = (j - 1) + 1 := by omega
          have hxj := hxc 1 (by omega)
          have hcut : (((undoL 1 x n).take j ++ (List.replicate n 0).drop j).map vi64)[j - 1]? = some (.int .i64 (uv 1 x (j - 1)).1) := by
            have h5 := undoL_get 1 x n (j - 1) (by omega)
            rw [List.getD_eq_getElem?_getD] at h5
            rw [List.getElem?_map, List.getElem?_append_left (by simp [undoL_length]; omega), List.getElem?_take_of_lt (by omega)]
            rw [List.getElem?_eq_getElem (by rw [undoL_length]; omega)] at h5 ⊢
            simp only [Option.getD_some] at h5
            rw [h5]
            rfl
          have hprev : wr.cell? ⟨w2.heap.size, j - 1, none⟩ = some (.int .i64 (uv 1 x (j - 1)).1) := (hown.cellAt (j - 1) (by omega)).trans hcut
          have hstep : uv 1 x j = (wadd (uv 1 x (j - 1)).1 (x.getD 1 0), x.getD 1 0) := by
            rw [hjj]
            rfl
          have hstS := hst (uv 1 x j).1
          rw [hsu] at hstS
          clear hst hsu hxc hcut hx0
          generalize (uv 1 x (j - 1)).1 = pp at hprev hstep
          generalize (uv 1 x (j - 1)).2 = ss at hstep ⊢
          generalize x.getD 1 0 = y at hxj hstep
          have hst1 := hstS
          rw [hstep] at hst1
          unfold wadd at hst1
          have HS : Hid (uv 1 x j = ((wrap64 (pp + y)), y)) := by rw [Hid, hstep]; rfl
          clear hstS hstep
          have hz : (j : Int) - 1 = ((j - 1 : Nat) : Int) := by omega
          have hq0 : ((j : Int) == 0) = false := by simp; omega
          clear hjj
          go_wp2_with fail
          go_roundw
          case rel => exact ⟨j + 1, by omega, by go_num, by rw [Nat.add_sub_cancel, HS.out], hst1.1, hst1.2⟩
          case measure => simp [intOf]; omega
      · have hjn : j = n := by omega
        subst hjn
        rw [List.take_of_length_le (Nat.le_of_eq (undoL_length _ _ _)), List.drop_eq_nil_of_le (by simp), List.append_nil] at hown
        have hr33 := hr3.below hbel (Nat.le_refl _)
        have hown2 : wr.ownsRow w2.heap.size 2 1 (.slice (some ⟨w2.heap.size, 0, none⟩) j j) (undoL 1 x j).length ((undoL 1 x j).map vi64) := by rw [undoL_length]; exact hown
        have hro := Reads.of_owns hown2
        have hb04 := hb02.trans (hbel.mono hb02.size)
        clear hown hown2 hxc0
        go_wp2_with fail
        go_ret3
        exact ⟨_, _, rfl, hro, hr33, hb04⟩
  · have hhave : haveOf 2 n = n := rfl
    rw [hhave] at HX hxl
    have hln : (0 : Int) ≤ n := by have : leastOf 2 = 0 := rfl; omega
    have hTA := TakeAll_any v1 (r.drop t) n w1 (by omega) (by omega) hr1
    have hix : ∀ W : World, (Instr.index 52 (.agg #[.int .i64 1, .int .i64 2, .int .i64 0, .int .i64 2]) (.int .i64 2)).run Try.prog W = .ok (.int .i64 0) W := index_least 2 hk
    go_wp2_with fail
    refine hTA.mono ?_
    rintro e w2 ⟨v2, v3, rfl, hown2, hown3, hb2⟩
    rw [HX.out] at hown2 hown3 ⊢
    have hr2 := Reads.of_owns hown2
    have hr3 := Reads.of_owns hown3
    have hb02 := hb1.trans (hb2.mono hb1.size)
    obtain ⟨g2, c2, rfl, hc2, hc2'⟩ := owns_some hown2 (by show x.length ≠ 0; omega)
    clear hown2 hown3 hTA hr1 hsl hr hcell
    go_wp2_with (at_make; refine wpList_make_full _ rfl _ _ 22 rfl w2.heap.size 2 i0 _ 1 Try.underlying22 hi hz0 hz1 .i64 .i64 n n n rfl rfl rfl rfl (by rw [hz2]; omega) (by simp only [maxLen]; omega) (Nat.le_refl _) ?_; intro w3 hown hg3)
    rw [show (Value.int .i64 0).cells = #[.int .i64 0] from rfl, Nat.mul_one, toList_madeCells_one] at hown
    have hb3 : Below w2.heap.size w2 w3 := (Below.refl _ _).grown hg3 (Nat.le_refl _) (fun k hk => by cases hk)
    clear hg3
    have hxc0 : ∀ (W : World), Below w2.heap.size w2 W → ∀ i, i < x.length → W.cell? ⟨g2, i, none⟩ = some (.int .i64 (x.getD i 0)) := by
      intro W hW i hi
      obtain ⟨b', o', he, hc⟩ := (hr2.below hW (Nat.le_refl _)).elem hi
      simp only [Option.some.injEq, Addr.mk.injEq, and_true] at he
      obtain ⟨rfl, rfl⟩ := he
      rw [Nat.zero_add] at hc
      rw [hc]
      simp [hi, vi64]
    go_loopw [67, 14] (fun i s wr => DecRel 2 x n w2.heap.size w2.heap.size w2 i s wr) (fun i _ _ => n - (intOf i).toNat)
    case atStart => exact ⟨0, by omega, rfl, rfl, by simpa [vi64] using hown, hb3⟩
    case round =>
      obtain ⟨j, hj, rfl, rfl, hown, hbel⟩ := hrel
      by_cases hlt : j < n
      · have hxc := hxc0 wr hbel
        clear hxc0
        have hx0 := hxc 0 (by omega)
        have hfz := hown.frozenAt j
        obtain ⟨yc, hcell⟩ : ∃ y, wr.cell? ⟨w2.heap.size, j, none⟩ = some y := ⟨_, (hown.cellAt j (by omega)).trans (List.getElem?_eq_getElem (by simp [undoL_length]; omega))⟩
        have hsu := set_upto (F := undoL 2 x n) (l := List.replicate n 0) (by simp [undoL_length]) j (by simpa using hlt)
        rw [undoL_get _ _ _ _ hlt] at hsu
        have hst := fun y => own_store hown j y hbel
        by_cases hj0 : j = 0
        · subst hj0
          have hst1 := hst (x.getD 0 0)
          rw [show x.getD 0 0 = (uv 2 x 0).1 from rfl, hsu] at hst1
          rw [show (uv 2 x 0).1 = x.getD 0 0 from rfl] at hst1
          clear hst hsu hxc
          generalize x.getD 0 0 = y at hx0 hst1
          go_wp2_with fail
          go_roundw
          case rel => exact ⟨1, by omega, by go_num, rfl, hst1.1, hst1.2⟩
          case measure => simp [intOf]; omega
        · have hjj : j = (j - 1) + 1 := by omega
          have hxj := hxc j (by omega)
          have hcut : (((undoL 2 x n).take j ++ (List.replicate n 0).drop j).map vi64)[j - 1]? = some (.int .i64 (uv 2 x (j - 1)).1) := by
            have h5 := undoL_get 2 x n (j - 1) (by omega)
            rw [List.getD_eq_getElem?_getD] at h5
            rw [List.getElem?_map, List.getElem?_append_left (by simp [undoL_length]; omega), List.getElem?_take_of_lt (by omega)]
            rw [List.getElem?_eq_getElem (by rw [undoL_length]; omega)] at h5 ⊢
            simp only [Option.getD_some] at h5
            rw [h5]
            rfl
          have hprev : wr.cell? ⟨w2.heap.size, j - 1, none⟩ = some (.int .i64 (uv 2 x (j - 1)).1) := (hown.cellAt (j - 1) (by omega)).trans hcut
          have hstep : uv 2 x j = (wadd (uv 2 x (j - 1)).1 (x.getD j 0), x.getD j 0) := by
            rw [hjj]
            rfl
          have hstS := hst (uv 2 x j).1
          rw [hsu] at hstS
          clear hst hsu hxc hcut hx0
          generalize (uv 2 x (j - 1)).1 = pp at hprev hstep
          generalize (uv 2 x (j - 1)).2 = ss at hstep ⊢
          generalize x.getD j 0 = y at hxj hstep
          have hst1 := hstS
          rw [hstep] at hst1
          unfold wadd at hst1
          have HS : Hid (uv 2 x j = ((wrap64 (pp + y)), y)) := by rw [Hid, hstep]; rfl
          clear hstS hstep
          have hz : (j : Int) - 1 = ((j - 1 : Nat) : Int) := by omega
          have hq0 : ((j : Int) == 0) = false := by simp; omega
          clear hjj
          go_wp2_with fail
          go_roundw
          case rel => exact ⟨j + 1, by omega, by go_num, by rw [Nat.add_sub_cancel, HS.out], hst1.1, hst1.2⟩
          case measure => simp [intOf]; omega
      · have hjn : j = n := by omega
        subst hjn
        rw [List.take_of_length_le (Nat.le_of_eq (undoL_length _ _ _)), List.drop_eq_nil_of_le (by simp), List.append_nil] at hown
        have hr33 := hr3.below hbel (Nat.le_refl _)
        have hown2 : wr.ownsRow w2.heap.size 2 1 (.slice (some ⟨w2.heap.size, 0, none⟩) j j) (undoL 2 x j).length ((undoL 2 x j).map vi64) := by rw [undoL_length]; exact hown
        have hro := Reads.of_owns hown2
        have hb04 := hb02.trans (hbel.mono hb02.size)
        clear hown hown2 hxc0
        go_wp2_with fail
        go_ret3
        exact ⟨_, _, rfl, hro, hr33, hb04⟩

end Go.Proofs.Ytgegbfhjophdfaa
