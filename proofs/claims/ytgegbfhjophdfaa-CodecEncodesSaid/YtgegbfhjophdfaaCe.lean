/- codec: best, Choose, Encode. -/
import Derived.Test.YtgegbfhjophdfaaCd
namespace Go.Proofs.Ytgegbfhjophdfaa
open Go Go.RowKit

/-- One kind more is tried. -/
noncomputable def bestStep (l : List Int) (c : Int × List UInt8) (k : Int) : Int × List UInt8 :=
  match asL k l with
  | none => c
  | some x => if x.length < c.2.length ∨ (x.length = c.2.length ∧ k < c.1) then (k, x) else c
/-- The kind that takes the fewest bytes, and these. -/
noncomputable def bestL (l : List Int) : Int × List UInt8 := [3, 1, 0].foldl (bestStep l) (2, (asL 2 l).getD [])

def BestEnd (r : Int × List UInt8) (w : World) (e : Ending) (w' : World) : Prop :=
  ∃ v', e = .returned (.tuple #[.int .i64 r.1, v']) ∧ Reads w' b8 v' r.2 ∧ Below w.heap.size w w'

def BestRel (l : List Int) (w2 : World) (i kd v : Value) (wr : World) : Prop :=
  ∃ (j : Nat) (c : Int × List UInt8), j ≤ 3 ∧ i = .int .i64 (j : Int) ∧ Hid ((([3, 1, 0] : List Int).drop j).foldl (bestStep l) c = bestL l) ∧ kd = .int .i64 c.1 ∧ Reads wr b8 v c.2 ∧ Below w2.heap.size w2 wr

theorem best_drop (j : Nat) (h : j < 3) : ∃ k : Int, ([3, 1, 0] : List Int)[j]? = some k ∧ ([3, 1, 0] : List Int).drop j = k :: ([3, 1, 0] : List Int).drop (j + 1) := by
  match j, h with
  | 0, _ => exact ⟨3, rfl, rfl⟩
  | 1, _ => exact ⟨1, rfl, rfl⟩
  | 2, _ => exact ⟨0, rfl, rfl⟩

set_option maxRecDepth 100000 in
set_option maxHeartbeats 4000000 in
theorem best_any (v : Value) (l : List Int) (w : World) (hl : ∀ n ∈ l, I64 n) (hr : Reads w vi64 v l) :
    Calls Try.prog 28 #[v] w (BestEnd (bestL l) w) := by
  go_enter Try.func28, Try.ntmps28
  go_wp2_with fail
  refine (As_any 2 v l w hl hr).mono ?_
  rintro e w1 ⟨v1, rfl, hown1, hb1⟩
  have hr1 := Reads.of_owns hown1
  have hstart : Hid (([3, 1, 0] : List Int).foldl (bestStep l) (2, (asL 2 l).getD []) = bestL l) := rfl
  clear hown1
  have hp := Reads.built w1 #[.int .i64 3, .int .i64 1, .int .i64 0] 3 3 vi64 [3, 1, 0] rfl rfl (by simp [maxLen])
  have hb2 : Below w1.heap.size w1 (w1.alloc (.cells #[.int .i64 3, .int .i64 1, .int .i64 0] 3)) := (Below.refl _ _).alloc (Nat.le_refl _) _
  have hr2 := hr1.below hb2 (Nat.le_refl _)
  have hr0 := hr.below (hb1.trans (hb2.mono hb1.size)) (Nat.le_refl _)
  have hb02 := hb1.trans (hb2.mono hb1.size)
  go_wp2_with fail
  generalize w1.heap.size = p at hp ⊢
  generalize (w1.alloc (.cells #[.int .i64 3, .int .i64 1, .int .i64 0] 3)) = w2 at hp hb2 hr2 hr0 hb02 ⊢
  clear hb2 hr1 hb1
  generalize (asL 2 l).getD [] = c0 at hr2 hstart
  go_loopw [18, 4, 5] (fun i kd v wr => BestRel l w2 i kd v wr) (fun i _ _ _ => 3 - (intOf i).toNat)
  case atStart => exact ⟨0, (2, c0), by omega, rfl, hstart, rfl, hr2, Below.refl _ _⟩
  case round =>
    obtain ⟨j, ⟨kd, c⟩, hj, rfl, hfold, rfl, hrc, hbel⟩ := hrel
    by_cases hlt : j < 3
    · obtain ⟨k, hkj, hdrop⟩ := best_drop j hlt
      have hpc := hp.below hbel (Nat.le_refl _)
      have hcell : wr.cell? ⟨p, j, none⟩ = some (.int .i64 k) := by
        rcases hpc with ⟨h, _⟩ | ⟨b, off, cap, h1, h2, h3, h4, h5⟩
        · cases h
        · simp only [Value.slice.injEq, Option.some.injEq, Addr.mk.injEq, and_true] at h1
          obtain ⟨⟨rfl, rfl⟩, _, rfl⟩ := h1
          have h6 := h5 j hlt
          rw [Nat.zero_add] at h6
          rw [h6]
          rw [List.getElem?_eq_getElem (show j < ([3, 1, 0] : List Int).length from hlt)] at hkj
          cases hkj
          rfl
      obtain ⟨ac, cc, rfl⟩ := hrc.slice
      have hclen : c.length ≤ 9223372036854775807 := by have := hrc.len_le; simp only [maxLen] at this; omega
      have hrl := hr0.below hbel (Nat.le_refl _)
      have HD := Lib.hid hdrop
      clear hdrop hkj hpc
      go_wp2_with fail
      refine (As_any k v l wr hl hrl).mono ?_
      rintro e w3 ⟨v3, rfl, hown3, hb3⟩
      have hr3 := Reads.of_owns hown3
      have hrc3 := hrc.below hb3 (Nat.le_refl _)
      have hbel3 : Below w2.heap.size w2 w3 := hbel.trans (hb3.mono hbel.size)
      clear hown3
      rcases hx : asL k l with _ | x
      · have hs : Hid (bestStep l (kd, c) k = (kd, c)) := by rw [Hid, bestStep, hx]
        rw [hx] at hr3
        have hnx : Hid ((([3, 1, 0] : List Int).drop (j + 1)).foldl (bestStep l) (kd, c) = bestL l) := by
          have := hfold.out
          rw [HD.out, List.foldl_cons, hs.out] at this
          exact this
        clear hfold HD hs hx
        go_wp2_with fail
        go_roundw
        case rel => exact ⟨j + 1, (kd, c), by omega, by go_num, hnx, rfl, hrc3, hbel3⟩
        case measure => simp [intOf]; omega
      · rw [hx] at hr3
        simp only [Option.getD_some] at hr3
        obtain ⟨ax, cx, rfl⟩ := hr3.slice
        have hxlen : x.length ≤ 9223372036854775807 := by have := hr3.len_le; simp only [maxLen] at this; omega
        by_cases hbet : x.length < c.length ∨ (x.length = c.length ∧ k < kd)
        · have hs : Hid (bestStep l (kd, c) k = (k, x)) := by rw [Hid, bestStep, hx]; exact if_pos hbet
          have hnx : Hid ((([3, 1, 0] : List Int).drop (j + 1)).foldl (bestStep l) (k, x) = bestL l) := by
            have := hfold.out
            rw [HD.out, List.foldl_cons, hs.out] at this
            exact this
          clear hfold HD hs hx
          rcases hbet with h | ⟨h, h2⟩
          · have hi : (x.length : Int) < (c.length : Int) := by omega
            go_wp2_with fail
            go_roundw
            case rel => exact ⟨j + 1, (k, x), by omega, by go_num, hnx, rfl, hr3, hbel3⟩
            case measure => simp [intOf]; omega
          · have hi : ¬ (x.length : Int) < (c.length : Int) := by omega
            have hq : ((x.length : Int) == (c.length : Int)) = true := by simp [h]
            clear h
            go_wp2_with fail
            go_roundw
            case rel => exact ⟨j + 1, (k, x), by omega, by go_num, hnx, rfl, hr3, hbel3⟩
            case measure => simp [intOf]; omega
        · have hs : Hid (bestStep l (kd, c) k = (kd, c)) := by rw [Hid, bestStep, hx]; exact if_neg hbet
          have hnx : Hid ((([3, 1, 0] : List Int).drop (j + 1)).foldl (bestStep l) (kd, c) = bestL l) := by
            have := hfold.out
            rw [HD.out, List.foldl_cons, hs.out] at this
            exact this
          have hi : ¬ (x.length : Int) < (c.length : Int) := by omega
          by_cases hq0 : x.length = c.length
          · have hq : ((x.length : Int) == (c.length : Int)) = true := by simp [hq0]
            have hkk : ¬ k < kd := by omega
            clear hfold HD hs hx hbet hq0
            go_wp2_with fail
            go_roundw
            case rel => exact ⟨j + 1, (kd, c), by omega, by go_num, hnx, rfl, hrc3, hbel3⟩
            case measure => simp [intOf]; omega
          · have hq : ((x.length : Int) == (c.length : Int)) = false := by simp; omega
            clear hfold HD hs hx hbet hq0
            go_wp2_with fail
            go_roundw
            case rel => exact ⟨j + 1, (kd, c), by omega, by go_num, hnx, rfl, hrc3, hbel3⟩
            case measure => simp [intOf]; omega
    · have hj3 : j = 3 := by omega
      subst hj3
      have hf : bestL l = (kd, c) := hfold.out.symm
      have HF := Lib.hid hf
      clear hf hfold
      go_wp2_with fail
      go_ret2
      rw [HF.out]
      exact ⟨_, rfl, hrc, hb02.trans (hbel.mono hb02.size)⟩

set_option maxRecDepth 100000 in
theorem Choose_any (v : Value) (l : List Int) (w : World) (hl : ∀ n ∈ l, I64 n) (hr : Reads w vi64 v l) :
    Calls Try.prog 12 #[v] w fun e w' => e = .returned (.int .i64 (bestL l).1) ∧ Below w.heap.size w w' := by
  go_enter Try.func12, Try.ntmps12
  go_wp2_with fail
  refine (best_any v l w hl hr).mono ?_
  rintro e w1 ⟨v1, rfl, hr1, hb1⟩
  go_wp2_with fail
  go_ret
  exact ⟨rfl, hb1⟩

set_option maxRecDepth 100000 in
theorem Encode_any (v : Value) (l : List Int) (w : World) (hl : ∀ n ∈ l, I64 n) (hr : Reads w vi64 v l) :
    Calls Try.prog 13 #[v] w fun e w' => ∃ v', e = .returned v' ∧ Reads w' b8 v' (bestL l).2 ∧ Below w.heap.size w w' := by
  go_enter Try.func13, Try.ntmps13
  go_wp2_with fail
  refine (best_any v l w hl hr).mono ?_
  rintro e w1 ⟨v1, rfl, hr1, hb1⟩
  go_wp2_with fail
  go_ret
  exact ⟨v1, rfl, hr1, hb1⟩

end Go.Proofs.Ytgegbfhjophdfaa
