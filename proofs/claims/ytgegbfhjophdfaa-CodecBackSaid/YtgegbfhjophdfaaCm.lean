/- codec: Decode on bytes cut short; what is decoded of what a kind writes. -/
import Derived.Test.YtgegbfhjophdfaaCf
import Derived.Test.YtgegbfhjophdfaaCh
namespace Go.Proofs.Ytgegbfhjophdfaa
open Go Go.RowKit

theorem allBytes_cons (n : Int) (l : List Int) : allBytes (n :: l) = Lib.uvarint (Lib.zigzag n) ++ allBytes l := by simp [allBytes]
theorem allBytes_ne {l : List Int} (h : l ≠ []) : allBytes l ≠ [] := by
  cases l with
  | nil => exact absurd rfl h
  | cons n l =>
    intro h0
    have h1 := congrArg List.length h0
    rw [allBytes_cons, List.length_append, List.length_nil] at h1
    have := ulen_pos (Lib.zigzag n)
    unfold ulen at this
    omega

theorem takeN_cut : ∀ (l : List Int), (∀ n ∈ l, I64 n) → l ≠ [] → takeN l.length (allBytes l).dropLast = ([], [], 10) := by
  intro l
  induction l with
  | nil => intro _ h; exact absurd rfl h
  | cons n l ih =>
    intro h _
    rw [allBytes_cons]
    by_cases hl : l = []
    · subst hl
      rw [show allBytes [] = [] from rfl, List.append_nil]
      exact takeN_err (take_cut (h n (by simp)).zigzag) (by decide) (by simp)
    · have hs := take_uvarint (h n (by simp)).zigzag (allBytes l).dropLast
      rw [List.dropLast_append_of_ne_nil (allBytes_ne hl), List.length_cons, takeN_more hs, List.drop_left, ih (fun m hm => h m (by simp [hm])) hl, if_neg (by decide)]

theorem wadd_wsub {a b : Int} (hb : I64 b) : wadd a (wsub b a) = b := by
  unfold wadd wsub wrap64
  unfold I64 at hb
  omega
theorem wadd_zero' {a : Int} (ha : I64 a) : wadd a 0 = a := by
  unfold wadd wrap64
  unfold I64 at ha
  omega
theorem zero_wadd {a : Int} (ha : I64 a) : wadd 0 a = a := by
  unfold wadd wrap64
  unfold I64 at ha
  omega

theorem getD_ext {a b : List Int} (h : a.length = b.length) (hg : ∀ i, i < a.length → a.getD i 0 = b.getD i 0) : a = b := by
  apply List.ext_getElem h
  intro i h1 h2
  have := hg i h1
  simpa [List.getD_eq_getElem?_getD, h1, h2] using this

theorem getD_i64 {l : List Int} (h : ∀ n ∈ l, I64 n) (i : Nat) : I64 (l.getD i 0) := by
  by_cases hi : i < l.length
  · rw [List.getD_eq_getElem?_getD, List.getElem?_eq_getElem hi, Option.getD_some]
    exact h _ (List.getElem_mem hi)
  · rw [List.getD_eq_getElem?_getD, List.getElem?_eq_none (by omega), Option.getD_none]
    unfold I64
    omega

theorem firstL_head (l : List Int) : (firstL l).getD 0 0 = l.getD 0 0 := by
  match l with
  | [] => rfl
  | a :: r => rfl
theorem secondL_head (l : List Int) : (secondL l).getD 0 0 = l.getD 0 0 := by
  match l with
  | [] => rfl
  | a :: r => rfl
theorem secondL_snd (l : List Int) (h : 2 ≤ l.length) : (secondL l).getD 1 0 = df l 1 := by
  match l, h with
  | a :: b :: r, _ => rfl

theorem undo_back (k : Nat) (l x : List Int) (hk : k < 4) (hl : ∀ n ∈ l, I64 n) (hx : kindL (k : Int) l = some x) :
    leastOf k ≤ l.length ∧ x.length = haveOf k l.length ∧ undoL k x l.length = l := by
  have hstep : ∀ i, wadd (l.getD i 0) (df l (i + 1)) = l.getD (i + 1) 0 := fun i => wadd_wsub (getD_i64 hl _)
  rcases (show k = 0 ∨ k = 1 ∨ k = 2 ∨ k = 3 by omega) with rfl | rfl | rfl | rfl
  · rw [kindL, if_pos (by rfl), kind0] at hx
    split at hx
    · rename_i hc
      cases hx
      refine ⟨hc.1, by simp [haveOf]; omega, getD_ext (undoL_length _ _ _) fun i hi => ?_⟩
      rw [undoL_length] at hi
      rw [undoL_get _ _ _ _ hi]
      have hx0 : (l.take 1).getD 0 0 = l.getD 0 0 := by
        match l with
        | [] => rfl
        | a :: r => rfl
      have : ∀ i, uv 0 (l.take 1) i = (l.getD 0 0, 0) := by
        intro i
        induction i with
        | zero => rw [uv, hx0]
        | succ i ih =>
          rw [uv, ih]
          show (wadd (l.getD 0 0) 0, (0 : Int)) = _
          rw [wadd_zero' (getD_i64 hl _)]
      rw [this]
      exact (hc.2 i (Nat.zero_le _) hi).symm
    · cases hx
  · rw [kindL, if_neg (by decide), if_pos (by rfl), kind1] at hx
    split at hx
    · rename_i hc
      cases hx
      refine ⟨hc.1, rfl, getD_ext (undoL_length _ _ _) fun i hi => ?_⟩
      rw [undoL_length] at hi
      rw [undoL_get _ _ _ _ hi]
      have : ∀ i, i < l.length → (uv 1 [l.getD 0 0, df l 1] i).1 = l.getD i 0 := by
        intro i
        induction i with
        | zero => intro _; rfl
        | succ i ih =>
          intro h
          have h1 := hc.2 (i + 1) (by omega) h
          show wadd (uv 1 [l.getD 0 0, df l 1] i).1 (df l 1) = _
          rw [ih (by omega), ← h1, hstep]
      exact this i hi
    · cases hx
  · rw [kindL, if_neg (by decide), if_neg (by decide), if_pos (by rfl)] at hx
    cases hx
    refine ⟨Nat.zero_le _, firstL_length l, getD_ext (undoL_length _ _ _) fun i hi => ?_⟩
    rw [undoL_length] at hi
    rw [undoL_get _ _ _ _ hi]
    have : ∀ i, i < l.length → (uv 2 (firstL l) i).1 = l.getD i 0 := by
      intro i
      induction i with
      | zero => intro _; exact firstL_head l
      | succ i ih =>
        intro h
        show wadd (uv 2 (firstL l) i).1 ((firstL l).getD (i + 1) 0) = _
        rw [ih (by omega), firstL_get l (i + 1) (by omega) h, hstep]
    exact this i hi
  · rw [kindL, if_neg (by decide), if_neg (by decide), if_neg (by decide), if_pos (by rfl), kind3] at hx
    split at hx
    · rename_i hc
      cases hx
      refine ⟨hc, secondL_length l, getD_ext (undoL_length _ _ _) fun i hi => ?_⟩
      rw [undoL_length] at hi
      rw [undoL_get _ _ _ _ hi]
      have hb : ∀ i, uv 3 (secondL l) (i + 1) = (wadd (uv 3 (secondL l) i).1 (wadd (uv 3 (secondL l) i).2 ((secondL l).getD (i + 1) 0)), wadd (uv 3 (secondL l) i).2 ((secondL l).getD (i + 1) 0)) := fun _ => rfl
      have : ∀ i, i + 1 < l.length → uv 3 (secondL l) (i + 1) = (l.getD (i + 1) 0, df l (i + 1)) := by
        intro i
        induction i with
        | zero =>
          intro h
          rw [hb, secondL_snd l hc, show uv 3 (secondL l) 0 = ((secondL l).getD 0 0, 0) from rfl, secondL_head]
          show (wadd (l.getD 0 0) (wadd 0 (df l 1)), wadd 0 (df l 1)) = _
          rw [zero_wadd (df_i64 _ _), hstep]
        | succ i ih =>
          intro h
          rw [hb, ih (by omega), secondL_get l (i + 2) (by omega) h]
          show (wadd (l.getD (i + 1) 0) (wadd (df l (i + 1)) (wsub (df l (i + 2)) (df l (i + 1)))), wadd (df l (i + 1)) (wsub (df l (i + 2)) (df l (i + 1)))) = _
          rw [wadd_wsub (df_i64 _ _), hstep]
      match i, hi with
      | 0, _ => exact secondL_head l
      | i + 1, hi => rw [this i hi]
    · cases hx

set_option maxRecDepth 100000 in
set_option maxHeartbeats 4000000 in
theorem Decode_cut (k : Nat) (v : Value) (r : List UInt8) (n t : Nat) (w : World) (hk : k < 4)
    (hr : Reads w b8 v (UInt8.ofNat k :: r)) (hl : r.length ≤ 1000000)
    (ht : takeF 0 0 r = (n, t, 0)) (hn : n ≤ 4096) (hle : leastOf k ≤ n) (hx : takeN (haveOf k n) (r.drop t) = ([], [], 10)) :
    Calls Try.prog 14 #[v] w (DecEnd [] [] 10 w) := by
  obtain ⟨i0, hi, hz0, hz1, hz2⟩ := info_parts info_i64c
  obtain ⟨b, off, cap, rfl, h1, h2, h3, h4⟩ : ∃ b off cap, v = .slice (some ⟨b, off, none⟩) (r.length + 1) cap ∧ r.length + 1 ≤ cap ∧ cap ≤ maxLen ∧ b < w.heap.size ∧
        ∀ i (h : i < (UInt8.ofNat k :: r).length), w.cell? ⟨b, off + i, none⟩ = some (b8 (UInt8.ofNat k :: r)[i]) := by
    rcases hr with ⟨h, _⟩ | h
    · cases h
    · simpa using h
  have hb8 : b8 (UInt8.ofNat k) = .int .u8 (k : Int) := by
    match k, hk with
    | 0, _ => rfl
    | 1, _ => rfl
    | 2, _ => rfl
    | 3, _ => rfl
  have hcell : w.cell? ⟨b, off, none⟩ = some (.int .u8 (k : Int)) := by
    have := h4 0 (by simp)
    rw [Nat.add_zero] at this
    rw [this]
    exact congrArg some hb8
  obtain ⟨vt, hsl0, hrt⟩ := slice_tail (P := Try.prog) (k := 1) Try.underlying24 cell_u8 hr (by simp)
  have hsl : ∀ W : World, (Instr.slice 24 (.slice (some ⟨b, off, none⟩) (r.length + 1) cap) (some (.int .i64 1)) none none).run Try.prog W = .ok vt W := hsl0
  have hTake : Calls Try.prog 29 #[vt] w (TakeEnd3 r w) := Take_any _ r w (by omega) hrt
  have hrest : Hid (takeRest r = r.drop t) := by rw [Hid, takeRest, ht]; rfl
  clear h4 hsl0 hrt
  have HT := Lib.hid ht
  have HX := Lib.hid hx
  clear ht hx
  have hqn : ((r.length : Int) + 1 == 0) = false := by simp; omega
  have h1' : (r.length : Int) + 1 ≤ cap := by omega
  have h2' : cap ≤ 9223372036854775807 := by simp only [maxLen] at h2; exact h2
  go_enter Try.func14, Try.ntmps14
  go_wp2_with fail
  refine hTake.mono ?_
  rintro e w1 ⟨v1, rfl, hown1, hb1⟩
  rw [HT.out]
  rw [hrest.out] at hown1
  have hr1 := Reads.of_owns hown1
  have hd : (r.drop t).length ≤ 1000000 := by rw [List.length_drop]; omega
  clear hTake hown1
  have hn' : (n : Int) ≤ 4096 := by omega
  rcases (show k = 3 ∨ k = 0 ∨ k = 1 ∨ k = 2 by omega) with rfl | rfl | rfl | rfl
  · have hhave : haveOf 3 n = n := rfl
    rw [hhave] at HX
    have hln : (2 : Int) ≤ n := by have : leastOf 3 = 2 := rfl; omega
    have hTA := TakeAll_any v1 (r.drop t) n w1 (by omega) (by omega) hr1
    have hix : ∀ W : World, (Instr.index 52 (.agg #[.int .i64 1, .int .i64 2, .int .i64 0, .int .i64 2]) (.int .i64 3)).run Try.prog W = .ok (.int .i64 2) W := index_least 3 hk
    go_wp2_with fail
    refine hTA.mono ?_
    rintro e w2 ⟨v2, v3, rfl, hown2, hown3, hb2⟩
    rw [HX.out] at hown2 hown3 ⊢
    have hb02 := hb1.trans (hb2.mono hb1.size)
    clear hown2 hown3 hTA hr1 hsl hr hcell
    go_wp2_with fail
    go_ret3
    exact ⟨_, _, rfl, Reads.nil _ _, Reads.nil _ _, hb02⟩
  · have hhave : haveOf 0 n = 1 := rfl
    rw [hhave] at HX
    have hln : (1 : Int) ≤ n := by have : leastOf 0 = 1 := rfl; omega
    have hTA := TakeAll_any v1 (r.drop t) 1 w1 (by omega) (by omega) hr1
    have hix : ∀ W : World, (Instr.index 52 (.agg #[.int .i64 1, .int .i64 2, .int .i64 0, .int .i64 2]) (.int .i64 0)).run Try.prog W = .ok (.int .i64 1) W := index_least 0 hk
    go_wp2_with fail
    refine hTA.mono ?_
    rintro e w2 ⟨v2, v3, rfl, hown2, hown3, hb2⟩
    rw [HX.out] at hown2 hown3 ⊢
    have hb02 := hb1.trans (hb2.mono hb1.size)
    clear hown2 hown3 hTA hr1 hsl hr hcell
    go_wp2_with fail
    go_ret3
    exact ⟨_, _, rfl, Reads.nil _ _, Reads.nil _ _, hb02⟩
  · have hhave : haveOf 1 n = 2 := rfl
    rw [hhave] at HX
    have hln : (2 : Int) ≤ n := by have : leastOf 1 = 2 := rfl; omega
    have hTA := TakeAll_any v1 (r.drop t) 2 w1 (by omega) (by omega) hr1
    have hix : ∀ W : World, (Instr.index 52 (.agg #[.int .i64 1, .int .i64 2, .int .i64 0, .int .i64 2]) (.int .i64 1)).run Try.prog W = .ok (.int .i64 2) W := index_least 1 hk
    go_wp2_with fail
    refine hTA.mono ?_
    rintro e w2 ⟨v2, v3, rfl, hown2, hown3, hb2⟩
    rw [HX.out] at hown2 hown3 ⊢
    have hb02 := hb1.trans (hb2.mono hb1.size)
    clear hown2 hown3 hTA hr1 hsl hr hcell
    go_wp2_with fail
    go_ret3
    exact ⟨_, _, rfl, Reads.nil _ _, Reads.nil _ _, hb02⟩
  · have hhave : haveOf 2 n = n := rfl
    rw [hhave] at HX
    have hln : (0 : Int) ≤ n := by have : leastOf 2 = 0 := rfl; omega
    have hTA := TakeAll_any v1 (r.drop t) n w1 (by omega) (by omega) hr1
    have hix : ∀ W : World, (Instr.index 52 (.agg #[.int .i64 1, .int .i64 2, .int .i64 0, .int .i64 2]) (.int .i64 2)).run Try.prog W = .ok (.int .i64 0) W := index_least 2 hk
    go_wp2_with fail
    refine hTA.mono ?_
    rintro e w2 ⟨v2, v3, rfl, hown2, hown3, hb2⟩
    rw [HX.out] at hown2 hown3 ⊢
    have hb02 := hb1.trans (hb2.mono hb1.size)
    clear hown2 hown3 hTA hr1 hsl hr hcell
    go_wp2_with fail
    go_ret3
    exact ⟨_, _, rfl, Reads.nil _ _, Reads.nil _ _, hb02⟩

set_option maxRecDepth 100000 in
set_option maxHeartbeats 4000000 in
/-- Of one byte, the kind alone. -/
theorem Decode_two (v : Value) (w : World) (hr : Reads w b8 v [2]) :
    Calls Try.prog 14 #[v] w (DecEnd [] [] 10 w) := by
  obtain ⟨ad, cap, rfl⟩ := hr.slice
  obtain ⟨b, off, rfl, hcell0⟩ := hr.elem (k := 0) (by simp)
  have hcell : w.cell? ⟨b, off, none⟩ = some (.int .u8 2) := hcell0
  obtain ⟨vt, hsl0, hrt⟩ := slice_tail (P := Try.prog) (k := 1) Try.underlying24 cell_u8 hr (by simp)
  have hsl : ∀ W : World, (Instr.slice 24 (.slice (some ⟨b, off, none⟩) 1 cap) (some (.int .i64 1)) none none).run Try.prog W = .ok vt W := hsl0
  have hTake : Calls Try.prog 29 #[vt] w (TakeEnd3 [] w) := Take_any _ [] w (by simp) hrt
  obtain ⟨hc1, hc2⟩ := hr.len_cap
  have h1' : (1 : Int) ≤ cap := by have : ([2] : List UInt8).length = 1 := rfl; omega
  have h2' : cap ≤ 9223372036854775807 := by simp only [maxLen] at hc2; exact hc2
  rw [show ([2] : List UInt8).length = 1 from rfl] at *
  clear hcell0 hsl0 hrt hc1 hc2
  go_enter Try.func14, Try.ntmps14
  go_wp2_with fail
  refine hTake.mono ?_
  rintro e w1 ⟨v1, rfl, hown1, hb1⟩
  rw [takeF_end 0 0 (by decide)]
  go_wp2_with fail
  go_ret3
  exact ⟨_, _, rfl, Reads.nil _ _, Reads.nil _ _, hb1⟩

end Go.Proofs.Ytgegbfhjophdfaa
