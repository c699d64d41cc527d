/- CodecFlat: the plain law. -/
import Derived.Test.YtgegbfhjophdfaaCg
import Derived.Maps.AppendAt
namespace Go.Proofs.Ytgegbfhjophdfaa
open Go Go.RowKit

/-- APPEND OF ONE ELEMENT WHILE ANOTHER ROW OF ONE's OWN LIES BESIDE IT. -/
theorem wpList_push_two {P : Program} {ops : Array Oper} {rest : List Oper} {o : Oper} {a : Act} {Q : Exit → Act → World → Prop} {w : World}
    (hgd : o.guard = none) (s x : Operand) (t : TypeId) (ho : o.op = .call { callee := .builtin .append, args := #[s, x], argTypes := #[t, t] })
    (base : Nat) (e : TypeId) (i : TypeInfo) (z : Value) (bytes : Nat) (ht : P.underlying t = some (.slice e)) (hi : P.info? e = some i) (hz : i.zero = some z)
    (hsize : i.size = 1) (hby : i.bytes = bytes) (hzs : z.cells.size = 1)
    {α : Type} (mk : α → Value) (xs ys : List α) (x1 : α) (v u val : Value) (hval : val = mk x1) (hone : val.oneCell' = true)
    (hs : a.eval s = v) (hown : w.ownsRow base e 1 v xs.length (xs.map mk)) (hown2 : w.ownsRow base e 1 u ys.length (ys.map mk)) (hap : u.ownBlock = none ∨ u.ownBlock ≠ v.ownBlock)
    (hx : a.eval x = .slice (some ⟨w.heap.size, 0, none⟩) 1 1)
    (h63 : xs.length + 1 ≤ maxLen) (hbytes : (xs.length + 1) * bytes ≤ 140737488355328) (hbase : base ≤ w.heap.size)
    (h : ∀ v' w', w'.ownsRow base e 1 v' (xs ++ [x1]).length ((xs ++ [x1]).map mk) → w'.ownsRow base e 1 u ys.length (ys.map mk) → (u.ownBlock = none ∨ u.ownBlock ≠ v'.ownBlock) → Below base w w' → wpList P ops Q rest (a.put o.dst v') w') :
    wpList P ops Q (o :: rest) a (w.alloc (.cells #[val] e)) := by
  refine wpList_append_own_at _ hgd s x t ho base e i z 1 bytes ht hi hz hsize hby hzs (by decide) v xs.length _ hs (hown.alloc _) ⟨w.heap.size, 0, none⟩ 1 1 [val] hx rfl ?_ ?_ h63 hbytes (by simp; omega) ?_
  · exact cell_one_new w val e
  · intro u hu
    simp at hu
    subst hu
    exact hone
  · intro v' w' h1 h2 _ h4
    refine h v' w' ?_ ?_ ?_ ?_
    · have e1 : (xs ++ [x1]).length = xs.length + 1 := by simp
      have e2 : (xs ++ [x1]).map mk = xs.map mk ++ [val] := by simp [hval]
      rw [e1, e2]
      exact h1
    · exact (hown2.alloc _).kept h2 hap
    · rcases h4 with h4 | h4
      · rw [h4]
        exact hap
      · rw [h4]
        rcases hk : u.ownBlock with _ | k
        · exact .inl rfl
        · have := (hown2.lt k hk).2
          refine .inr (fun he => ?_)
          simp at he
          omega
    · exact ((Below.refl base w).alloc hbase _).grown h2 (by simp; omega) (fun k hk => (hown.lt k hk).1)

/-- The numbers with even steps. -/
def xAt (f s : Int) : Nat → Int
  | 0 => f
  | i + 1 => wadd (xAt f s i) s
def evL (f s : Int) (k : Nat) : List Int := (List.range k).map (xAt f s)
theorem evL_length (f s : Int) (k : Nat) : (evL f s k).length = k := by simp [evL]
theorem evL_snoc (f s : Int) (k : Nat) : evL f s (k + 1) = evL f s k ++ [xAt f s k] := by simp [evL, List.range_succ]
theorem xAt_i64 {f : Int} (s : Int) (hf : I64 f) : ∀ i, I64 (xAt f s i)
  | 0 => hf
  | i + 1 => by
    show I64 (wrap64 _)
    unfold I64 wrap64
    omega
theorem wsub_wadd {x s : Int} (hs : I64 s) : wsub (wadd x s) x = s := by
  unfold I64 at hs
  unfold wsub wadd wrap64
  omega
theorem df_ev {f s : Int} (hs : I64 s) (k i : Nat) (h0 : 1 ≤ i) (hi : i < k) : df (evL f s k) i = s := by
  obtain ⟨j, rfl⟩ : ∃ j, i = j + 1 := ⟨i - 1, by omega⟩
  have h1 : (evL f s k).getD (j + 1) 0 = xAt f s (j + 1) := by simp [evL, hi]
  have h2 : (evL f s k).getD (j + 1 - 1) 0 = xAt f s j := by simp [evL, show j < k by omega]
  rw [df, h1, h2]
  exact wsub_wadd hs
theorem steps_ev {f s : Int} (hs : I64 s) (k : Nat) : steps (evL f s k) = List.replicate (k - 1) s := by
  apply List.ext_getElem
  · simp [steps_length, evL_length]
  · intro i h1 h2
    have h3 : i + 1 < (evL f s k).length := by
      rw [steps_length] at h1
      omega
    rw [steps_get _ i h1 h3, List.getElem_replicate]
    simp only [evL, List.getElem_map, List.getElem_range]
    exact wsub_wadd hs
theorem steps_rep (a : Int) (n : Nat) : steps (List.replicate n a) = List.replicate (n - 1) 0 := by
  apply List.ext_getElem
  · simp [steps_length]
  · intro i h1 h2
    have h3 : i + 1 < (List.replicate n a).length := by
      rw [steps_length] at h1
      omega
    rw [steps_get _ i h1 h3]
    simp only [List.getElem_replicate]
    show wrap64 (a - a) = 0
    rw [Int.sub_self]
    decide +kernel
theorem evL_zero (f : Int) (hf : I64 f) : ∀ k, evL f 0 k = List.replicate k f := by
  have hx : ∀ i, xAt f 0 i = f := by
    intro i
    induction i with
    | zero => rfl
    | succ i ih =>
      show wrap64 (xAt f 0 i + 0) = f
      rw [ih]
      unfold I64 at hf
      unfold wrap64
      omega
  intro k
  apply List.ext_getElem
  · simp [evL_length]
  · intro i h1 h2
    simp [evL, hx]

def zlen (n : Int) : Nat := (Lib.uvarint (Lib.zigzag n)).length
theorem zlen_pos (n : Int) : 1 ≤ zlen n := ulen_pos _
theorem zlen_zero : zlen 0 = 1 := by
  unfold zlen
  rw [show Lib.zigzag 0 = 0 from rfl, uv_small 0 (by decide)]
  rfl
theorem all_len_rep (n : Nat) (a : Int) : (allBytes (List.replicate n a)).length = n * zlen a := by
  induction n with
  | zero => simp [allBytes]
  | succ n ih =>
    rw [List.replicate_succ, show allBytes (a :: List.replicate n a) = Lib.uvarint (Lib.zigzag a) ++ allBytes (List.replicate n a) from rfl, List.length_append, ih, Nat.succ_mul]
    show zlen a + n * zlen a = _
    omega
theorem all_len_cons (a : Int) (l : List Int) : (allBytes (a :: l)).length = zlen a + (allBytes l).length := by
  rw [show allBytes (a :: l) = Lib.uvarint (Lib.zigzag a) ++ allBytes l from rfl, List.length_append]
  rfl
/-- How many bytes a row takes by a kind. -/
theorem asL_len {kind : Int} {l x : List Int} (hk : kindL kind l = some x) (hl : l.length < 128) : ∃ y, asL kind l = some y ∧ y.length = 2 + (allBytes x).length := by
  refine ⟨_, asL_eq hk hl, ?_⟩
  simp
  omega

theorem evL_cons {f s : Int} {k : Nat} (hk : 1 ≤ k) : (evL f s k).take 1 = [f] := by
  obtain ⟨j, rfl⟩ : ∃ j, k = j + 1 := ⟨k - 1, by omega⟩
  simp [evL, List.range_succ_eq_map, xAt]
theorem flat_ev {f s : Int} (hs : I64 s) (k : Nat) : FlatB (df (evL f s k)) 1 (evL f s k).length := by
  intro i h1 h2
  rw [evL_length] at h2
  rw [df_ev hs k i h1 h2, df_ev hs k 1 (Nat.le_refl _) (by omega)]
theorem kind1_ev {f s : Int} (hs : I64 s) (k : Nat) (hk : 2 ≤ k) : kindL 1 (evL f s k) = some [f, s] := by
  show kind1 _ = _
  rw [kind1, if_pos ⟨by rw [evL_length]; exact hk, flat_ev hs k⟩, df_ev hs k 1 (by omega) (by omega)]
  have : (evL f s k).getD 0 0 = f := by simp [evL, show 0 < k by omega, xAt]
  rw [this]
theorem kind0_rep (f : Int) (k : Nat) (hk : 1 ≤ k) : kindL 0 (List.replicate k f) = some [f] := by
  show kind0 _ = _
  rw [kind0, if_pos]
  · obtain ⟨j, rfl⟩ : ∃ j, k = j + 1 := ⟨k - 1, by omega⟩
    simp [List.replicate_succ]
  · refine ⟨by simpa using hk, fun i h1 h2 => ?_⟩
    rw [List.length_replicate] at h2
    simp [h2, show 0 < k by omega]
theorem kind0_ev {f s : Int} (hs : I64 s) (hs0 : s ≠ 0) (k : Nat) (hk : 2 ≤ k) : kindL 0 (evL f s k) = none := by
  show kind0 _ = _
  refine if_neg (fun h => ?_)
  have h1 := h.2 1 (by omega) (by rw [evL_length]; omega)
  have e1 : (evL f s k).getD 1 0 = wadd f s := by simp [evL, show 1 < k by omega, xAt]
  have e0 : (evL f s k).getD 0 0 = f := by simp [evL, show 0 < k by omega, xAt]
  simp only [e1, e0] at h1
  unfold wadd wrap64 at h1
  unfold I64 at hs
  omega
theorem kind2_ev {f s : Int} (hs : I64 s) (k : Nat) (hk : 2 ≤ k) : kindL 2 (evL f s k) = some (f :: List.replicate (k - 1) s) := by
  show some (firstL _) = _
  rw [firstL, evL_cons (by omega), steps_ev hs]
  rfl
theorem kind3_ev {f s : Int} (hs : I64 s) (k : Nat) (hk : 2 ≤ k) : kindL 3 (evL f s k) = some (f :: s :: List.replicate (k - 2) 0) := by
  show kind3 _ = _
  rw [kind3, if_pos (by rw [evL_length]; exact hk), secondL, evL_cons (by omega), steps_ev hs, firstL, steps_rep]
  obtain ⟨j, rfl⟩ : ∃ j, k = j + 2 := ⟨k - 2, by omega⟩
  simp [List.replicate_succ]

theorem step_to {l : List Int} {c : Int × List UInt8} {k : Int} {x : List UInt8} (hx : asL k l = some x) (h : x.length < c.2.length) : bestStep l c k = (k, x) := by
  rw [bestStep, hx]
  exact if_pos (.inl h)
theorem step_keep {l : List Int} {c : Int × List UInt8} {k : Int} (hx : asL k l = none) : bestStep l c k = c := by rw [bestStep, hx]

/-- Even steps, not 0: Step, and how many bytes. -/
theorem best_ev {f s : Int} (hs : I64 s) (hs0 : s ≠ 0) (k : Nat) (hk : 3 ≤ k) (hk2 : k < 128) : (bestL (evL f s k)).1 = 1 ∧ (bestL (evL f s k)).2.length = 2 + zlen f + zlen s := by
  have hl : (evL f s k).length < 128 := by rw [evL_length]; exact hk2
  obtain ⟨y2, a2, n2⟩ := asL_len (kind2_ev (f := f) hs k (by omega)) hl
  obtain ⟨y3, a3, n3⟩ := asL_len (kind3_ev (f := f) hs k (by omega)) hl
  obtain ⟨y1, a1, n1⟩ := asL_len (kind1_ev (f := f) hs k (by omega)) hl
  have a0 := asL_no (kind0_ev (f := f) hs hs0 k (by omega))
  rw [all_len_cons, all_len_rep] at n2
  rw [all_len_cons, all_len_cons, all_len_rep, zlen_zero] at n3
  rw [all_len_cons, all_len_cons, show (allBytes []).length = 0 from rfl] at n1
  have hz := zlen_pos s
  have hm : (k - 1) * zlen s = (k - 2) * zlen s + zlen s := by
    rw [show k - 1 = (k - 2) + 1 by omega, Nat.succ_mul]
  have hm2 : k - 2 ≤ (k - 2) * zlen s := Nat.le_mul_of_pos_right _ (by omega)
  rw [bestL, a2]
  simp only [List.foldl_cons, List.foldl_nil, Option.getD_some]
  have s3 : bestStep (evL f s k) (2, y2) 3 = (3, y3) ∨ bestStep (evL f s k) (2, y2) 3 = (2, y2) := by
    rw [bestStep, a3]
    simp only
    split
    · exact .inl rfl
    · exact .inr rfl
  rcases s3 with e3 | e3
  · rw [e3, step_to a1 (by simp only; omega), step_keep a0]
    exact ⟨rfl, by simp only; omega⟩
  · rw [e3, step_to a1 (by simp only; omega), step_keep a0]
    exact ⟨rfl, by simp only; omega⟩

/-- Alike numbers: Const, and how many bytes. -/
theorem best_rep {f : Int} (hf : I64 f) (k : Nat) (hk : 3 ≤ k) (hk2 : k < 128) : (bestL (List.replicate k f)).1 = 0 ∧ (bestL (List.replicate k f)).2.length = 2 + zlen f := by
  have h0 : I64 0 := by unfold I64; decide
  have hl : (List.replicate k f).length < 128 := by simpa using hk2
  rw [← evL_zero f hf] at hl
  obtain ⟨y2, a2, n2⟩ := asL_len (kind2_ev (f := f) h0 k (by omega)) hl
  obtain ⟨y3, a3, n3⟩ := asL_len (kind3_ev (f := f) h0 k (by omega)) hl
  obtain ⟨y1, a1, n1⟩ := asL_len (kind1_ev (f := f) h0 k (by omega)) hl
  have k0 := kind0_rep f k (by omega)
  rw [← evL_zero f hf] at k0 ⊢
  obtain ⟨y0, a0, n0⟩ := asL_len k0 hl
  rw [all_len_cons, all_len_rep, zlen_zero] at n2
  rw [all_len_cons, all_len_cons, all_len_rep, zlen_zero] at n3
  rw [all_len_cons, all_len_cons, show (allBytes []).length = 0 from rfl, zlen_zero] at n1
  rw [all_len_cons, show (allBytes []).length = 0 from rfl] at n0
  rw [bestL, a2]
  simp only [List.foldl_cons, List.foldl_nil, Option.getD_some]
  have e3 : bestStep (evL f 0 k) (2, y2) 3 = (2, y2) := by
    rw [bestStep, a3]
    simp only
    rw [if_neg (by omega)]
  rw [e3, step_to a1 (by simp only; omega), step_to a0 (by simp only; omega)]
  exact ⟨rfl, by simp only; omega⟩

/-- The code of two alike numbers, of two with a step. -/
theorem as_two (f s : Int) (hs : I64 s) (k : Nat) (hk : 2 ≤ k) : ∃ y, asL 1 ((evL f s k).take 2) = some y ∧ y.length = 2 + zlen f + zlen s := by
  have ht : (evL f s k).take 2 = evL f s 2 := by
    obtain ⟨j, rfl⟩ : ∃ j, k = j + 2 := ⟨k - 2, by omega⟩
    simp [evL, List.range_succ_eq_map]
  rw [ht]
  obtain ⟨y, hy, hn⟩ := asL_len (kind1_ev (f := f) hs 2 (by omega)) (by rw [evL_length]; decide)
  rw [all_len_cons, all_len_cons, show (allBytes []).length = 0 from rfl] at hn
  exact ⟨y, hy, by omega⟩
theorem as_one (f : Int) (k : Nat) (hk : 2 ≤ k) : ∃ y, asL 0 ((List.replicate k f).take 2) = some y ∧ y.length = 2 + zlen f := by
  have ht : (List.replicate k f).take 2 = List.replicate 2 f := by rw [List.take_replicate, Nat.min_eq_left hk]
  rw [ht]
  obtain ⟨y, hy, hn⟩ := asL_len (kind0_rep f 2 (by omega)) (by simp)
  rw [all_len_cons, show (allBytes []).length = 0 from rfl] at hn
  exact ⟨y, hy, by omega⟩

end Go.Proofs.Ytgegbfhjophdfaa
