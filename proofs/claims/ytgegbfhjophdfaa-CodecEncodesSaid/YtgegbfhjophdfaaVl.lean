/- varint.TakeAll: what it takes, and its walk. -/
import Derived.Test.YtgegbfhjophdfaaVk
import Derived.RangeFuncBox
import Derived.Maps.AppendAt
namespace Go.Proofs.Ytgegbfhjophdfaa
open Go Go.RowKit Go.Shelf

attribute [local go_sem] Oper.semAt_some

/-- So many numbers, taken one by one, turned back; what lies behind; the first error. -/
def takeN : Nat → List UInt8 → List Int × List UInt8 × Nat
  | 0, l => ([], l, 0)
  | n + 1, l => if (takeF 0 0 l).2.2 = 0 then
      (if (takeN n (l.drop (takeF 0 0 l).2.1)).2.2 = 0 then (zag (takeF 0 0 l).1 :: (takeN n (l.drop (takeF 0 0 l).2.1)).1, (takeN n (l.drop (takeF 0 0 l).2.1)).2.1, 0) else ([], [], (takeN n (l.drop (takeF 0 0 l).2.1)).2.2))
      else ([], [], (takeF 0 0 l).2.2)

theorem takeN_err {n : Nat} {l : List UInt8} {e : Nat} (h : takeF 0 0 l = (0, 0, e)) (he : e ≠ 0) (hn : n ≠ 0) : takeN n l = ([], [], e) := by
  cases n with
  | zero => exact absurd rfl hn
  | succ n => simp [takeN, h, he]
theorem takeN_more {n : Nat} {l : List UInt8} {u k : Nat} (h : takeF 0 0 l = (u, k, 0)) : takeN (n + 1) l = if (takeN n (l.drop k)).2.2 = 0 then (zag u :: (takeN n (l.drop k)).1, (takeN n (l.drop k)).2.1, 0) else ([], [], (takeN n (l.drop k)).2.2) := by
  simp [takeN, h]

theorem seq_bad : ∀ (pre : List (Int × Int)) (x : Int × Int) (fuel : Nat) (r : List UInt8) (k n : Nat), pre ++ [x] <+: seqF fuel r k → x.2 < 0 → pre.length < n → takeN n r = ([], [], (-x.2).toNat) := by
  intro pre
  induction pre with
  | nil =>
    intro x fuel r k n hp hx hn
    have hf : fuel ≠ 0 := by rintro rfl; simp [seqF] at hp
    rcases take_spec r with hs | hs | ⟨u, j, hs, hu, hj1, hj2, hj3⟩
    · rw [seqF_last hs (by decide) hf] at hp
      obtain rfl : x = (0, -10) := by simpa using hp
      rw [takeN_err hs (by decide) (by simp at hn; omega)]
      rfl
    · rw [seqF_last hs (by decide) hf] at hp
      obtain rfl : x = (0, -11) := by simpa using hp
      rw [takeN_err hs (by decide) (by simp at hn; omega)]
      rfl
    · rw [seqF_more hs hf] at hp
      simp at hp
      subst hp
      simp at hx
      omega
  | cons y pre ih =>
    intro x fuel r k n hp hx hn
    have hf : fuel ≠ 0 := by rintro rfl; simp [seqF] at hp
    rw [List.length_cons] at hn
    rcases take_spec r with hs | hs | ⟨u, j, hs, hu, hj1, hj2, hj3⟩
    · rw [seqF_last hs (by decide) hf] at hp
      simp at hp
    · rw [seqF_last hs (by decide) hf] at hp
      simp at hp
    · rw [seqF_more hs hf, List.cons_append, List.cons_prefix_cons] at hp
      obtain ⟨n, rfl⟩ : ∃ m, n = m + 1 := ⟨n - 1, by omega⟩
      have h1 := ih x _ _ _ n hp.2 hx (by omega)
      rw [takeN_more hs, h1, if_neg (by simp only; omega)]

theorem seq_good : ∀ (pre : List (Int × Int)) (x : Int × Int) (fuel : Nat) (r : List UInt8) (k : Nat), pre ++ [x] <+: seqF fuel r k → (∀ y ∈ pre, 0 ≤ y.2) → 0 ≤ x.2 →
    (k : Int) ≤ x.2 ∧ takeN (pre.length + 1) r = ((pre ++ [x]).map (fun y => y.1), r.drop (x.2.toNat - k), 0) := by
  intro pre
  induction pre with
  | nil =>
    intro x fuel r k hp _ hx
    have hf : fuel ≠ 0 := by rintro rfl; simp [seqF] at hp
    rcases take_spec r with hs | hs | ⟨u, j, hs, hu, hj1, hj2, hj3⟩
    · rw [seqF_last hs (by decide) hf] at hp
      obtain rfl : x = (0, -10) := by simpa using hp
      simp at hx
    · rw [seqF_last hs (by decide) hf] at hp
      obtain rfl : x = (0, -11) := by simpa using hp
      simp at hx
    · rw [seqF_more hs hf] at hp
      simp at hp
      subst hp
      refine ⟨by simp only; omega, ?_⟩
      have e1 : ((k : Int) + (j : Int)).toNat - k = j := by omega
      simp [takeN, hs, e1]
  | cons y pre ih =>
    intro x fuel r k hp hy hx
    have hf : fuel ≠ 0 := by rintro rfl; simp [seqF] at hp
    rcases take_spec r with hs | hs | ⟨u, j, hs, hu, hj1, hj2, hj3⟩
    · rw [seqF_last hs (by decide) hf] at hp
      simp at hp
    · rw [seqF_last hs (by decide) hf] at hp
      simp at hp
    · rw [seqF_more hs hf, List.cons_append, List.cons_prefix_cons] at hp
      obtain ⟨h0, h1⟩ := ih x _ _ _ hp.2 (fun z hz => hy z (by simp [hz])) hx
      refine ⟨by omega, ?_⟩
      rw [List.length_cons, takeN_more hs, h1]
      have e1 : j + (x.2.toNat - (k + j)) = x.2.toNat - k := by omega
      simp [hp.1, e1]

theorem seq_ends : ∀ (fuel : Nat) (r : List UInt8) (k : Nat), r.length < fuel → ∃ y ∈ seqF fuel r k, y.2 < 0 := by
  intro fuel
  induction fuel with
  | zero => intro r k h; omega
  | succ fuel ih =>
    intro r k h
    rcases take_spec r with hs | hs | ⟨u, j, hs, hu, hj1, hj2, hj3⟩
    · rw [seqF_last hs (by decide) (by omega)]
      exact ⟨(0, -10), by simp, by decide⟩
    · rw [seqF_last hs (by decide) (by omega)]
      exact ⟨(0, -11), by simp, by decide⟩
    · rw [seqF_more hs (by omega)]
      obtain ⟨y, hy, hneg⟩ := ih (r.drop j) (k + j) (by rw [List.length_drop]; omega)
      exact ⟨y, by simp [hy], hneg⟩

theorem info_i64 : (Try.prog.info? 2).map (fun i => (i.zero, i.size, i.bytes)) = some (some (.int .i64 0), 1, 8) := by kernel_rfl

/-- Append of one element in a round: as 'wpList_push'; and whatever is no cells lies as it lay. -/
theorem wpListIn_push {F : Fence} {n : Nat} {P : Program} {ops : Array Oper} {rest : List Oper} {o : Oper} {a : Act} {Q : Exit → Act → World → Prop} {w : World}
    (hgd : o.guard = none) (s x : Operand) (t : TypeId) (ho : o.op = .call { callee := .builtin .append, args := #[s, x], argTypes := #[t, t] })
    (base : Nat) (e : TypeId) (i : TypeInfo) (z : Value) (bytes : Nat) (ht : P.underlying t = some (.slice e)) (hi : P.info? e = some i) (hz : i.zero = some z)
    (hsize : i.size = 1) (hby : i.bytes = bytes) (hzs : z.cells.size = 1)
    {α : Type} (mk : α → Value) (xs : List α) (x1 : α) (v val : Value) (hval : val = mk x1) (hone : val.oneCell' = true)
    (hs : a.eval s = v) (hown : w.ownsRow base e 1 v xs.length (xs.map mk))
    (hx : a.eval x = .slice (some ⟨w.heap.size, 0, none⟩) 1 1)
    (h63 : xs.length + 1 ≤ maxLen) (hbytes : (xs.length + 1) * bytes ≤ 140737488355328) (hbase : base ≤ w.heap.size)
    (h : ∀ g cap w', w'.ownsRow base e 1 (.slice (some ⟨g, 0, none⟩) (xs.length + 1) cap) (xs ++ [x1]).length ((xs ++ [x1]).map mk) → Below base w w' → KeepsOthers w w' → wpListIn F n P ops Q rest (a.put o.dst (.slice (some ⟨g, 0, none⟩) (xs.length + 1) cap)) w') :
    wpListIn F n P ops Q (o :: rest) a (w.alloc (.cells #[val] e)) := by
  refine wpListIn_append_own _ hgd s x t ho base e i z 1 bytes ht hi hz hsize hby hzs (by decide) v xs.length _ hs (hown.alloc _) ⟨w.heap.size, 0, none⟩ 1 1 [val] hx rfl ?_ ?_ h63 hbytes (by simp; omega) ?_
  · intro j u hu
    have hj : j = 0 := by
      rcases j with _ | j
      · rfl
      · simp at hu
    subst hj
    simp at hu
    subst hu
    rw [show (⟨w.heap.size, 0, none⟩ : Addr).add 0 = ⟨w.heap.size, 0, none⟩ from rfl, World.cell?_alloc_at _ _ _ _ rfl]
    rfl
  · intro u hu
    simp at hu
    subst hu
    exact hone
  · intro v' w' h1 h2 h3
    obtain ⟨g, cap, rfl⟩ := ownsRow_succ h1
    refine h g cap w' ?_ ?_ ?_
    · have e1 : (xs ++ [x1]).length = xs.length + 1 := by simp
      have e2 : (xs ++ [x1]).map mk = xs.map mk ++ [val] := by simp [hval]
      rw [e1, e2]
      exact h1
    · exact ((Below.refl base w).alloc hbase _).grown h2 (by simp; omega) (fun k hk => (hown.lt k hk).1)
    · refine (KeepsOthers.alloc w _).trans (KeepsOthers.of_grownBy h2 fun j o ej hj => ?_)
      rcases (hown.alloc (.cells #[val] e)).2 with ⟨rfl, _⟩ | ⟨g', cap', cur, rfl, _, hgb, _⟩
      · simp [Value.ownBlock] at ej
      · obtain rfl : g' = j := by simpa [Value.ownBlock] using ej
        rw [hgb] at hj; cases hj; rfl

theorem keepsOthers_of_below {W W' : World} (h : Below W.heap.size W W') : KeepsOthers W W' :=
  ⟨h.size, fun k _ hk _ => (h.block k (Array.getElem?_eq_some_iff.1 hk).1).trans hk⟩

theorem owns_mono {w : World} {base base' : Nat} {e : TypeId} {size : Nat} {v : Value} {n : Nat} {xs : List Value} (h : w.ownsRow base e size v n xs) (hb : base' ≤ base) : w.ownsRow base' e size v n xs := by
  refine ⟨h.1, ?_⟩
  rcases h.2 with h2 | ⟨g, cap, cur, h1, h2, h3⟩
  · exact .inl h2
  · exact .inr ⟨g, cap, cur, h1, Nat.le_trans hb h2, h3⟩

theorem boxed_below {W W' : World} {B n : Nat} {t : TypeId} {v : Value} (h : Boxed W B t v) (hb : Below n W W') (hB : B < n) : Boxed W' B t v := (hb.block B hB).trans h

/-- What lies in the calls' own blocks while numbers are taken: B: the bytes' box, the count's, three results', the list's. -/
def AllI (B n : Nat) (vb : Value) (w : World) {N : Nat} (pre : List (Num N)) (W : World) : Prop :=
  (∀ p ∈ pre, 0 ≤ p.1.2) ∧ pre.length < n ∧ Boxed W B 24 vb ∧ Boxed W (B + 1) 3 (.int .i64 (n : Int)) ∧ (∃ r4, Boxed W (B + 1 + 1) 22 r4) ∧ (∃ r5, Boxed W (B + 1 + 1 + 1) 24 r5) ∧ (∃ r6, Boxed W (B + 1 + 1 + 1 + 1) 30 r6) ∧
    (∃ vo, Boxed W (B + 1 + 1 + 1 + 1 + 1) 22 vo ∧ W.ownsRow (B + 7) 2 1 vo (pre.map fun p => p.1.1).length ((pre.map fun p => p.1.1).map vi64)) ∧ Below B w W ∧ B + 7 ≤ W.heap.size

def AllX (B n : Nat) (l : List UInt8) (w : World) (c : Code) (pre : List (Num l.length)) (W : World) : Prop :=
  c = .ret ∧ (∃ pre0 x, pre = pre0 ++ [x] ∧ (∀ p ∈ pre0, 0 ≤ p.1.2) ∧ pre0.length < n ∧
    ((x.1.2 < 0 ∧ Boxed W (B + 1 + 1) 22 (.slice none 0 0) ∧ Boxed W (B + 1 + 1 + 1) 24 (.slice none 0 0) ∧ Boxed W (B + 1 + 1 + 1 + 1) 30 (.int .i64 (-x.1.2))) ∨
     (0 ≤ x.1.2 ∧ pre.length = n ∧ Boxed W (B + 1 + 1 + 1 + 1) 30 (.int .i64 0) ∧
       (∃ r4, Boxed W (B + 1 + 1) 22 r4 ∧ W.ownsRow (B + 7) 2 1 r4 (pre.map fun p => p.1.1).length ((pre.map fun p => p.1.1).map vi64)) ∧
       (∃ r5, Boxed W (B + 1 + 1 + 1) 24 r5 ∧ W.ownsRow (B + 7) 5 1 r5 (l.drop x.1.2.toNat).length ((l.drop x.1.2.toNat).map b8))))) ∧ Below B w W

theorem ownsRow_from {W W' : World} {row : Option Nat} {base : Nat} {e : TypeId} {size : Nat} {v : Value} {k : Nat} {xs : List Value} (h : W.ownsRow base e size v k xs) (hg : W.grownBy W' row) (hr : ∀ r, row = some r → ∃ o : Obj, W.heap[r]? = some o ∧ o.isCells = false) : W'.ownsRow base e size v k xs := by
  refine h.kept hg ?_
  rcases h.2 with ⟨rfl, _⟩ | ⟨g, cap, cur, rfl, _, hgb, _⟩
  · exact .inl rfl
  · refine .inr fun e' => ?_
    obtain ⟨o, ho, hc⟩ := hr g (by simpa [Value.ownBlock] using e'.symm)
    rw [hgb] at ho; cases ho; cases hc

theorem AllI.own (B n : Nat) (vb : Value) (w : World) (hB : B = w.heap.size) (N : Nat) : OwnFrom (B + 7) (AllI B n vb w (N := N)) := by
  rintro pre W W' row ⟨h1, h2, h3, h4, ⟨r4, h5⟩, ⟨r5, h6⟩, ⟨r6, h7⟩, ⟨vo, h8, h9⟩, h10, h11⟩ hg hr
  have hne : ∀ j, j < B + 7 → some j ≠ row := fun j hj e => by have := (hr j e.symm).1; omega
  exact ⟨h1, h2, h3.kept hg (hne _ (by omega)), h4.kept hg (hne _ (by omega)), ⟨r4, h5.kept hg (hne _ (by omega))⟩, ⟨r5, h6.kept hg (hne _ (by omega))⟩, ⟨r6, h7.kept hg (hne _ (by omega))⟩,
    ⟨vo, h8.kept hg (hne _ (by omega)), ownsRow_from h9 hg (fun r e => (hr r e).2)⟩, h10.grown hg (by subst hB; exact h10.size) (fun k e => by have := (hr k e).1; omega), Nat.le_trans h11 hg.size⟩

theorem AllX.own (B n : Nat) (l : List UInt8) (w : World) (hB : B = w.heap.size) (c : Code) : OwnFrom (B + 7) (AllX B n l w c) := by
  rintro pre W W' row ⟨h1, ⟨pre0, x, h2, h3, h4, h5⟩, h6⟩ hg hr
  have hne : ∀ j, j < B + 7 → some j ≠ row := fun j hj e => by have := (hr j e.symm).1; omega
  refine ⟨h1, ⟨pre0, x, h2, h3, h4, ?_⟩, h6.grown hg (by subst hB; exact h6.size) (fun k e => by have := (hr k e).1; omega)⟩
  rcases h5 with ⟨g1, g2, g3, g4⟩ | ⟨g1, g2, g3, ⟨r4, g4, g5⟩, ⟨r5, g6, g7⟩⟩
  · exact .inl ⟨g1, g2.kept hg (hne _ (by omega)), g3.kept hg (hne _ (by omega)), g4.kept hg (hne _ (by omega))⟩
  · exact .inr ⟨g1, g2, g3.kept hg (hne _ (by omega)), ⟨r4, g4.kept hg (hne _ (by omega)), ownsRow_from g5 hg (fun r e => (hr r e).2)⟩, ⟨r5, g6.kept hg (hne _ (by omega)), ownsRow_from g7 hg (fun r e => (hr r e).2)⟩⟩

theorem keepB_b {n₀ Bs : Nat} {w : World} (hn : n₀ ≤ w.heap.size) (hBs : Bs < w.heap.size) (W : World) (l : Nat) (o o' : Obj) (hl : w.heap.size ≤ l) (h : W.heap[l]? = some o) (h1 : o.isCells = false) (h2 : o.isWalk = false) : KeepB n₀ Bs W (W.putObj l o') :=
  ⟨belowK_b hn W l o o' hl h h1 h2, World.putObj_heap_other (by omega)⟩

theorem ownFrom_mono {β : Type} {B B' : Nat} {I : β → World → Prop} (h : OwnFrom B I) (hB : B ≤ B') : OwnFrom B' I :=
  fun s W W' row hs hg hr => h s W W' row hs hg (fun r e => ⟨Nat.le_trans hB (hr r e).1, (hr r e).2⟩)

theorem boxed_other {W : World} {B B' : Nat} {t : TypeId} {v : Value} (h : Boxed W B t v) (hne : B ≠ B') (u : Value) : Boxed (W.setCell ⟨B', 0, none⟩ u) B t v :=
  h.kept (grownBy_setCell' W B' u) (by simpa using hne)

end Go.Proofs.Ytgegbfhjophdfaa
