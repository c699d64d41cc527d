/- Rising rows, plain: sorted and each once; the same by putting one by one. -/
import Derived.Lib.SlicesCompact
import Derived.Lib.RowBridge
namespace Go.Proofs.YtcjbgchhalilnaaGreatDoor
open Go Go.Lib

structure Ord {α : Type} (le : α → α → Bool) : Prop where
  total : ∀ a b, le a b || le b a
  trans : ∀ a b c, le a b = true → le b c = true → le a c = true
  anti : ∀ a b, le a b = true → le b a = true → a = b
def lts {α : Type} (le : α → α → Bool) (a b : α) : Prop := le a b = true ∧ a ≠ b
def SS {α : Type} (le : α → α → Bool) (l : List α) : Prop := l.Pairwise (lts le)
theorem Ord.lt_trans {α : Type} {le : α → α → Bool} (h : Ord le) {a b c : α} (h1 : lts le a b) (h2 : lts le b c) : lts le a c := by
  refine ⟨h.trans _ _ _ h1.1 h2.1, fun e => ?_⟩
  subst e
  exact h1.2 (h.anti _ _ h1.1 h2.1)
theorem Ord.lt_irrefl {α : Type} {le : α → α → Bool} {a : α} (h : lts le a a) : False := h.2 rfl
theorem Ord.le_lt_trans {α : Type} {le : α → α → Bool} (h : Ord le) {a b c : α} (h1 : le a b = true) (h2 : lts le b c) : lts le a c := by
  refine ⟨h.trans _ _ _ h1 h2.1, fun e => ?_⟩
  subst e
  exact h2.2 (h.anti _ _ h2.1 h1)
theorem Ord.not_lt {α : Type} {le : α → α → Bool} (h : Ord le) {a b : α} (h1 : ¬ lts le a b) (h2 : a ≠ b) : lts le b a := by
  have := h.total a b
  rw [Bool.or_eq_true] at this
  rcases this with e | e
  · exact absurd ⟨e, h2⟩ h1
  · exact ⟨e, fun e => h2 e.symm⟩

/-- TWO RISING ROWS OF THE SAME ELEMENTS ARE ONE. -/
theorem SS.ext {α : Type} {le : α → α → Bool} (h : Ord le) : ∀ (x y : List α), SS le x → SS le y → (∀ a, a ∈ x ↔ a ∈ y) → x = y := by
  intro x
  induction x with
  | nil =>
    intro y _ _ hm
    cases y with
    | nil => rfl
    | cons b y => exact absurd ((hm b).2 (List.mem_cons_self ..)) (by simp)
  | cons a x ih =>
    intro y hx hy hm
    cases y with
    | nil => exact absurd ((hm a).1 (List.mem_cons_self ..)) (by simp)
    | cons b y =>
      unfold SS at hx hy
      rw [List.pairwise_cons] at hx hy
      have hab : a = b := by
        rcases List.mem_cons.1 ((hm a).1 (List.mem_cons_self ..)) with e | e
        · exact e
        · rcases List.mem_cons.1 ((hm b).2 (List.mem_cons_self ..)) with e' | e'
          · exact e'.symm
          · exact absurd (h.lt_trans (hx.1 b e') (hy.1 a e)) fun k => Ord.lt_irrefl k
      subst hab
      rw [ih y hx.2 hy.2 fun c => ?_]
      constructor
      · intro hc
        rcases List.mem_cons.1 ((hm c).1 (List.mem_cons_of_mem _ hc)) with e | e
        · subst e; exact absurd (hx.1 c hc) fun k => Ord.lt_irrefl k
        · exact e
      · intro hc
        rcases List.mem_cons.1 ((hm c).2 (List.mem_cons_of_mem _ hc)) with e | e
        · subst e; exact absurd (hy.1 c hc) fun k => Ord.lt_irrefl k
        · exact e

theorem SS.nodup {α : Type} {le : α → α → Bool} {l : List α} (h : SS le l) : l.Nodup := List.Pairwise.imp (fun h => h.2) h

theorem upTo_ss {α : Type} [Inhabited α] [DecidableEq α] {le : α → α → Bool} (h : Ord le) (d : Array α) (hs : ∀ i j, i < j → j < d.size → le d[i]! d[j]! = true) : ∀ m, m ≤ d.size →
    SS le (compactUpTo d m) ∧ ∀ a, a ∈ compactUpTo d m ↔ ∃ j, j < m ∧ d[j]! = a := by
  intro m
  induction m with
  | zero =>
    intro _
    refine ⟨by simp [SS, compactUpTo], fun a => ?_⟩
    simp [compactUpTo]
  | succ m ih =>
    intro hm
    obtain ⟨i1, i2⟩ := ih (by omega)
    rw [compactUpTo_succ]
    by_cases hk : keeps d m = true
    · rw [if_pos hk]
      refine ⟨?_, fun a => ?_⟩
      · unfold SS
        rw [List.pairwise_append]
        refine ⟨i1, List.pairwise_singleton _ _, fun a ha b hb => ?_⟩
        rw [List.mem_singleton] at hb
        subst hb
        obtain ⟨j, hj, rfl⟩ := (i2 a).1 ha
        unfold keeps at hk
        rw [decide_eq_true_eq] at hk
        rcases hk with hk | hk
        · omega
        · have h1 : lts le d[m - 1]! d[m]! := ⟨hs (m - 1) m (by omega) (by omega), fun e => hk e.symm⟩
          by_cases hjm : j = m - 1
          · subst hjm; exact h1
          · exact h.le_lt_trans (hs j (m - 1) (by omega) (by omega)) h1
      · rw [List.mem_append, i2, List.mem_singleton]
        constructor
        · rintro (⟨j, hj, e⟩ | e)
          · exact ⟨j, by omega, e⟩
          · exact ⟨m, by omega, e.symm⟩
        · rintro ⟨j, hj, e⟩
          by_cases hjm : j = m
          · subst hjm; exact .inr e.symm
          · exact .inl ⟨j, by omega, e⟩
    · rw [if_neg hk, List.append_nil]
      refine ⟨i1, fun a => ?_⟩
      rw [i2]
      unfold keeps at hk
      rw [decide_eq_true_eq] at hk
      have hm0 : m ≠ 0 := fun e => hk (.inl e)
      have hme : d[m]! = d[m - 1]! := by
        by_cases e : d[m]! = d[m - 1]!
        · exact e
        · exact absurd (.inr e) hk
      constructor
      · rintro ⟨j, hj, e⟩
        exact ⟨j, by omega, e⟩
      · rintro ⟨j, hj, e⟩
        by_cases hjm : j = m
        · subst hjm
          exact ⟨j - 1, by omega, by rw [← e, hme]⟩
        · exact ⟨j, by omega, e⟩

/-- What 'sort, then compact' gives. -/
def rise {α : Type} [Inhabited α] [DecidableEq α] (le : α → α → Bool) (l : List α) : List α := compact (l.mergeSort le)
theorem sorted_get {α : Type} [Inhabited α] {le : α → α → Bool} (h : Ord le) (l : List α) : ∀ i j, i < j → j < (l.mergeSort le).toArray.size → le (l.mergeSort le).toArray[i]! (l.mergeSort le).toArray[j]! = true := by
  intro i j hij hj
  have hp := List.pairwise_mergeSort h.trans h.total l
  rw [List.pairwise_iff_getElem] at hp
  have hj' : j < (l.mergeSort le).length := by simpa using hj
  have := hp i j (by omega) hj' hij
  rw [getElem!_pos _ i (by simp only [List.size_toArray]; omega), getElem!_pos _ j hj]
  simpa using this
theorem rise_ss {α : Type} [Inhabited α] [DecidableEq α] {le : α → α → Bool} (h : Ord le) (l : List α) : SS le (rise le l) := (upTo_ss h _ (sorted_get h l) _ (by simp)).1
theorem rise_mem {α : Type} [Inhabited α] [DecidableEq α] {le : α → α → Bool} (h : Ord le) (l : List α) (a : α) : a ∈ rise le l ↔ a ∈ l := by
  have hu := (upTo_ss h _ (sorted_get h l) (l.mergeSort le).length (by simp)).2 a
  unfold rise compact
  rw [hu, ← (List.mergeSort_perm l le).mem_iff, List.mem_iff_getElem]
  constructor
  · rintro ⟨j, hj, e⟩
    refine ⟨j, hj, ?_⟩
    rw [getElem!_pos _ j (by simpa using hj)] at e
    simpa using e
  · rintro ⟨j, hj, e⟩
    refine ⟨j, hj, ?_⟩
    rw [getElem!_pos _ j (by simpa using hj)]
    simpa using e
theorem rise_of_nodup {α : Type} [Inhabited α] [DecidableEq α] {le : α → α → Bool} (h : Ord le) {l : List α} (hn : l.Nodup) : (rise le l).length = l.length :=
  (List.perm_ext_iff_of_nodup (rise_ss h l).nodup hn |>.2 (rise_mem h l)).length_eq
theorem nodup_of_rise {α : Type} [Inhabited α] [DecidableEq α] {le : α → α → Bool} (h : Ord le) {l : List α} (hl : (rise le l).length = l.length) : l.Nodup := by
  have hk : ∀ j, j < (l.mergeSort le).length → keeps (l.mergeSort le).toArray j = true := by
    unfold rise compact compactUpTo at hl
    rw [List.length_map] at hl
    have h2 : ((List.range (l.mergeSort le).length).filter (keeps (l.mergeSort le).toArray)).length = (List.range (l.mergeSort le).length).length := by rw [hl]; simp
    rw [List.length_filter_eq_length_iff] at h2
    exact fun j hj => h2 j (List.mem_range.2 hj)
  have h3 := compact_all _ hk
  have h4 : SS le (l.mergeSort le) := by rw [← h3]; exact rise_ss h l
  exact (List.mergeSort_perm l le).nodup_iff.1 h4.nodup
theorem nodup_iff_rise {α : Type} [Inhabited α] [DecidableEq α] {le : α → α → Bool} (h : Ord le) (l : List α) : (rise le l).length = l.length ↔ l.Nodup := ⟨nodup_of_rise h, rise_of_nodup h⟩

/-- Put one more into a rising row. -/
def putS {α : Type} [DecidableEq α] (le : α → α → Bool) (s : α) : List α → List α
  | [] => [s]
  | x :: r => if le x s = true ∧ x ≠ s then x :: putS le s r else if x = s then x :: r else s :: x :: r
theorem putS_mem {α : Type} [DecidableEq α] {le : α → α → Bool} (s : α) : ∀ (l : List α) (a : α), a ∈ putS le s l ↔ a = s ∨ a ∈ l := by
  intro l
  induction l with
  | nil => intro a; simp [putS]
  | cons x r ih =>
    intro a
    unfold putS
    by_cases h1 : le x s = true ∧ x ≠ s
    · rw [if_pos h1, List.mem_cons, ih, List.mem_cons]
      constructor
      · rintro (e | e | e) <;> simp [e]
      · rintro (e | e | e) <;> simp [e]
    · rw [if_neg h1]
      by_cases h2 : x = s
      · subst h2
        rw [if_pos rfl, List.mem_cons]
        constructor
        · exact fun e => .inr e
        · rintro (e | e)
          · exact .inl e
          · exact e
      · rw [if_neg h2, List.mem_cons]
theorem putS_ss {α : Type} [DecidableEq α] {le : α → α → Bool} (h : Ord le) (s : α) : ∀ (l : List α), SS le l → SS le (putS le s l) := by
  intro l
  induction l with
  | nil => intro _; exact List.pairwise_singleton _ _
  | cons x r ih =>
    intro hs
    unfold SS at hs
    rw [List.pairwise_cons] at hs
    unfold putS
    by_cases h1 : le x s = true ∧ x ≠ s
    · rw [if_pos h1]
      refine List.pairwise_cons.2 ⟨fun a ha => ?_, ih hs.2⟩
      rcases (putS_mem s r a).1 ha with e | e
      · subst e; exact h1
      · exact hs.1 a e
    · rw [if_neg h1]
      by_cases h2 : x = s
      · rw [if_pos h2]
        exact List.pairwise_cons.2 hs
      · rw [if_neg h2]
        have h3 : lts le s x := h.not_lt h1 h2
        refine List.pairwise_cons.2 ⟨fun a ha => ?_, List.pairwise_cons.2 hs⟩
        rcases List.mem_cons.1 ha with e | e
        · subst e; exact h3
        · exact h.lt_trans h3 (hs.1 a e)
def putAllS {α : Type} [DecidableEq α] (le : α → α → Bool) (l : List α) (acc : List α) : List α := l.foldl (fun o s => putS le s o) acc
theorem putAllS_ss {α : Type} [DecidableEq α] {le : α → α → Bool} (h : Ord le) : ∀ (l acc : List α), SS le acc → SS le (putAllS le l acc) ∧ ∀ a, a ∈ putAllS le l acc ↔ a ∈ acc ∨ a ∈ l := by
  intro l
  induction l with
  | nil => intro acc ha; exact ⟨ha, fun a => by simp [putAllS]⟩
  | cons x l ih =>
    intro acc ha
    obtain ⟨h1, h2⟩ := ih (putS le x acc) (putS_ss h x acc ha)
    refine ⟨h1, fun a => ?_⟩
    have := h2 a
    unfold putAllS at this ⊢
    rw [List.foldl_cons, this, putS_mem, List.mem_cons]
    constructor
    · rintro ((e | e) | e) <;> simp [e]
    · rintro (e | e | e) <;> simp [e]
/-- BOTH WAYS GIVE ONE ROW. -/
theorem putAll_rise {α : Type} [Inhabited α] [DecidableEq α] {le : α → α → Bool} (h : Ord le) (l : List α) : putAllS le l [] = rise le l := by
  obtain ⟨h1, h2⟩ := putAllS_ss h l [] List.Pairwise.nil
  refine SS.ext h _ _ h1 (rise_ss h l) fun a => ?_
  rw [h2, rise_mem h]
  simp
/-- Where a text finds its place: how many are below. -/
def placeS {α : Type} [DecidableEq α] (le : α → α → Bool) (s : α) (l : List α) : Nat := (l.takeWhile fun x => decide (le x s = true ∧ x ≠ s)).length
theorem putS_place {α : Type} [DecidableEq α] {le : α → α → Bool} (s : α) : ∀ (l : List α), putS le s l = if l[placeS le s l]? = some s then l else l.take (placeS le s l) ++ s :: l.drop (placeS le s l) := by
  intro l
  induction l with
  | nil => simp [putS, placeS]
  | cons x r ih =>
    unfold putS
    by_cases h1 : le x s = true ∧ x ≠ s
    · have hp : placeS le s (x :: r) = placeS le s r + 1 := by unfold placeS; rw [List.takeWhile_cons_of_pos (by simpa using h1)]; rfl
      rw [if_pos h1, hp, ih]
      simp only [List.getElem?_cons_succ, List.take_succ_cons, List.drop_succ_cons, List.cons_append]
      by_cases h2 : r[placeS le s r]? = some s
      · rw [if_pos h2, if_pos h2]
      · rw [if_neg h2, if_neg h2]
    · have hp : placeS le s (x :: r) = 0 := by unfold placeS; rw [List.takeWhile_cons_of_neg (by simpa using h1)]; rfl
      rw [if_neg h1, hp]
      simp

theorem ordI : Ord (fun x y : Int => decide (x ≤ y)) where
  total a b := by simp; omega
  trans a b c h1 h2 := by simp at *; omega
  anti a b h1 h2 := by simp at *; omega
theorem ordS : Ord (fun x y : List UInt8 => decide (x ≤ y)) where
  total a b := by simpa using List.le_total a b
  trans a b c h1 h2 := by
    simp only [decide_eq_true_eq] at *
    exact List.le_trans h1 h2
  anti a b h1 h2 := by
    simp only [decide_eq_true_eq] at *
    exact List.le_antisymm h1 h2
end Go.Proofs.YtcjbgchhalilnaaGreatDoor
