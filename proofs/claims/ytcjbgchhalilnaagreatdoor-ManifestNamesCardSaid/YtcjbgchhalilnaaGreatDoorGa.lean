/- ManifestAll, ManifestGrows: the plain laws. -/
import Derived.Test.YtcjbgchhalilnaaGreatDoorPb
import Derived.Sort.Walk0
namespace Go.Proofs.YtcjbgchhalilnaaGreatDoor
open Go Go.RowKit Go.Lib

theorem sum_hits (x : Int) : ∀ (L : List Int), L.Nodup → (L.map fun mo => if x = mo then 1 else 0).sum = if x ∈ L then 1 else 0 := by
  intro L
  induction L with
  | nil => intro _; simp
  | cons y L ih =>
    intro h
    rw [List.nodup_cons] at h
    rw [List.map_cons, List.sum_cons, ih h.2]
    by_cases e : x = y
    · subst e
      rw [if_pos rfl, if_neg h.1, if_pos (List.mem_cons_self ..)]
    · rw [if_neg e, Nat.zero_add]
      by_cases hm : x ∈ L
      · rw [if_pos hm, if_pos (List.mem_cons_of_mem _ hm)]
      · rw [if_neg hm, if_neg]
        intro k
        rcases List.mem_cons.1 k with k | k
        · exact e k
        · exact hm k
theorem sum_add {α : Type} (f g : α → Nat) : ∀ (L : List α), (L.map fun x => f x + g x).sum = (L.map f).sum + (L.map g).sum := by
  intro L
  induction L with
  | nil => rfl
  | cons y L ih => simp only [List.map_cons, List.sum_cons, ih]; omega
theorem sum_of (L : List Int) (hL : L.Nodup) : ∀ (data : List D2), (∀ d ∈ data, d.m ∈ L) → (L.map fun mo => (data.filter fun d => d.m == mo).length).sum = data.length := by
  intro data
  induction data with
  | nil =>
    intro _
    have : ∀ L : List Int, (L.map fun mo => (([] : List D2).filter fun d => d.m == mo).length).sum = 0 := by
      intro L
      induction L with
      | nil => rfl
      | cons y L ih => rw [List.map_cons, List.sum_cons, ih]; rfl
    exact this L
  | cons d data ih =>
    intro h
    have e : ∀ mo : Int, ((d :: data).filter fun d => d.m == mo).length = (if d.m = mo then 1 else 0) + (data.filter fun d => d.m == mo).length := by
      intro mo
      by_cases k : d.m = mo
      · rw [List.filter_cons_of_pos (by simpa using k), if_pos k, List.length_cons]; omega
      · rw [List.filter_cons_of_neg (by simpa using k), if_neg k]; omega
    simp only [e]
    rw [sum_add, ih fun x hx => h x (List.mem_cons_of_mem _ hx), sum_hits d.m L hL, if_pos (h d (List.mem_cons_self ..)), List.length_cons]
    omega

/-- How many files the first months have. -/
def sumTo (m : Man) (j : Nat) : Nat := (((monthsL m).take j).map fun mo => (ofL m mo).length).sum
theorem sumTo_zero (m : Man) : sumTo m 0 = 0 := by simp [sumTo]
theorem sumTo_succ (m : Man) {j : Nat} (h : j < (monthsL m).length) : sumTo m (j + 1) = sumTo m j + (ofL m (monthsL m)[j]).length := by
  unfold sumTo
  rw [List.take_succ_eq_append_getElem h, List.map_append, List.sum_append]
  simp
theorem months_ss (m : Man) : SS (fun x y : Int => decide (x ≤ y)) (monthsL m) := rise_ss ordI _
theorem months_mem (m : Man) (x : Int) : x ∈ monthsL m ↔ ∃ d ∈ m.data, d.m = x := by
  have h := rise_mem ordI (m.data.map (·.m)) x
  rw [List.mem_map] at h
  exact h
theorem sumTo_all (m : Man) : sumTo m (monthsL m).length = m.data.length := by
  unfold sumTo
  rw [List.take_length]
  have h := sum_of (monthsL m) (months_ss m).nodup m.data fun d hd => (months_mem m d.m).2 ⟨d, hd, rfl⟩
  rw [← h]
  congr 1
  refine List.map_congr_left fun mo _ => ?_
  unfold ofL
  rw [List.length_map]
theorem sumTo_le (m : Man) : ∀ j, j ≤ (monthsL m).length → sumTo m j ≤ m.data.length := by
  intro j hj
  rw [← sumTo_all m]
  have : ∀ k, j + k ≤ (monthsL m).length → sumTo m j ≤ sumTo m (j + k) := by
    intro k
    induction k with
    | zero => intro _; exact Nat.le_refl _
    | succ k ih =>
      intro hk
      have := sumTo_succ m (j := j + k) (by omega)
      rw [Nat.add_assoc] at this
      rw [this]
      have := ih (by omega)
      omega
  have h := this ((monthsL m).length - j) (by omega)
  rwa [show j + ((monthsL m).length - j) = (monthsL m).length by omega] at h
theorem months_up (m : Man) {j : Nat} (h0 : 0 < j) (h : j < (monthsL m).length) : (monthsL m)[j - 1] < (monthsL m)[j] := by
  have hs := months_ss m
  unfold SS at hs
  rw [List.pairwise_iff_getElem] at hs
  have := hs (j - 1) j (by omega) h (by omega)
  unfold lts at this
  have h1 : (monthsL m)[j - 1] ≤ (monthsL m)[j] := by simpa using this.1
  have h2 := this.2
  omega
theorem of_some (m : Man) {j : Nat} (h : j < (monthsL m).length) : 0 < (ofL m (monthsL m)[j]).length := by
  obtain ⟨d, hd, he⟩ := (months_mem m (monthsL m)[j]).1 (List.getElem_mem h)
  unfold ofL
  rw [List.length_map]
  exact List.length_pos_of_mem (List.mem_filter.2 ⟨hd, by simpa using he⟩)
theorem of_le (m : Man) (mo : Int) : (ofL m mo).length ≤ m.data.length := by
  unfold ofL
  rw [List.length_map]
  exact List.length_filter_le _ _
theorem months_le (m : Man) : (monthsL m).length ≤ m.data.length := by
  have h := compact_length_le ((m.data.map (·.m)).mergeSort fun x y : Int => decide (x ≤ y))
  rw [List.length_mergeSort, List.length_map] at h
  exact h
theorem names_up (m : Man) {j : Nat} (h0 : 0 < j) (h : j < (namesL m).length) : Op.bytesLess (namesL m)[j - 1] (namesL m)[j] = true := by
  have hs : SS (fun x y : List UInt8 => decide (x ≤ y)) (namesL m) := rise_ss ordS _
  unfold SS at hs
  rw [List.pairwise_iff_getElem] at hs
  have h3 := hs (j - 1) j (by omega) h (by omega)
  unfold lts at h3
  have h1 : (namesL m)[j - 1] ≤ (namesL m)[j] := by simpa using h3.1
  rw [bytesLess_eq, decide_eq_true_eq]
  rcases Decidable.em ((namesL m)[j - 1] < (namesL m)[j]) with h4 | h4
  · exact h4
  · exact absurd (List.le_antisymm h1 (List.not_lt.1 h4)) h3.2
theorem names_le (m : Man) : (namesL m).length ≤ m.index.length + m.data.length := by
  have h := compact_length_le ((m.index ++ m.data.map (·.n)).mergeSort fun x y : List UInt8 => decide (x ≤ y))
  rw [List.length_mergeSort, List.length_append, List.length_map] at h
  exact h
end Go.Proofs.YtcjbgchhalilnaaGreatDoor
