/- CodecMoves: the plain law. -/
import Derived.Test.YtgegbfhjophdfaaCg
namespace Go.Proofs.Ytgegbfhjophdfaa
open Go Go.RowKit

/-- A row that is moved. -/
def movL (l : List Int) (by_ : Int) : List Int := l.map fun x => wadd x by_
theorem movL_length (l : List Int) (y : Int) : (movL l y).length = l.length := by simp [movL]
theorem movL_i64 (l : List Int) (y : Int) : ∀ n ∈ movL l y, I64 n := by
  intro n hn
  simp only [movL, List.mem_map] at hn
  obtain ⟨a, _, rfl⟩ := hn
  unfold I64 wadd wrap64
  omega
theorem wsub_moved (a b y : Int) : wsub (wadd a y) (wadd b y) = wsub a b := by
  unfold wsub wadd wrap64
  omega
theorem wadd_inj {a b y : Int} (ha : I64 a) (hb : I64 b) (h : wadd a y = wadd b y) : a = b := by
  unfold I64 at ha hb
  unfold wadd wrap64 at h
  omega
theorem steps_moved (l : List Int) (y : Int) : steps (movL l y) = steps l := by
  apply List.ext_getElem
  · rw [steps_length, steps_length, movL_length]
  · intro i h1 h2
    have h3 : i + 1 < l.length := by rw [steps_length] at h2; omega
    rw [steps_get _ i h1 (by rw [movL_length]; exact h3), steps_get _ i h2 h3]
    simp only [movL, List.getElem_map]
    exact wsub_moved _ _ _
theorem movL_getD (l : List Int) (y : Int) (i : Nat) (h : i < l.length) : (movL l y).getD i 0 = wadd (l.getD i 0) y := by simp [movL, h]
theorem df_moved (l : List Int) (y : Int) (i : Nat) (h : i < l.length) : df (movL l y) i = df l i := by
  rw [df, df, movL_getD l y i h, movL_getD l y (i - 1) (by omega), wsub_moved]

/-- The numbers that a kind writes of a row and of the moved row: alike but for the first. -/
theorem kind_moved (kind : Int) (l : List Int) (y : Int) (hl : ∀ n ∈ l, I64 n) (h0 : 1 ≤ l.length) :
    (kindL kind l = none ∧ kindL kind (movL l y) = none) ∨ ∃ t, kindL kind l = some (l.getD 0 0 :: t) ∧ kindL kind (movL l y) = some (wadd (l.getD 0 0) y :: t) := by
  have hg : ∀ i, i < l.length → I64 (l.getD i 0) := fun i hi => by
    simp only [List.getD_eq_getElem?_getD, List.getElem?_eq_getElem hi, Option.getD_some]
    exact hl _ (List.getElem_mem hi)
  have ht1 : l.take 1 = [l.getD 0 0] := by
    match l, h0 with
    | a :: r, _ => simp
  have ht2 : (movL l y).take 1 = [wadd (l.getD 0 0) y] := by
    match l, h0 with
    | a :: r, _ => simp [movL]
  unfold kindL
  split
  · have hiff : AlikeL (movL l y) ↔ AlikeL l := by
      unfold AlikeL FlatB
      rw [movL_length]
      refine ⟨fun h i h1 h2 => ?_, fun h i h1 h2 => ?_⟩
      · have h3 := h i h1 h2
        simp only [movL_getD l y i h2, movL_getD l y 0 (by omega)] at h3
        exact wadd_inj (hg i h2) (hg 0 (by omega)) h3
      · have h3 := h i h1 h2
        simp only at h3
        simp only [movL_getD l y i h2, movL_getD l y 0 (by omega), h3]
    by_cases ha : AlikeL l
    · refine .inr ⟨[], ?_, ?_⟩
      · rw [kind0, if_pos ⟨h0, ha⟩, ht1]
      · rw [kind0, if_pos ⟨by rw [movL_length]; exact h0, hiff.2 ha⟩, ht2]
    · refine .inl ⟨?_, ?_⟩
      · exact if_neg (fun h => ha h.2)
      · exact if_neg (fun h => ha (hiff.1 h.2))
  · split
    · have hiff : FlatB (df (movL l y)) 1 (movL l y).length ↔ FlatB (df l) 1 l.length := by
        unfold FlatB
        rw [movL_length]
        refine ⟨fun h i h1 h2 => ?_, fun h i h1 h2 => ?_⟩
        · have h3 := h i h1 h2
          rwa [df_moved l y i h2, df_moved l y 1 (by omega)] at h3
        · have h3 := h i h1 h2
          rwa [df_moved l y i h2, df_moved l y 1 (by omega)]
      by_cases ha : 2 ≤ l.length ∧ FlatB (df l) 1 l.length
      · refine .inr ⟨[df l 1], ?_, ?_⟩
        · rw [kind1, if_pos ha]
        · rw [kind1, if_pos ⟨by rw [movL_length]; exact ha.1, hiff.2 ha.2⟩, movL_getD l y 0 (by omega), df_moved l y 1 (by omega)]
      · refine .inl ⟨if_neg ha, if_neg (fun h => ha ⟨by have := h.1; rwa [movL_length] at this, hiff.1 h.2⟩)⟩
    · split
      · refine .inr ⟨steps l, ?_, ?_⟩
        · rw [firstL, ht1]
          rfl
        · rw [firstL, ht2, steps_moved]
          rfl
      · split
        · by_cases h2 : 2 ≤ l.length
          · refine .inr ⟨firstL (steps l), ?_, ?_⟩
            · rw [kind3, if_pos h2, secondL, ht1]
              rfl
            · rw [kind3, if_pos (by rw [movL_length]; exact h2), secondL, ht2, steps_moved]
              rfl
          · exact .inl ⟨if_neg h2, if_neg (by rw [movL_length]; exact h2)⟩
        · exact .inl ⟨rfl, rfl⟩

end Go.Proofs.Ytgegbfhjophdfaa
