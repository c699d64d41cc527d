/- A slice that reads as a list of values of three cells. -/
import Derived.Test.YtbpillbhkkjlbaaDoorDb
import Derived.Laws.OwnMore
namespace Go.Proofs.YtbpillbhkkjlbaaDoor
open Go Go.RowKit

def CellsAt (w : World) (b o : Nat) (a : V3) : Prop :=
  w.cell? ⟨b, o, none⟩ = some (.int .i64 a.m) ∧ w.cell? ⟨b, o + 1, none⟩ = some (.int .i64 a.e) ∧ w.cell? ⟨b, o + 2, none⟩ = some (.int .i64 a.s)

def ReadsV (w : World) (v : Value) (xs : List V3) : Prop :=
  (xs = [] ∧ ∃ ad cap, v = .slice ad 0 cap ∧ cap ≤ maxLen ∧ (ad = none → cap = 0)) ∨
  ∃ b off cap, v = .slice (some ⟨b, off, none⟩) xs.length cap ∧ xs.length ≤ cap ∧ cap ≤ maxLen ∧ b < w.heap.size ∧ ∀ i (h : i < xs.length), CellsAt w b (off + i * 3) xs[i]

theorem ReadsV.nil (w : World) : ReadsV w (.slice none 0 0) [] := .inl ⟨rfl, none, 0, rfl, Nat.zero_le _, fun _ => rfl⟩

theorem CellsAt.below {w w' : World} {B b o : Nat} {a : V3} (h : CellsAt w b o a) (hb : Below B w w') (hB : b < B) : CellsAt w' b o a :=
  ⟨(hb.cell (p := ⟨b, o, none⟩) hB).trans h.1, (hb.cell (p := ⟨b, o + 1, none⟩) hB).trans h.2.1, (hb.cell (p := ⟨b, o + 2, none⟩) hB).trans h.2.2⟩

theorem ReadsV.below {w w' : World} {B : Nat} {v : Value} {xs : List V3} (h : ReadsV w v xs) (hb : Below B w w') (hB : w.heap.size ≤ B) : ReadsV w' v xs := by
  rcases h with h | ⟨b, off, cap, h1, h2, h3, h4, h5⟩
  · exact .inl h
  · exact .inr ⟨b, off, cap, h1, h2, h3, Nat.lt_of_lt_of_le h4 hb.size, fun i hi => (h5 i hi).below hb (by omega)⟩

theorem ReadsV.slice {w : World} {v : Value} {xs : List V3} (h : ReadsV w v xs) : ∃ a cap, v = .slice a xs.length cap := by
  rcases h with ⟨rfl, ad, cap, rfl, _⟩ | ⟨b, off, cap, rfl, _⟩
  · exact ⟨_, _, rfl⟩
  · exact ⟨_, _, rfl⟩
theorem ReadsV.len_cap {w : World} {ad : Option Addr} {n cap : Nat} {xs : List V3} (h : ReadsV w (.slice ad n cap) xs) : xs.length ≤ cap ∧ cap ≤ maxLen := by
  rcases h with ⟨rfl, ad', cap', h1, h2, h3⟩ | ⟨b, off, cap', h1, h2, h3, _⟩
  · simp only [Value.slice.injEq] at h1
    obtain ⟨_, _, rfl⟩ := h1
    exact ⟨Nat.zero_le _, h2⟩
  · simp only [Value.slice.injEq] at h1
    obtain ⟨_, _, rfl⟩ := h1
    exact ⟨h2, h3⟩
theorem ReadsV.elem {w : World} {ad : Option Addr} {n cap k : Nat} {xs : List V3} (h : ReadsV w (.slice ad n cap) xs) (hk : k < xs.length) :
    ∃ b off, ad = some ⟨b, off, none⟩ ∧ b < w.heap.size ∧ CellsAt w b (off + k * 3) xs[k] := by
  rcases h with ⟨rfl, _⟩ | ⟨b, off, cap', h1, h2, h3, h4, h5⟩
  · cases hk
  · simp only [Value.slice.injEq] at h1
    obtain ⟨rfl, _, _⟩ := h1
    exact ⟨b, off, rfl, h4, h5 k hk⟩
theorem ReadsV.head {w : World} {ad : Option Addr} {n cap : Nat} {xs : List V3} (h : ReadsV w (.slice ad n cap) xs) (k : Nat) (hk : k ≤ xs.length) : ReadsV w (.slice ad k cap) (xs.take k) := by
  rcases h with ⟨rfl, ad', cap', h1, h2, h3⟩ | ⟨b, off, cap', h1, h2, h3, h4, h5⟩
  · simp only [Value.slice.injEq] at h1
    obtain ⟨rfl, _, rfl⟩ := h1
    obtain rfl : k = 0 := by simpa using hk
    exact .inl ⟨by simp, ad, cap, rfl, h2, h3⟩
  · simp only [Value.slice.injEq] at h1
    obtain ⟨rfl, _, rfl⟩ := h1
    have hl : (xs.take k).length = k := by rw [List.length_take]; omega
    refine .inr ⟨b, off, cap, by rw [hl], by omega, h3, h4, fun i hi => ?_⟩
    rw [List.getElem_take]
    exact h5 i (by omega)

def flatV (xs : List V3) : List Value := xs.flatMap cellsV
theorem flatV_append (xs ys : List V3) : flatV (xs ++ ys) = flatV xs ++ flatV ys := by simp [flatV]
theorem flatV_length (xs : List V3) : (flatV xs).length = xs.length * 3 := by
  induction xs with
  | nil => rfl
  | cons a l ih => rw [show flatV (a :: l) = cellsV a ++ flatV l from rfl, List.length_append, ih]; simp [cellsV]; omega
theorem flatV_get : ∀ (xs : List V3) (i : Nat) (h : i < xs.length), (flatV xs)[i * 3]? = some (.int .i64 xs[i].m) ∧ (flatV xs)[i * 3 + 1]? = some (.int .i64 xs[i].e) ∧ (flatV xs)[i * 3 + 2]? = some (.int .i64 xs[i].s)
  | a :: l, 0, _ => ⟨rfl, rfl, rfl⟩
  | a :: l, i + 1, h => by
    have ih := flatV_get l i (by simpa using h)
    have h3 : ∀ j, (flatV (a :: l))[i * 3 + j + 3]? = (flatV l)[i * 3 + j]? := fun j => by
      rw [show flatV (a :: l) = cellsV a ++ flatV l from rfl, List.getElem?_append_right (by simp [cellsV])]
      rfl
    have e0 : (i + 1) * 3 = i * 3 + 0 + 3 := by omega
    have e1 : (i + 1) * 3 + 1 = i * 3 + 1 + 3 := by omega
    have e2 : (i + 1) * 3 + 2 = i * 3 + 2 + 3 := by omega
    exact ⟨by rw [e0]; exact (h3 0).trans ih.1, by rw [e1]; exact (h3 1).trans ih.2.1, by rw [e2]; exact (h3 2).trans ih.2.2⟩

theorem ReadsV.of_owns {w : World} {base : Nat} {e : TypeId} {v : Value} {xs : List V3} (h : w.ownsRow base e 3 v xs.length (flatV xs)) : ReadsV w v xs := by
  have h0 := h
  obtain ⟨hl, ⟨rfl, hn⟩ | ⟨g, cap, cur, rfl, hg, hw, hc, hm, hs, hx⟩⟩ := h
  · obtain rfl : xs = [] := List.eq_nil_of_length_eq_zero hn
    exact ReadsV.nil w
  · refine .inr ⟨g, 0, cap, rfl, hc, hm, ?_, fun i hi => ?_⟩
    · have := h0.lt g rfl
      exact this.2
    · obtain ⟨a1, a2, a3⟩ := flatV_get xs i hi
      have k1 := h0.cellAt (i * 3) (by omega)
      have k2 := h0.cellAt (i * 3 + 1) (by omega)
      have k3 := h0.cellAt (i * 3 + 2) (by omega)
      rw [Nat.zero_add]
      exact ⟨k1.trans a1, k2.trans a2, k3.trans a3⟩
end Go.Proofs.YtbpillbhkkjlbaaDoor
