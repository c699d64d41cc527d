/- The closure that takes a number, manifest.Unpack$1: the walk. -/
import Derived.Test.YtcjbgchhalilnaaGreatDoorPb
import Derived.Test.YtcjbgchhalilnaaGreatDoorVe
namespace Go.Proofs.YtcjbgchhalilnaaGreatDoor
open Go Go.RowKit

theorem set_other {w : World} {p q : Addr} {u : Value} (h : p.block ≠ q.block) : (w.setCell p u).cell? q = w.cell? q := World.cell?_setCell_other w p q u fun e => h (by rw [e])
/-- What a call of the closure turns: one of its two boxes, and new blocks. -/
def Step2 (n4 n6 : Nat) (w w' : World) : Prop := ∃ w1 p u, (p = n4 ∨ p = n6) ∧ Below w.heap.size w w1 ∧ w' = w1.setCell ⟨p, 0, none⟩ u
theorem Step2.below {n4 n6 B : Nat} {w w' : World} (h : Step2 n4 n6 w w') (h4 : B ≤ n4) (h6 : B ≤ n6) (hB : B ≤ w.heap.size) : Below B w w' := by
  obtain ⟨w1, p, u, hp, hb, rfl⟩ := h
  refine (hb.mono hB).setCell (p := ⟨p, 0, none⟩) ?_ _
  rcases hp with rfl | rfl
  · exact h4
  · exact h6
theorem Step2.cell {n4 n6 : Nat} {w w' : World} (h : Step2 n4 n6 w w') {q : Addr} (hq : q.block < w.heap.size) (h4 : q.block ≠ n4) (h6 : q.block ≠ n6) : w'.cell? q = w.cell? q := by
  obtain ⟨w1, p, u, hp, hb, rfl⟩ := h
  rw [set_other, hb.cell hq]
  rcases hp with rfl | rfl
  · exact Ne.symm h4
  · exact Ne.symm h6
theorem Step2.frozen {n4 n6 : Nat} {w w' : World} (h : Step2 n4 n6 w w') {q : Addr} (hq : q.block < w.heap.size) : w'.frozen? q = w.frozen? q := by
  obtain ⟨w1, p, u, hp, hb, rfl⟩ := h
  rw [World.frozen?_setCell, hb.frozen hq]
theorem Step2.size {n4 n6 : Nat} {w w' : World} (h : Step2 n4 n6 w w') : w.heap.size ≤ w'.heap.size := by
  obtain ⟨w1, p, u, hp, hb, rfl⟩ := h
  have := hb.size
  simpa using this
theorem Step2.own {n4 n6 base : Nat} {w w' : World} (h : Step2 n4 n6 w w') (h4 : n4 < base) (h6 : n6 < base) {e : TypeId} {size : Nat} {v : Value} {n : Nat} {xs : List Value} (ow : w.ownsRow base e size v n xs) : w'.ownsRow base e size v n xs := by
  obtain ⟨w1, p, u, hp, hb, rfl⟩ := h
  refine ownsRow_setCell_below (owns_below ow hb) ?_ _
  rcases hp with rfl | rfl
  · exact h4
  · exact h6

/-- Bytes that lie outside of some blocks. -/
def RestAt (X : List Nat) (w : World) (v : Value) (l : List UInt8) : Prop :=
  Reads w b8 v l ∧ ∀ b o n c, v = .slice (some ⟨b, o, none⟩) n c → b ∉ X ∨ l = []
theorem RestAt.below {X : List Nat} {B : Nat} {w w' : World} {v : Value} {l : List UInt8} (h : RestAt X w v l) (hb : Below B w w') (hB : w.heap.size ≤ B) : RestAt X w' v l := ⟨h.1.below hb hB, h.2⟩
theorem RestAt.setCell {X : List Nat} {w : World} {v : Value} {l : List UInt8} (h : RestAt X w v l) {p : Addr} (h1 : p.block ∈ X) (u : Value) : RestAt X (w.setCell p u) v l := by
  refine ⟨?_, h.2⟩
  rcases h.1 with h | ⟨b, off, cap, hv, g1, g2, g3, g4⟩
  · exact .inl h
  · by_cases hl : l = []
    · subst hl
      exact .inl ⟨rfl, some ⟨b, off, none⟩, cap, hv, g2, fun e => by cases e⟩
    · refine .inr ⟨b, off, cap, hv, g1, g2, by simpa using g3, fun i hi => ?_⟩
      have hne : b ≠ p.block := by
        rcases h.2 b off _ cap hv with e | e
        · exact fun k => e (k ▸ h1)
        · exact absurd e hl
      rw [set_other (Ne.symm hne)]
      exact g4 i hi

/-- The two boxes. -/
structure Boxes (X : List Nat) (n4 n6 : Nat) (s : St) (w : World) : Prop where
  rest : ∃ v, w.cell? ⟨n4, 0, none⟩ = some v ∧ RestAt X w v s.2
  ok : w.cell? ⟨n6, 0, none⟩ = some (.bool s.1)
  z4 : w.frozen? ⟨n4, 0, none⟩ = false
  z6 : w.frozen? ⟨n6, 0, none⟩ = false
  in4 : n4 ∈ X
  in6 : n6 ∈ X
  ne : n4 ≠ n6
  size : ∀ x ∈ X, x < w.heap.size
  len : s.2.length ≤ 200000
theorem Boxes.below {X : List Nat} {n4 n6 B : Nat} {s : St} {w w' : World} (h : Boxes X n4 n6 s w) (hb : Below B w w') (hB : w.heap.size ≤ B) : Boxes X n4 n6 s w' := by
  obtain ⟨⟨v, h1, h2⟩, h3, h4, h5, i4, i6, ne, sz, ln⟩ := h
  have s4 := sz n4 i4
  have s6 := sz n6 i6
  exact ⟨⟨v, (hb.cell (p := ⟨n4, 0, none⟩) (by show n4 < B; omega)).trans h1, h2.below hb hB⟩, (hb.cell (p := ⟨n6, 0, none⟩) (by show n6 < B; omega)).trans h3, (hb.frozen (p := ⟨n4, 0, none⟩) (by show n4 < B; omega)).trans h4, (hb.frozen (p := ⟨n6, 0, none⟩) (by show n6 < B; omega)).trans h5, i4, i6, ne, fun x hx => Nat.lt_of_lt_of_le (sz x hx) hb.size, ln⟩
theorem Boxes.setCell {X : List Nat} {n4 n6 : Nat} {s : St} {w : World} (h : Boxes X n4 n6 s w) {p : Addr} (h1 : p.block ∈ X) (e4 : p.block ≠ n4) (e6 : p.block ≠ n6) (u : Value) : Boxes X n4 n6 s (w.setCell p u) := by
  obtain ⟨⟨v, g1, g2⟩, g3, g4, g5, i4, i6, ne, sz, ln⟩ := h
  exact ⟨⟨v, by rw [set_other e4]; exact g1, g2.setCell h1 u⟩, by rw [set_other e6]; exact g3, by rw [World.frozen?_setCell]; exact g4, by rw [World.frozen?_setCell]; exact g5, i4, i6, ne, fun x hx => by simpa using sz x hx, ln⟩
/-- One block more is kept out of the bytes. -/
theorem Boxes.more {X : List Nat} {n4 n6 : Nat} {s : St} {w w' : World} (h : Boxes X n4 n6 s w) (hb : Below w.heap.size w w') {n8 : Nat} (h8 : n8 = w.heap.size) (h9 : n8 < w'.heap.size) : Boxes (n8 :: X) n4 n6 s w' := by
  obtain ⟨⟨v, g1, g2⟩, g3, g4, g5, i4, i6, ne, sz, ln⟩ := h.below hb (Nat.le_refl _)
  refine ⟨⟨v, g1, g2.1, fun b o n c hv => ?_⟩, g3, g4, g5, List.mem_cons_of_mem _ i4, List.mem_cons_of_mem _ i6, ne, fun x hx => ?_, ln⟩
  · rcases g2.2 b o n c hv with e | e
    · by_cases hl : s.2 = []
      · exact .inr hl
      · refine .inl fun k => ?_
        rcases List.mem_cons.1 k with k | k
        · subst k
          obtain ⟨v0, q1, q2⟩ := h.rest
          have e4 := h.size n4 h.in4
          have hv0 : v0 = v := by
            have := hb.cell (p := ⟨n4, 0, none⟩) e4
            rw [q1, g1] at this
            exact (Option.some.inj this).symm
          subst hv0
          rcases q2.1 with ⟨r, _⟩ | ⟨b', off', cap', hv', _, _, r3, _⟩
          · exact hl r
          · rw [hv] at hv'
            simp only [Value.slice.injEq, Option.some.injEq, Addr.mk.injEq] at hv'
            omega
        · exact e k
    · exact .inr e
  · rcases List.mem_cons.1 hx with e | e
    · omega
    · exact sz x e

def NumEnd (X : List Nat) (n4 n6 : Nat) (s : St) (w : World) (e : Ending) (w' : World) : Prop :=
  e = .returned (.int .i64 (numS s).1) ∧ Boxes X n4 n6 (numS s).2 w' ∧ Step2 n4 n6 w w'

theorem Boxes.good {X : List Nat} {n4 n6 : Nat} {s : St} {w w1 : World} {v : Value} {l : List UInt8} (h : Boxes X n4 n6 s w) (hs : s.1 = true) (hl : l.length ≤ 200000) (hb : Below w.heap.size w w1) (ow : w1.ownsRow w.heap.size 5 1 v l.length (l.map b8)) : Boxes X n4 n6 (true, l) (w1.setCell ⟨n4, 0, none⟩ v) := by
  obtain ⟨g1, g3, g4, g5, i4, i6, ne, sz, ln⟩ := h
  have hs1 := hb.size
  have s4 := sz n4 i4
  have s6 := sz n6 i6
  have c4 : ∃ x, w1.cell? ⟨n4, 0, none⟩ = some x := by
    obtain ⟨x, hx, _⟩ := g1
    exact ⟨x, (hb.cell (p := ⟨n4, 0, none⟩) s4).trans hx⟩
  obtain ⟨x, hx⟩ := c4
  refine ⟨⟨v, World.cell?_setCell_same _ _ _ hx, Reads.of_owns (ownsRow_setCell_below ow s4 _), ?_⟩, ?_, ?_, ?_, i4, i6, ne, fun x hx => by simpa using Nat.lt_of_lt_of_le (sz x hx) hs1, hl⟩
  · intro b o n c hv
    rcases ow.2 with ⟨h1, _⟩ | ⟨g, cap, cur, h1, h2, _⟩
    · rw [h1] at hv; cases hv
    · rw [h1] at hv
      simp only [Value.slice.injEq, Option.some.injEq, Addr.mk.injEq] at hv
      obtain ⟨⟨rfl, _⟩, _⟩ := hv
      exact .inl fun k => by have := sz _ k; omega
  · rw [set_other ne, hb.cell (p := ⟨n6, 0, none⟩) s6, g3, hs]
  · rw [World.frozen?_setCell, hb.frozen (p := ⟨n4, 0, none⟩) s4]; exact g4
  · rw [World.frozen?_setCell, hb.frozen (p := ⟨n6, 0, none⟩) s6]; exact g5
theorem Boxes.bad {X : List Nat} {n4 n6 : Nat} {s : St} {w w1 : World} (h : Boxes X n4 n6 s w) (hb : Below w.heap.size w w1) : Boxes X n4 n6 (false, s.2) (w1.setCell ⟨n6, 0, none⟩ (.bool false)) := by
  have h1 := h.below hb (Nat.le_refl _)
  obtain ⟨⟨v, g1, g2⟩, g3, g4, g5, i4, i6, ne, sz, ln⟩ := h1
  exact ⟨⟨v, by rw [set_other (Ne.symm ne)]; exact g1, g2.setCell i6 _⟩, World.cell?_setCell_same _ _ _ g3, by rw [World.frozen?_setCell]; exact g4, by rw [World.frozen?_setCell]; exact g5, i4, i6, ne, fun x hx => by simpa using sz x hx, ln⟩

set_option maxRecDepth 100000 in
theorem num_any (X : List Nat) (n4 n6 : Nat) (s : St) (w : World) (h : Boxes X n4 n6 s w) :
    Calls Tryz.prog 37 #[.pointer (some ⟨n4, 0, none⟩), .pointer (some ⟨n6, 0, none⟩)] w (NumEnd X n4 n6 s w) := by
  obtain ⟨v, hc4, hR⟩ := h.rest
  have hc6 := h.ok
  have hz4 := h.z4
  have hz6 := h.z6
  have hln := h.len
  have s4 := h.size n4 h.in4
  have s6 := h.size n6 h.in6
  have hk := Take_any v s.2 w (by omega) hR.1
  have hrl := takeRest_le s.2
  have HN : Hid (numS s = if s.1 = true ∧ (takeF 0 0 s.2).2.2 = 0 ∧ (takeF 0 0 s.2).1 ≤ 4611686018427387904 then (((takeF 0 0 s.2).1 : Int), (true, takeRest s.2)) else (0, (false, s.2))) := rfl
  have HB := Lib.hid h
  unfold TakeEnd3 at hk
  have hu : U64 (takeF 0 0 s.2).1 := by
    rcases take_spec s.2 with e | e | ⟨u, k, e, hu, _⟩ <;> rw [e]
    · exact (by unfold U64; decide)
    · exact (by unfold U64; decide)
    · exact hu
  clear h hR
  go_enter Tryz.func37, Tryz.ntmps37
  go_wp2_with fail
  refine hk.mono ?_
  rintro e w1 ⟨v', rfl, hown, hb⟩
  obtain ⟨av, cv, rfl⟩ := (Reads.of_owns hown).slice
  have hc6' := (hb.cell (p := ⟨n6, 0, none⟩) s6).trans hc6
  have hz4' := (hb.frozen (p := ⟨n4, 0, none⟩) s4).trans hz4
  have hz6' := (hb.frozen (p := ⟨n6, 0, none⟩) s6).trans hz6
  have hc4' := (hb.cell (p := ⟨n4, 0, none⟩) s4).trans hc4
  clear hk hc4 hc6 hz4 hz6
  generalize hT : takeF 0 0 s.2 = T at hu HN ⊢
  obtain ⟨u, k, er⟩ := T
  have HT := Lib.hid hT
  clear hT
  simp only at hu HN ⊢
  unfold U64 at hu
  by_cases hs : s.1 = true
  · rw [hs] at hc6'
    by_cases he : er = 0
    · subst he
      by_cases hbig : u ≤ 4611686018427387904
      · rw [if_pos ⟨hs, rfl, hbig⟩] at HN
        have hbig' : (u : Int) ≤ 4611686018427387904 := by omega
        go_wp2_with fail
        go_ret
        rw [NumEnd, HN.out]
        exact ⟨rfl, HB.out.good hs (by omega) hb hown, _, n4, _, .inl rfl, hb, rfl⟩
      · rw [if_neg (fun e => hbig e.2.2)] at HN
        have hbig' : (4611686018427387904 : Int) < u := by omega
        go_wp2_with fail
        go_ret
        rw [NumEnd, HN.out]
        exact ⟨rfl, HB.out.bad hb, _, n6, _, .inr rfl, hb, rfl⟩
    · rw [if_neg (fun e => he e.2.1)] at HN
      have he' : ¬ (er : Int) = 0 := by omega
      go_wp2_with fail
      go_ret
      rw [NumEnd, HN.out]
      exact ⟨rfl, HB.out.bad hb, _, n6, _, .inr rfl, hb, rfl⟩
  · rw [if_neg (fun e => hs e.1)] at HN
    have hs' : s.1 = false := by simpa using hs
    rw [hs'] at hc6'
    go_wp2_with fail
    go_ret
    rw [NumEnd, HN.out]
    exact ⟨rfl, HB.out.bad hb, _, n6, _, .inr rfl, hb, rfl⟩
end Go.Proofs.YtcjbgchhalilnaaGreatDoor
