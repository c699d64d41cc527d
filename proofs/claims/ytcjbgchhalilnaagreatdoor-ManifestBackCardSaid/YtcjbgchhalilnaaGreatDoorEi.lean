/- A row of files: a slice that reads as a list of structs of two cells; strings' rows. -/
import Derived.Test.YtcjbgchhalilnaaGreatDoorKb
import Derived.Laws.OwnMore
import Derived.ProofKit
import Derived.Sort.EncStr
namespace Go.Proofs.YtcjbgchhalilnaaGreatDoor
open Go Go.RowKit

/-- A file: a month, a name. -/
structure D2 where
  m : Int
  n : List UInt8
  deriving DecidableEq
def cellsV (a : D2) : List Value := [.int .i64 a.m, encStr a.n]
def vv (a : D2) : Value := .agg #[.int .i64 a.m, encStr a.n]
def CellsAt (w : World) (b o : Nat) (a : D2) : Prop := w.cell? ⟨b, o, none⟩ = some (.int .i64 a.m) ∧ w.cell? ⟨b, o + 1, none⟩ = some (encStr a.n)
def ReadsV (w : World) (v : Value) (xs : List D2) : Prop :=
  (xs = [] ∧ ∃ ad cap, v = .slice ad 0 cap ∧ cap ≤ maxLen ∧ (ad = none → cap = 0)) ∨
  ∃ b off cap, v = .slice (some ⟨b, off, none⟩) xs.length cap ∧ xs.length ≤ cap ∧ cap ≤ maxLen ∧ b < w.heap.size ∧ ∀ i (h : i < xs.length), CellsAt w b (off + i * 2) xs[i]
theorem info_parts2 {P : Program} {e : TypeId} (h : (P.info? e).map (fun i => (i.zero, i.size, i.bytes)) = some (some (.agg #[.int .i64 0, encStr []]), 2, 24)) : ∃ i, P.info? e = some i ∧ i.zero = some (.agg #[.int .i64 0, encStr []]) ∧ i.size = 2 ∧ i.bytes = 24 := by
  cases hi : P.info? e with
  | none => rw [hi] at h; cases h
  | some i =>
    rw [hi] at h
    simp only [Option.map_some, Option.some.injEq, Prod.mk.injEq] at h
    exact ⟨i, rfl, h.1, h.2.1, h.2.2⟩

theorem ReadsV.nil (w : World) : ReadsV w (.slice none 0 0) [] := .inl ⟨rfl, none, 0, rfl, Nat.zero_le _, fun _ => rfl⟩

theorem CellsAt.below {w w' : World} {B b o : Nat} {a : D2} (h : CellsAt w b o a) (hb : Below B w w') (hB : b < B) : CellsAt w' b o a :=
  ⟨(hb.cell (p := ⟨b, o, none⟩) hB).trans h.1, (hb.cell (p := ⟨b, o + 1, none⟩) hB).trans h.2⟩

theorem ReadsV.below {w w' : World} {B : Nat} {v : Value} {xs : List D2} (h : ReadsV w v xs) (hb : Below B w w') (hB : w.heap.size ≤ B) : ReadsV w' v xs := by
  rcases h with h | ⟨b, off, cap, h1, h2, h3, h4, h5⟩
  · exact .inl h
  · exact .inr ⟨b, off, cap, h1, h2, h3, Nat.lt_of_lt_of_le h4 hb.size, fun i hi => (h5 i hi).below hb (by omega)⟩

theorem ReadsV.slice {w : World} {v : Value} {xs : List D2} (h : ReadsV w v xs) : ∃ a cap, v = .slice a xs.length cap := by
  rcases h with ⟨rfl, ad, cap, rfl, _⟩ | ⟨b, off, cap, rfl, _⟩
  · exact ⟨_, _, rfl⟩
  · exact ⟨_, _, rfl⟩
theorem ReadsV.len_cap {w : World} {ad : Option Addr} {n cap : Nat} {xs : List D2} (h : ReadsV w (.slice ad n cap) xs) : xs.length ≤ cap ∧ cap ≤ maxLen := by
  rcases h with ⟨rfl, ad', cap', h1, h2, h3⟩ | ⟨b, off, cap', h1, h2, h3, _⟩
  · simp only [Value.slice.injEq] at h1
    obtain ⟨_, _, rfl⟩ := h1
    exact ⟨Nat.zero_le _, h2⟩
  · simp only [Value.slice.injEq] at h1
    obtain ⟨_, _, rfl⟩ := h1
    exact ⟨h2, h3⟩
theorem ReadsV.elem {w : World} {ad : Option Addr} {n cap k : Nat} {xs : List D2} (h : ReadsV w (.slice ad n cap) xs) (hk : k < xs.length) :
    ∃ b off, ad = some ⟨b, off, none⟩ ∧ b < w.heap.size ∧ CellsAt w b (off + k * 2) xs[k] := by
  rcases h with ⟨rfl, _⟩ | ⟨b, off, cap', h1, h2, h3, h4, h5⟩
  · cases hk
  · simp only [Value.slice.injEq] at h1
    obtain ⟨rfl, _, _⟩ := h1
    exact ⟨b, off, rfl, h4, h5 k hk⟩
theorem ReadsV.head {w : World} {ad : Option Addr} {n cap : Nat} {xs : List D2} (h : ReadsV w (.slice ad n cap) xs) (k : Nat) (hk : k ≤ xs.length) : ReadsV w (.slice ad k cap) (xs.take k) := by
  rcases h with ⟨rfl, ad', cap', h1, h2, h3⟩ | ⟨b, off, cap', h1, h2, h3, h4, h5⟩
  · simp only [Value.slice.injEq] at h1
    obtain ⟨rfl, _, rfl⟩ := h1
    obtain rfl : k = 0 := by simpa using hk
    exact .inl ⟨by simp, ad, cap, rfl, h2, h3⟩
  · simp only [Value.slice.injEq] at h1
    obtain ⟨rfl, _, rfl⟩ := h1
    have hl : (xs.take k).length = k := by rw [List.length_take]; omega
    refine .inr ⟨b, off, cap, by rw [hl], by omega, h3, h4, fun i hi => ?_⟩
    rw [List.getElem_take]
    exact h5 i (by omega)

def flatV (xs : List D2) : List Value := xs.flatMap cellsV
theorem flatV_append (xs ys : List D2) : flatV (xs ++ ys) = flatV xs ++ flatV ys := by simp [flatV]
theorem flatV_length (xs : List D2) : (flatV xs).length = xs.length * 2 := by
  induction xs with
  | nil => rfl
  | cons a l ih => rw [show flatV (a :: l) = cellsV a ++ flatV l from rfl, List.length_append, ih]; simp [cellsV]; omega
theorem flatV_get : ∀ (xs : List D2) (i : Nat) (h : i < xs.length), (flatV xs)[i * 2]? = some (.int .i64 xs[i].m) ∧ (flatV xs)[i * 2 + 1]? = some (encStr xs[i].n)
  | a :: l, 0, _ => ⟨rfl, rfl⟩
  | a :: l, i + 1, h => by
    have ih := flatV_get l i (by simpa using h)
    have h3 : ∀ j, (flatV (a :: l))[i * 2 + j + 2]? = (flatV l)[i * 2 + j]? := fun j => by
      rw [show flatV (a :: l) = cellsV a ++ flatV l from rfl, List.getElem?_append_right (by simp [cellsV])]
      rfl
    have e0 : (i + 1) * 2 = i * 2 + 0 + 2 := by omega
    have e1 : (i + 1) * 2 + 1 = i * 2 + 1 + 2 := by omega
    exact ⟨by rw [e0]; exact (h3 0).trans ih.1, by rw [e1]; exact (h3 1).trans ih.2⟩

theorem ReadsV.of_owns {w : World} {base : Nat} {e : TypeId} {v : Value} {xs : List D2} (h : w.ownsRow base e 2 v xs.length (flatV xs)) : ReadsV w v xs := by
  have h0 := h
  obtain ⟨hl, ⟨rfl, hn⟩ | ⟨g, cap, cur, rfl, hg, hw, hc, hm, hs, hx⟩⟩ := h
  · obtain rfl : xs = [] := List.eq_nil_of_length_eq_zero hn
    exact ReadsV.nil w
  · refine .inr ⟨g, 0, cap, rfl, hc, hm, ?_, fun i hi => ?_⟩
    · have := h0.lt g rfl
      exact this.2
    · obtain ⟨a1, a2⟩ := flatV_get xs i hi
      have k1 := h0.cellAt (i * 2) (by omega)
      have k2 := h0.cellAt (i * 2 + 1) (by omega)
      rw [Nat.zero_add]
      exact ⟨k1.trans a1, k2.trans a2⟩

theorem flat_cells {w : World} {b o : Nat} {ys : List D2} (h : ∀ i (h : i < ys.length), CellsAt w b (o + i * 2) ys[i]) : ∀ j u, (flatV ys)[j]? = some u → w.cell? ⟨b, o + j, none⟩ = some u := by
  intro j u hu
  have hj : j < (flatV ys).length := (List.getElem?_eq_some_iff.1 hu).1
  rw [flatV_length] at hj
  have hq : j / 2 < ys.length := by omega
  obtain ⟨a1, a2⟩ := flatV_get ys (j / 2) hq
  obtain ⟨c1, c2⟩ := h (j / 2) hq
  rcases (show j = j / 2 * 2 ∨ j = j / 2 * 2 + 1 by omega) with e | e
  · rw [e] at hu ⊢
    rw [a1] at hu
    cases hu
    exact c1
  · rw [e] at hu ⊢
    rw [a2] at hu
    cases hu
    exact c2

theorem flat_one : ∀ (ys : List D2), ∀ u ∈ flatV ys, u.oneCell' = true := by
  intro ys
  induction ys with
  | nil => intro u hu; cases hu
  | cons a l ih =>
    intro u hu
    rw [show flatV (a :: l) = cellsV a ++ flatV l from rfl, List.mem_append] at hu
    rcases hu with hu | hu
    · simp [cellsV] at hu
      rcases hu with rfl | rfl <;> rfl
    · exact ih u hu

/-- APPEND OF ONE VALUE: the walk has laid its three cells in a new block. -/
theorem wpList_pushV {P : Program} {ops : Array Oper} {rest : List Oper} {o : Oper} {a : Act} {Q : Exit → Act → World → Prop} {w : World}
    (hgd : o.guard = none) (s x : Operand) (t : TypeId) (ho : o.op = .call { callee := .builtin .append, args := #[s, x], argTypes := #[t, t] })
    (base : Nat) (e : TypeId) (i : TypeInfo) (z : Value) (bytes : Nat) (ht : P.underlying t = some (.slice e)) (hi : P.info? e = some i) (hz : i.zero = some z)
    (hsize : i.size = 2) (hby : i.bytes = bytes) (hzs : z.cells.size = 2)
    (xs : List D2) (x1 : D2) (v : Value) (cs : Array Value) (hval : cs = (cellsV x1).toArray)
    (hs : a.eval s = v) (hown : w.ownsRow base e 2 v xs.length (flatV xs))
    (hx : a.eval x = .slice (some ⟨w.heap.size, 0, none⟩) 1 1)
    (h63 : xs.length + 1 ≤ maxLen) (hbytes : (xs.length + 1) * bytes ≤ 140737488355328) (hbase : base ≤ w.heap.size)
    (h : ∀ v' w', w'.ownsRow base e 2 v' (xs ++ [x1]).length (flatV (xs ++ [x1])) → Below base w w' → wpList P ops Q rest (a.put o.dst v') w') :
    wpList P ops Q (o :: rest) a (w.alloc (.cells cs e)) := by
  subst hval
  refine wpList_append_own _ hgd s x t ho base e i z 2 bytes ht hi hz hsize hby hzs (by decide) v xs.length _ hs (hown.alloc _) ⟨w.heap.size, 0, none⟩ 1 1 (cellsV x1) hx rfl ?_ ?_ h63 hbytes (by simp; omega) ?_
  · intro j u hu
    have hj : j < 2 := (List.getElem?_eq_some_iff.1 hu).1
    rw [add_off, Nat.zero_add, World.cell?_alloc_at _ _ _ _ rfl]
    rw [← hu]
    simp
  · intro u hu
    simp [cellsV] at hu
    rcases hu with rfl | rfl <;> rfl
  · intro v' w' h1 h2 _
    refine h v' w' ?_ ?_
    · have e1 : (xs ++ [x1]).length = xs.length + 1 := by simp
      have e2 : flatV (xs ++ [x1]) = flatV xs ++ cellsV x1 := by simp [flatV]
      rw [e1, e2]
      exact h1
    · exact ((Below.refl base w).alloc hbase _).grown h2 (by simp; omega) (fun k hk => (hown.lt k hk).1)

/-- APPEND OF A SLICE OF VALUES. -/
theorem wpList_extendV {P : Program} {ops : Array Oper} {rest : List Oper} {o : Oper} {a : Act} {Q : Exit → Act → World → Prop} {w : World}
    (hgd : o.guard = none) (s x : Operand) (t : TypeId) (ho : o.op = .call { callee := .builtin .append, args := #[s, x], argTypes := #[t, t] })
    (base : Nat) (e : TypeId) (i : TypeInfo) (z : Value) (bytes : Nat) (ht : P.underlying t = some (.slice e)) (hi : P.info? e = some i) (hz : i.zero = some z)
    (hsize : i.size = 2) (hby : i.bytes = bytes) (hzs : z.cells.size = 2)
    (xs ys : List D2) (v vx : Value) (hs : a.eval s = v) (hown : w.ownsRow base e 2 v xs.length (flatV xs)) (hx : a.eval x = vx) (hr : ReadsV w vx ys)
    (h63 : xs.length + ys.length ≤ maxLen) (hbytes : (xs.length + ys.length) * bytes ≤ 140737488355328) (hbase : base ≤ w.heap.size)
    (h : ∀ v' w', w'.ownsRow base e 2 v' (xs ++ ys).length (flatV (xs ++ ys)) → Below base w w' → wpList P ops Q rest (a.put o.dst v') w') :
    wpList P ops Q (o :: rest) a w := by
  rcases hr with ⟨rfl, ad, cap, rfl, hc, hn⟩ | ⟨b, off, cap, rfl, h1, h2, h3, h4⟩
  · cases ad with
    | none =>
      obtain rfl := hn rfl
      refine wpList_append_own_none hgd s x t ho base e i 2 ht hi v xs.length _ hs hown hx ?_
      exact h v w (by simpa using hown) (Below.refl _ _)
    | some ad =>
      refine wpList_append_own _ hgd s x t ho base e i z 2 bytes ht hi hz hsize hby hzs (by decide) v xs.length _ hs hown ad 0 cap [] hx rfl (fun j u hu => by simp at hu) (fun u hu => by cases hu) h63 hbytes hbase ?_
      intro v' w' g1 g2 _
      exact h v' w' (by simpa using g1) ((Below.refl base w).grown g2 hbase (fun k hk => (hown.lt k hk).1))
  · refine wpList_append_own _ hgd s x t ho base e i z 2 bytes ht hi hz hsize hby hzs (by decide) v xs.length _ hs hown ⟨b, off, none⟩ ys.length cap (flatV ys) hx (flatV_length ys) ?_ (flat_one ys) h63 hbytes hbase ?_
    · intro j u hu
      rw [add_off]
      exact flat_cells h4 j u hu
    · intro v' w' g1 g2 _
      refine h v' w' ?_ ((Below.refl base w).grown g2 hbase (fun k hk => (hown.lt k hk).1))
      rw [List.length_append, flatV_append]
      exact g1

end Go.Proofs.YtcjbgchhalilnaaGreatDoor
