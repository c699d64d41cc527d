/- Small laws over any program: one element appended to a slice of the call's own; a slice that reads as a list. -/
import Derived.WalkKit
import Derived.Lib.Hide
import Derived.Deep.QuietTactic
import Derived.BigQuiet
import Derived.Laws.AppendOwnNone
import Derived.Laws.IdiomStrings
import Derived.Laws.BytesArg
namespace Go.Proofs.YtcjbgchhalilnaaGreatDoor
open Go Go.RowKit

/-- APPEND OF ONE ELEMENT: 'append(s, x)': the walk has laid x in a new block of one cell. -/
theorem wpList_push {P : Program} {ops : Array Oper} {rest : List Oper} {o : Oper} {a : Act} {Q : Exit → Act → World → Prop} {w : World}
    (hgd : o.guard = none) (s x : Operand) (t : TypeId) (ho : o.op = .call { callee := .builtin .append, args := #[s, x], argTypes := #[t, t] })
    (base : Nat) (e : TypeId) (i : TypeInfo) (z : Value) (bytes : Nat) (ht : P.underlying t = some (.slice e)) (hi : P.info? e = some i) (hz : i.zero = some z)
    (hsize : i.size = 1) (hby : i.bytes = bytes) (hzs : z.cells.size = 1)
    {α : Type} (mk : α → Value) (xs : List α) (x1 : α) (v val : Value) (hval : val = mk x1) (hone : val.oneCell' = true)
    (hs : a.eval s = v) (hown : w.ownsRow base e 1 v xs.length (xs.map mk))
    (hx : a.eval x = .slice (some ⟨w.heap.size, 0, none⟩) 1 1)
    (h63 : xs.length + 1 ≤ maxLen) (hbytes : (xs.length + 1) * bytes ≤ 140737488355328) (hbase : base ≤ w.heap.size)
    (h : ∀ v' w', w'.ownsRow base e 1 v' (xs ++ [x1]).length ((xs ++ [x1]).map mk) → Below base w w' → v' ≠ .slice none 0 0 → wpList P ops Q rest (a.put o.dst v') w') :
    wpList P ops Q (o :: rest) a (w.alloc (.cells #[val] e)) := by
  refine wpList_append_own _ hgd s x t ho base e i z 1 bytes ht hi hz hsize hby hzs (by decide) v xs.length _ hs (hown.alloc _) ⟨w.heap.size, 0, none⟩ 1 1 [val] hx rfl ?_ ?_ h63 hbytes (by simp; omega) ?_
  · intro j u hu
    have hj : j = 0 := by
      rcases j with _ | j
      · rfl
      · simp at hu
    subst hj
    simp at hu
    subst hu
    rw [show (⟨w.heap.size, 0, none⟩ : Addr).add 0 = ⟨w.heap.size, 0, none⟩ from rfl, World.cell?_alloc_at _ _ _ _ rfl]
    rfl
  · intro u hu
    simp at hu
    subst hu
    exact hone
  · intro v' w' h1 h2 h3
    refine h v' w' ?_ ?_ ?_
    · have e1 : (xs ++ [x1]).length = xs.length + 1 := by simp
      have e2 : (xs ++ [x1]).map mk = xs.map mk ++ [val] := by simp [hval]
      rw [e1, e2]
      exact h1
    · exact ((Below.refl base w).alloc hbase _).grown h2 (by simp; omega) (fun k hk => (hown.lt k hk).1)
    · intro hv
      have := h3.1 hv
      omega

/-- A SLICE THAT READS AS A LIST: it is empty (nil, or led to whatever place), or its elements lie in one row of cells. -/
def Reads (w : World) {α : Type} (mk : α → Value) (v : Value) (xs : List α) : Prop :=
  (xs = [] ∧ ∃ a cap, v = .slice a 0 cap ∧ cap ≤ maxLen ∧ (a = none → cap = 0)) ∨
  ∃ b off cap, v = .slice (some ⟨b, off, none⟩) xs.length cap ∧ xs.length ≤ cap ∧ cap ≤ maxLen ∧ b < w.heap.size ∧
    ∀ i (h : i < xs.length), w.cell? ⟨b, off + i, none⟩ = some (mk xs[i])

theorem Reads.nil (w : World) {α : Type} (mk : α → Value) : Reads w mk (.slice none 0 0) [] := .inl ⟨rfl, none, 0, rfl, Nat.zero_le _, fun _ => rfl⟩

theorem Reads.below {w w' : World} {B : Nat} {α : Type} {mk : α → Value} {v : Value} {xs : List α} (h : Reads w mk v xs) (hb : Below B w w') (hB : w.heap.size ≤ B) : Reads w' mk v xs := by
  rcases h with h | ⟨b, off, cap, h1, h2, h3, h4, h5⟩
  · exact .inl h
  · refine .inr ⟨b, off, cap, h1, h2, h3, Nat.lt_of_lt_of_le h4 hb.size, fun i hi => ?_⟩
    rw [hb.cell (p := ⟨b, off + i, none⟩) (by show b < B; omega)]
    exact h5 i hi

theorem Reads.of_owns {w : World} {base : Nat} {e : TypeId} {α : Type} {mk : α → Value} {v : Value} {xs : List α} (h : w.ownsRow base e 1 v xs.length (xs.map mk)) : Reads w mk v xs := by
  rcases h.2 with ⟨h1, h2⟩ | ⟨g, cap, cur, h1, h2, h3, h4, h5, h6, h7⟩
  · exact .inl ⟨List.eq_nil_of_length_eq_zero h2, none, 0, h1, Nat.zero_le _, fun _ => rfl⟩
  · refine .inr ⟨g, 0, cap, h1, h4, h5, (Array.getElem?_eq_some_iff.1 h3).1, fun i hi => ?_⟩
    have := h.cells (g := g) (by rw [h1]; rfl) i (mk xs[i]) (by simp [hi])
    have e1 : (⟨g, 0, none⟩ : Addr).add i = ⟨g, 0 + i, none⟩ := by unfold Addr.add; split <;> simp_all
    rw [e1] at this
    exact this

theorem add_off (b off j : Nat) : (⟨b, off, none⟩ : Addr).add j = ⟨b, off + j, none⟩ := by
  unfold Addr.add
  split <;> simp_all

/-- APPEND OF A WHOLE SLICE: 'append(s, x...)': x reads as a list. -/
theorem wpList_extend {P : Program} {ops : Array Oper} {rest : List Oper} {o : Oper} {a : Act} {Q : Exit → Act → World → Prop} {w : World}
    (hgd : o.guard = none) (s x : Operand) (t : TypeId) (ho : o.op = .call { callee := .builtin .append, args := #[s, x], argTypes := #[t, t] })
    (base : Nat) (e : TypeId) (i : TypeInfo) (z : Value) (bytes : Nat) (ht : P.underlying t = some (.slice e)) (hi : P.info? e = some i) (hz : i.zero = some z)
    (hsize : i.size = 1) (hby : i.bytes = bytes) (hzs : z.cells.size = 1)
    {α : Type} (mk : α → Value) (xs ys : List α) (v vx : Value) (hone : ∀ y, (mk y).oneCell' = true)
    (hs : a.eval s = v) (hown : w.ownsRow base e 1 v xs.length (xs.map mk)) (hx : a.eval x = vx) (hr : Reads w mk vx ys)
    (h63 : xs.length + ys.length ≤ maxLen) (hbytes : (xs.length + ys.length) * bytes ≤ 140737488355328) (hbase : base ≤ w.heap.size)
    (h : ∀ v' w', w'.ownsRow base e 1 v' (xs ++ ys).length ((xs ++ ys).map mk) → Below base w w' → (v ≠ .slice none 0 0 → v' ≠ .slice none 0 0) → wpList P ops Q rest (a.put o.dst v') w') :
    wpList P ops Q (o :: rest) a w := by
  rcases hr with ⟨rfl, ad, cap, rfl, hc, hn⟩ | ⟨b, off, cap, rfl, h1, h2, h3, h4⟩
  · cases ad with
    | none =>
      obtain rfl := hn rfl
      refine wpList_append_own_none hgd s x t ho base e i 1 ht hi v xs.length _ hs hown hx ?_
      exact h v w (by simpa using hown) (Below.refl _ _) id
    | some ad =>
      refine wpList_append_own _ hgd s x t ho base e i z 1 bytes ht hi hz hsize hby hzs (by decide) v xs.length _ hs hown ad 0 cap [] hx rfl (fun j u hu => by simp at hu) (fun u hu => by cases hu) h63 hbytes hbase ?_
      intro v' w' g1 g2 g3
      refine h v' w' (by simpa using g1) ((Below.refl base w).grown g2 hbase (fun k hk => (hown.lt k hk).1)) (fun hv hv' => hv (g3.1 hv').1)
  · refine wpList_append_own _ hgd s x t ho base e i z 1 bytes ht hi hz hsize hby hzs (by decide) v xs.length _ hs hown ⟨b, off, none⟩ ys.length cap (ys.map mk) hx (by simp) ?_ ?_ h63 hbytes hbase ?_
    · intro j u hu
      rw [add_off]
      simp only [List.getElem?_map, Option.map_eq_some_iff] at hu
      obtain ⟨y, hy, rfl⟩ := hu
      obtain ⟨hj, rfl⟩ := List.getElem?_eq_some_iff.1 hy
      exact h4 j hj
    · intro u hu
      obtain ⟨y, _, rfl⟩ := List.mem_map.1 hu
      exact hone y
    · intro v' w' g1 g2 g3
      refine h v' w' ?_ ((Below.refl base w).grown g2 hbase (fun k hk => (hown.lt k hk).1)) (fun hv hv' => hv (g3.1 hv').1)
      have e1 : (xs ++ ys).length = xs.length + ys.length := by simp
      have e2 : (xs ++ ys).map mk = xs.map mk ++ ys.map mk := by simp
      rw [e1, e2]
      exact g1

/-- WHAT LIES BEHIND THE FIRST k ELEMENTS. (Where nothing lies behind and there is no room either, Go keeps the old address: the slice is empty all the same.) -/
theorem Reads.tail {w : World} {α : Type} {mk : α → Value} {b off cap k : Nat} {xs : List α} (h : Reads w mk (.slice (some ⟨b, off, none⟩) xs.length cap) xs) (hk : k ≤ xs.length) (o : Nat) (ho : k < cap → o = off + k) :
    Reads w mk (.slice (some ⟨b, o, none⟩) (xs.length - k) (cap - k)) (xs.drop k) := by
  rcases h with ⟨rfl, a', cap', h1, hc, hn⟩ | ⟨b', off', cap', h1, h2, h3, h4, h5⟩
  · refine .inl ⟨by simp, some ⟨b, o, none⟩, cap - k, by simp, ?_, fun h => by cases h⟩
    simp only [Value.slice.injEq] at h1
    omega
  · simp only [Value.slice.injEq, Option.some.injEq, Addr.mk.injEq] at h1
    obtain ⟨⟨rfl, rfl, _⟩, _, rfl⟩ := h1
    refine .inr ⟨b, o, cap - k, by simp, by simp; omega, by omega, h4, fun i hi => ?_⟩
    rw [List.length_drop] at hi
    rw [ho (by omega), Nat.add_assoc, h5 (k + i) (by omega)]
    simp

theorem Reads.alloc {w : World} {α : Type} {mk : α → Value} {v : Value} {xs : List α} (h : Reads w mk v xs) (o : Obj) : Reads (w.alloc o) mk v xs :=
  h.below ((Below.refl w.heap.size w).alloc (Nat.le_refl _) o) (Nat.le_refl _)
theorem Reads.drew {w : World} {α : Type} {mk : α → Value} {v : Value} {xs : List α} (h : Reads w mk v xs) : Reads w.drew mk v xs :=
  h.below (Below.refl w.heap.size w).drew (Nat.le_refl _)
theorem Below.drewN {B : Nat} {a w : World} (h : Below B a w) (n : Nat) : Below B a (w.drewN n) := ⟨h.os, h.tape, h.output, h.size, h.block⟩
theorem Reads.drewN {w : World} {α : Type} {mk : α → Value} {v : Value} {xs : List α} (h : Reads w mk v xs) (n : Nat) : Reads (w.drewN n) mk v xs :=
  h.below (Below.drewN (Below.refl w.heap.size w) n) (Nat.le_refl _)

/-- A slice that the text writes out: '[]T{x, ..}'. -/
theorem Reads.built (w : World) (cs : Array Value) (e : TypeId) (n : Nat) {α : Type} (mk : α → Value) (xs : List α) (hcs : cs = (xs.map mk).toArray) (hn : xs.length = n) (hm : n ≤ maxLen) :
    Reads (w.alloc (.cells cs e)) mk (.slice (some ⟨w.heap.size, 0, none⟩) n n) xs := by
  subst hn
  refine .inr ⟨w.heap.size, 0, xs.length, rfl, Nat.le_refl _, hm, by simp, fun i hi => ?_⟩
  rw [World.cell?_alloc_mark, hcs]
  simp [hi]

/-- 'string(b)', b a slice of bytes that reads as l. -/
theorem run_string_of {P : Program} {w : World} {v : Value} {l : List UInt8} (h : Reads w (fun x : UInt8 => .int .u8 (x.toNat : Int)) v l) (src dst e : TypeId) (hs : P.underlying src = some (.slice e)) (he : P.underlying e = some (.int .u8)) (hd : P.underlying dst = some .string) :
    (convert src dst v).run P w = .ok (.string ⟨l.toArray⟩) w := by
  rcases h with ⟨rfl, ad, cap, rfl, hc, hn⟩ | ⟨b, off, cap, rfl, h1, h2, h3, h4⟩
  · cases ad with
    | none => exact run_convert_bytes_nil w src e hs he 0 cap dst hd
    | some ad => exact run_convert_bytes_back w src dst e ad cap [] hs he hd fun j hj => by cases hj
  · refine run_convert_bytes_back w src dst e ⟨b, off, none⟩ cap l hs he hd fun j hj => ?_
    rw [add_off]
    exact h4 j hj

theorem owns_slice {w : World} {base : Nat} {e : TypeId} {size : Nat} {v : Value} {n : Nat} {xs : List Value} (h : w.ownsRow base e size v n xs) : ∃ a cap, v = .slice a n cap := by
  rcases h.2 with ⟨h1, h2⟩ | ⟨g, cap, cur, h1, _⟩
  · exact ⟨none, 0, by rw [h1, h2]⟩
  · exact ⟨some ⟨g, 0, none⟩, cap, h1⟩

theorem Reads.slice {w : World} {α : Type} {mk : α → Value} {v : Value} {xs : List α} (h : Reads w mk v xs) : ∃ a cap, v = .slice a xs.length cap := by
  rcases h with ⟨rfl, ad, cap, rfl, hc, hn⟩ | ⟨b, off, cap, rfl, h1, h2, h3, h4⟩
  · exact ⟨ad, cap, rfl⟩
  · exact ⟨_, cap, rfl⟩
theorem Reads.len_le {w : World} {α : Type} {mk : α → Value} {v : Value} {xs : List α} (h : Reads w mk v xs) : xs.length ≤ maxLen := by
  rcases h with ⟨rfl, _⟩ | ⟨b, off, cap, rfl, h1, h2, h3, h4⟩
  · exact Nat.zero_le _
  · omega

/-- The first k elements. -/
theorem Reads.head {w : World} {α : Type} {mk : α → Value} {ad : Option Addr} {n cap : Nat} {xs : List α} (h : Reads w mk (.slice ad n cap) xs) (k : Nat) (hk : k ≤ xs.length) : Reads w mk (.slice ad k cap) (xs.take k) := by
  rcases h with ⟨rfl, ad', cap', h1, hc, hn⟩ | ⟨b, off, cap', h1, h2, h3, h4, h5⟩
  · simp only [Value.slice.injEq] at h1
    obtain ⟨rfl, rfl, rfl⟩ := h1
    have hk0 : k = 0 := by simpa using hk
    subst hk0
    exact .inl ⟨by simp, ad, cap, rfl, hc, hn⟩
  · simp only [Value.slice.injEq] at h1
    obtain ⟨rfl, rfl, rfl⟩ := h1
    have hl : (xs.take k).length = k := by rw [List.length_take]; omega
    refine .inr ⟨b, off, cap, by rw [hl], by omega, h3, h4, fun i hi => ?_⟩
    rw [h5 i (by omega)]
    simp

theorem owns_some {w : World} {base : Nat} {e : TypeId} {size : Nat} {v : Value} {n : Nat} {xs : List Value} (h : w.ownsRow base e size v n xs) (hn : n ≠ 0) : ∃ g cap, v = .slice (some ⟨g, 0, none⟩) n cap ∧ n ≤ cap ∧ cap ≤ maxLen := by
  rcases h.2 with ⟨h1, h2⟩ | ⟨g, cap, cur, h1, _, _, h2, h3, _⟩
  · exact absurd h2 hn
  · exact ⟨g, cap, h1, h2, h3⟩

theorem str_cat (x y : List UInt8) : (({ data := x.toArray } : ByteArray) ++ { data := y.toArray }).toList = x ++ y := by
  rw [ByteArray.toList_eq]
  simp

/-- 's[k:]', whatever s is: an equation for every world, and what the new slice reads as. -/
theorem slice_tail {P : Program} {t e : TypeId} (ht : P.underlying t = some (.slice e)) (hc : ∀ W : World, (sizeOf e).run P W = .ok 1 W) {w : World} {α : Type} {mk : α → Value} {v : Value} {xs : List α} {k : Nat} (h : Reads w mk v xs) (hk : k ≤ xs.length) :
    ∃ v', (∀ W : World, (Instr.slice t v (some (.int .i64 (k : Int))) none none).run P W = .ok v' W) ∧ Reads w mk v' (xs.drop k) := by
  obtain ⟨ad, cap, rfl⟩ := h.slice
  have hcap : xs.length ≤ cap := by
    rcases h with ⟨rfl, _⟩ | ⟨b, off, cap', h1, h2, _⟩
    · exact Nat.zero_le _
    · simp only [Value.slice.injEq] at h1
      omega
  refine ⟨.slice (if cap = k then ad else ad.map (·.add k)) (xs.length - k) (cap - k), fun W => ?_, ?_⟩
  · simp [Instr.slice, Instr.sliceBounds, Instr.sliceBound, run_underlying ht, asIntOf, hk, hc]
  · rcases h with ⟨rfl, ad', cap', h1, h2, h3⟩ | ⟨b, off, cap', h1, h2, h3, h4, h5⟩
    · simp only [Value.slice.injEq] at h1
      obtain ⟨rfl, _, rfl⟩ := h1
      have hk0 : k = 0 := by simpa using hk
      subst hk0
      refine .inl ⟨by simp, (if cap = 0 then ad else ad.map (·.add 0)), cap, by simp, by omega, fun hn => ?_⟩
      split at hn
      · assumption
      · cases ad with
        | none => simpa using h3 rfl
        | some a => simp at hn
    · simp only [Value.slice.injEq] at h1
      obtain ⟨rfl, _, rfl⟩ := h1
      have hr : Reads w mk (.slice (some ⟨b, off, none⟩) xs.length cap) xs := .inr ⟨b, off, cap, rfl, h2, h3, h4, h5⟩
      by_cases hkc : cap = k
      · subst hkc
        have hl : xs.length = cap := by omega
        rw [if_pos rfl]
        exact hr.tail hk off (fun h => absurd h (Nat.lt_irrefl _))
      · rw [if_neg hkc]
        have := hr.tail hk (off + k) (fun _ => rfl)
        simpa [add_off] using this

theorem owns_below {W W' : World} {base : Nat} {e : TypeId} {size : Nat} {v : Value} {k : Nat} {xs : List Value} (h : W.ownsRow base e size v k xs) (hb : Below W.heap.size W W') : W'.ownsRow base e size v k xs :=
  h.kept (row := none) ⟨hb.os, hb.tape, hb.output, hb.size, fun k hk _ => hb.block k hk⟩ (by cases hv : v.ownBlock <;> simp)

/-- Where there is an element the slice leads to a row of cells. -/
theorem Reads.elem {w : World} {α : Type} {mk : α → Value} {ad : Option Addr} {n cap k : Nat} {xs : List α} (h : Reads w mk (.slice ad n cap) xs) (hk : k < xs.length) :
    ∃ b off, ad = some ⟨b, off, none⟩ ∧ w.cell? ⟨b, off + k, none⟩ = some (mk xs[k]) := by
  rcases h with ⟨rfl, _⟩ | ⟨b, off, cap', h1, h2, h3, h4, h5⟩
  · simp at hk
  · simp only [Value.slice.injEq] at h1
    exact ⟨b, off, h1.1, h5 k hk⟩

theorem Reads.len_cap {w : World} {α : Type} {mk : α → Value} {ad : Option Addr} {n cap : Nat} {xs : List α} (h : Reads w mk (.slice ad n cap) xs) : xs.length ≤ cap ∧ cap ≤ maxLen := by
  rcases h with ⟨rfl, ad', cap', h1, h2, _⟩ | ⟨b, off, cap', h1, h2, h3, h4, h5⟩
  · simp only [Value.slice.injEq] at h1
    exact ⟨Nat.zero_le _, by omega⟩
  · simp only [Value.slice.injEq] at h1
    omega

end Go.Proofs.YtcjbgchhalilnaaGreatDoor
