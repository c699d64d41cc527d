/- The values of mantissas with one exponent: the walks of decimal.Unpack and of the reference's. -/
import Derived.Test.YtbpillbhkkjlbaaDoorDf
import Derived.BigQuiet
import Derived.ProofKit
namespace Go.Proofs.YtbpillbhkkjlbaaDoor
open Go Go.RowKit

theorem owns_from {W W' : World} {base : Nat} {e : TypeId} {size : Nat} {v : Value} {k : Nat} {xs : List Value} (h : W.ownsRow base e size v k xs) (hb : Below W.heap.size W W') : W'.ownsRow base e size v k xs := owns_below h hb
theorem block_lt {w : World} {b o : Nat} {v : Value} (h : w.cell? ⟨b, o, none⟩ = some v) : b < w.heap.size := World.block_lt_of_cell? w ⟨b, o, none⟩ h
theorem info_V : (Tryd.prog.info? 36).map (fun i => (i.zero, i.size, i.bytes)) = some (some (.agg #[.int .i64 0, .int .i64 0, .int .i64 0]), 3, 24) := by kernel_rfl

theorem flat_cells {w : World} {b o : Nat} {ys : List V3} (h : ∀ i (h : i < ys.length), CellsAt w b (o + i * 3) ys[i]) : ∀ j u, (flatV ys)[j]? = some u → w.cell? ⟨b, o + j, none⟩ = some u := by
  intro j u hu
  have hj : j < (flatV ys).length := (List.getElem?_eq_some_iff.1 hu).1
  rw [flatV_length] at hj
  have hq : j / 3 < ys.length := by omega
  obtain ⟨a1, a2, a3⟩ := flatV_get ys (j / 3) hq
  obtain ⟨c1, c2, c3⟩ := h (j / 3) hq
  rcases (show j = j / 3 * 3 ∨ j = j / 3 * 3 + 1 ∨ j = j / 3 * 3 + 2 by omega) with e | e | e
  · rw [e] at hu ⊢
    rw [a1] at hu
    cases hu
    exact c1
  · rw [e] at hu ⊢
    rw [a2] at hu
    cases hu
    exact c2
  · rw [e] at hu ⊢
    rw [a3] at hu
    cases hu
    exact c3

theorem flat_one : ∀ (ys : List V3), ∀ u ∈ flatV ys, u.oneCell' = true := by
  intro ys
  induction ys with
  | nil => intro u hu; cases hu
  | cons a l ih =>
    intro u hu
    rw [show flatV (a :: l) = cellsV a ++ flatV l from rfl, List.mem_append] at hu
    rcases hu with hu | hu
    · simp [cellsV] at hu
      rcases hu with rfl | rfl | rfl <;> rfl
    · exact ih u hu

/-- APPEND OF ONE VALUE: the walk has laid its three cells in a new block. -/
theorem wpList_pushV {P : Program} {ops : Array Oper} {rest : List Oper} {o : Oper} {a : Act} {Q : Exit → Act → World → Prop} {w : World}
    (hgd : o.guard = none) (s x : Operand) (t : TypeId) (ho : o.op = .call { callee := .builtin .append, args := #[s, x], argTypes := #[t, t] })
    (base : Nat) (e : TypeId) (i : TypeInfo) (z : Value) (bytes : Nat) (ht : P.underlying t = some (.slice e)) (hi : P.info? e = some i) (hz : i.zero = some z)
    (hsize : i.size = 3) (hby : i.bytes = bytes) (hzs : z.cells.size = 3)
    (xs : List V3) (x1 : V3) (v : Value) (cs : Array Value) (hval : cs = (cellsV x1).toArray)
    (hs : a.eval s = v) (hown : w.ownsRow base e 3 v xs.length (flatV xs))
    (hx : a.eval x = .slice (some ⟨w.heap.size, 0, none⟩) 1 1)
    (h63 : xs.length + 1 ≤ maxLen) (hbytes : (xs.length + 1) * bytes ≤ 140737488355328) (hbase : base ≤ w.heap.size)
    (h : ∀ v' w', w'.ownsRow base e 3 v' (xs ++ [x1]).length (flatV (xs ++ [x1])) → Below base w w' → wpList P ops Q rest (a.put o.dst v') w') :
    wpList P ops Q (o :: rest) a (w.alloc (.cells cs e)) := by
  subst hval
  refine wpList_append_own _ hgd s x t ho base e i z 3 bytes ht hi hz hsize hby hzs (by decide) v xs.length _ hs (hown.alloc _) ⟨w.heap.size, 0, none⟩ 1 1 (cellsV x1) hx rfl ?_ ?_ h63 hbytes (by simp; omega) ?_
  · intro j u hu
    have hj : j < 3 := (List.getElem?_eq_some_iff.1 hu).1
    rw [add_off, Nat.zero_add, World.cell?_alloc_at _ _ _ _ rfl]
    rw [← hu]
    simp
  · intro u hu
    simp [cellsV] at hu
    rcases hu with rfl | rfl | rfl <;> rfl
  · intro v' w' h1 h2 _
    refine h v' w' ?_ ?_
    · have e1 : (xs ++ [x1]).length = xs.length + 1 := by simp
      have e2 : flatV (xs ++ [x1]) = flatV xs ++ cellsV x1 := by simp [flatV]
      rw [e1, e2]
      exact h1
    · exact ((Below.refl base w).alloc hbase _).grown h2 (by simp; omega) (fun k hk => (hown.lt k hk).1)

/-- APPEND OF A SLICE OF VALUES. -/
theorem wpList_extendV {P : Program} {ops : Array Oper} {rest : List Oper} {o : Oper} {a : Act} {Q : Exit → Act → World → Prop} {w : World}
    (hgd : o.guard = none) (s x : Operand) (t : TypeId) (ho : o.op = .call { callee := .builtin .append, args := #[s, x], argTypes := #[t, t] })
    (base : Nat) (e : TypeId) (i : TypeInfo) (z : Value) (bytes : Nat) (ht : P.underlying t = some (.slice e)) (hi : P.info? e = some i) (hz : i.zero = some z)
    (hsize : i.size = 3) (hby : i.bytes = bytes) (hzs : z.cells.size = 3)
    (xs ys : List V3) (v vx : Value) (hs : a.eval s = v) (hown : w.ownsRow base e 3 v xs.length (flatV xs)) (hx : a.eval x = vx) (hr : ReadsV w vx ys)
    (h63 : xs.length + ys.length ≤ maxLen) (hbytes : (xs.length + ys.length) * bytes ≤ 140737488355328) (hbase : base ≤ w.heap.size)
    (h : ∀ v' w', w'.ownsRow base e 3 v' (xs ++ ys).length (flatV (xs ++ ys)) → Below base w w' → wpList P ops Q rest (a.put o.dst v') w') :
    wpList P ops Q (o :: rest) a w := by
  rcases hr with ⟨rfl, ad, cap, rfl, hc, hn⟩ | ⟨b, off, cap, rfl, h1, h2, h3, h4⟩
  · cases ad with
    | none =>
      obtain rfl := hn rfl
      refine wpList_append_own_none hgd s x t ho base e i 3 ht hi v xs.length _ hs hown hx ?_
      exact h v w (by simpa using hown) (Below.refl _ _)
    | some ad =>
      refine wpList_append_own _ hgd s x t ho base e i z 3 bytes ht hi hz hsize hby hzs (by decide) v xs.length _ hs hown ad 0 cap [] hx rfl (fun j u hu => by simp at hu) (fun u hu => by cases hu) h63 hbytes hbase ?_
      intro v' w' g1 g2 _
      exact h v' w' (by simpa using g1) ((Below.refl base w).grown g2 hbase (fun k hk => (hown.lt k hk).1))
  · refine wpList_append_own _ hgd s x t ho base e i z 3 bytes ht hi hz hsize hby hzs (by decide) v xs.length _ hs hown ⟨b, off, none⟩ ys.length cap (flatV ys) hx (flatV_length ys) ?_ (flat_one ys) h63 hbytes hbase ?_
    · intro j u hu
      rw [add_off]
      exact flat_cells h4 j u hu
    · intro v' w' g1 g2 _
      refine h v' w' ?_ ((Below.refl base w).grown g2 hbase (fun k hk => (hown.lt k hk).1))
      rw [List.length_append, flatV_append]
      exact g1

def unV (e k : Int) : Option V3 :=
  if -9223372036854775808 < k ∧ k ≤ -9223372036854775804 then some ⟨0, 0, k + 9223372036854775808⟩ else
    (cleanV k e).bind fun v => if -1000000000000000000 < k ∧ k < 1000000000000000000 then some v else none
def unStep (e : Int) (r : Option (List V3)) (k : Int) : Option (List V3) := r.bind fun o => (unV e k).map fun v => o ++ [v]
def unL (e : Int) (ms : List Int) : Option (List V3) := ms.foldl (unStep e) (some [])
theorem unL_snoc (e : Int) (ms : List Int) (k : Int) : unL e (ms ++ [k]) = unStep e (unL e ms) k := by simp [unL]
theorem foldl_none (e : Int) : ∀ ms : List Int, ms.foldl (unStep e) none = none
  | [] => rfl
  | k :: ms => by rw [List.foldl_cons]; exact foldl_none e ms
/-- Once there is none, there is none. -/
theorem unL_none {e : Int} {ms : List Int} (j : Nat) (h : unL e (ms.take j) = none) : unL e ms = none := by
  unfold unL at h ⊢
  rw [← List.take_append_drop j ms, List.foldl_append, h, foldl_none]
def unpack (e : Int) (ms : List Int) : Option (List V3) := if e < -1000 ∨ 1000 < e then none else unL e ms

def UnEnd (r : Option (List V3)) (w : World) (e : Ending) (w' : World) : Prop :=
  ∃ v, e = .returned (.tuple #[v, .int .i64 (if r.isSome then 0 else 20)]) ∧ w'.ownsRow w.heap.size 36 3 v (r.getD []).length (flatV (r.getD [])) ∧ Below w.heap.size w w'
def UnRel (e : Int) (ms : List Int) (w : World) (v i : Value) (wr : World) : Prop :=
  ∃ (j : Nat) (out : List V3), j ≤ ms.length ∧ i = .int .i64 (j : Int) ∧ Hid (unL e (ms.take j) = some out) ∧ out.length = j ∧ wr.ownsRow w.heap.size 36 3 v out.length (flatV out) ∧ Below w.heap.size w wr
theorem unV_none {e k : Int} (hk : ¬ (-9223372036854775808 < k ∧ k ≤ -9223372036854775804)) (h : cleanV k e = none ∨ ¬ (-1000000000000000000 < k ∧ k < 1000000000000000000)) : unV e k = none := by
  rw [unV, if_neg hk]
  rcases h with h | h
  · rw [h]; rfl
  · cases cleanV k e with
    | none => rfl
    | some v => exact if_neg h
theorem unV_some {e k : Int} {v : V3} (hk : ¬ (-9223372036854775808 < k ∧ k ≤ -9223372036854775804)) (h : cleanV k e = some v) (h2 : -1000000000000000000 < k ∧ k < 1000000000000000000) : unV e k = some v := by
  rw [unV, if_neg hk, h]
  exact if_pos h2
theorem unV_kind {e k : Int} (hk : -9223372036854775808 < k ∧ k ≤ -9223372036854775804) : unV e k = some ⟨0, 0, k + 9223372036854775808⟩ := if_pos hk
theorem unL_some {e : Int} {ms : List Int} {j : Nat} {out : List V3} {v : V3} (h : unL e (ms.take j) = some out) (hj : j < ms.length) (hv : unV e ms[j] = some v) : unL e (ms.take (j + 1)) = some (out ++ [v]) := by
  rw [List.take_succ_eq_append_getElem hj, unL_snoc, h]
  show (unV e ms[j]).map _ = _
  rw [hv]
  rfl
theorem unL_stop {e : Int} {ms : List Int} {j : Nat} {out : List V3} (h : unL e (ms.take j) = some out) (hj : j < ms.length) (hv : unV e ms[j] = none) : unL e ms = none := by
  refine unL_none (j + 1) ?_
  rw [List.take_succ_eq_append_getElem hj, unL_snoc, h]
  show (unV e ms[j]).map _ = _
  rw [hv]
  rfl

set_option maxRecDepth 100000 in
set_option maxHeartbeats 4000000 in
theorem Unpack_any (v : Value) (ms : List Int) (e : Int) (w : World) (hT : Tens w) (hms : ∀ k ∈ ms, I64 k) (he : I64 e) (hlen : ms.length ≤ 1000) (hr : Reads w vi64 v ms) :
    Calls Tryd.prog 13 #[v, .int .i64 e] w (UnEnd (unpack e ms) w) := by
  obtain ⟨i0, hi, hz0, hz1, hz2⟩ := info_parts info_V
  obtain ⟨ad, cap, rfl⟩ := hr.slice
  have heI := he
  simp only [I64] at he
  by_cases h1 : e < -1000
  · have hcv : unpack e ms = none := if_pos (.inl h1)
    go_enter Tryd.func13, Tryd.ntmps13
    go_wp2_with fail
    go_ret2
    exact ⟨.slice none 0 0, by first | rfl | (rw [hcv]; rfl), by first | exact World.ownsRow_nil _ _ _ _ | (rw [hcv]; exact World.ownsRow_nil _ _ _ _), Below.refl _ _⟩
  by_cases h2 : 1000 < e
  · have hcv : unpack e ms = none := if_pos (.inr h2)
    go_enter Tryd.func13, Tryd.ntmps13
    go_wp2_with fail
    go_ret2
    exact ⟨.slice none 0 0, by first | rfl | (rw [hcv]; rfl), by first | exact World.ownsRow_nil _ _ _ _ | (rw [hcv]; exact World.ownsRow_nil _ _ _ _), Below.refl _ _⟩
  have hcv : unpack e ms = unL e ms := if_neg (by omega)
  have HC := Lib.hid hcv
  clear hcv
  go_enter Tryd.func13, Tryd.ntmps13
  go_wp2_with fail
  go_loopw [6, 20] (fun v i wr => UnRel e ms w v i wr) (fun _ i _ => ms.length - (intOf i).toNat)
  case atStart => exact ⟨0, [], Nat.zero_le _, rfl, Lib.hid rfl, rfl, World.ownsRow_nil _ _ _ _, Below.refl _ _⟩
  case round =>
    obtain ⟨j, out, hj, rfl, hun, hol, hown, hbel⟩ := hrel
    have hB := hbel.size
    by_cases hlt : j < ms.length
    · obtain ⟨b, off, rfl, hcell⟩ := (hr.below hbel (Nat.le_refl _)).elem hlt
      have hbs : b < wr.heap.size := block_lt hcell
      have hkI := hms ms[j] (List.getElem_mem hlt)
      have hun1 := fun v (h : unV e ms[j] = some v) => Lib.hid (unL_some hun.out hlt h)
      have hun2 := fun (h : unV e ms[j] = none) => Lib.hid (unL_stop hun.out hlt h)
      generalize ms[j] = k at hcell hkI hun1 hun2
      have hkI2 := hkI
      simp only [I64] at hkI2
      have hc : wr.cell? ⟨b, off + j, none⟩ = some (.int .i64 k) := hcell
      have HL := Lib.hid hol
      have hol2 : out.length ≤ 1000 := by omega
      clear hcell hol
      by_cases hkind : -9223372036854775808 < k ∧ k ≤ -9223372036854775804
      · have hu1 := hun1 _ (unV_kind hkind)
        obtain ⟨q, hq⟩ : ∃ q, k + 9223372036854775808 = q := ⟨_, rfl⟩
        rw [show k + 9223372036854775808 = q by omega] at hu1
        have hownX := hown
        clear hun1 hun2 hown
        go_wp2_with (at_builtin; refine wpList_pushV rfl (.tmp 36) (.tmp 39) 22 rfl w.heap.size 36 i0 _ 24 Tryd.underlying22 hi hz0 hz1 hz2 rfl out ⟨0, 0, q⟩ _ _ rfl rfl hownX (congrArg (fun n => Value.slice (some ⟨n, 0, none⟩) 1 1) (by simp)) (by simp only [maxLen]; omega) (by omega) (by first | omega | (simp; omega)) ?_; intro v' w' hown' hb')
        go_roundw
        case rel => exact ⟨j + 1, _, hlt, by go_num, hu1, by rw [List.length_append, HL.out]; rfl, hown', hbel.trans hb'⟩
        case measure => simp [intOf]; omega
      · have hs3 : k = -9223372036854775808 ∨ (-9223372036854775804 < k ∧ k < 0) ∨ 0 ≤ k := by omega
        have hC := Clean_any k e wr hkI heI
        have hT2 : True := trivial
        cases hcl : cleanV k e with
        | none =>
          have hz := hun2 (unV_none hkind (.inl hcl))
          rw [hcl] at hC
          have hC2 : Calls Tryd.prog 22 #[.int .i64 k, .int .i64 e] wr (fun e2 w' => e2 = .returned (.tuple #[.agg #[.int .i64 0, .int .i64 0, .int .i64 0], .bool false]) ∧ Below wr.heap.size wr w') := hC
          clear hun1 hun2 hcl hC
          rcases hs3 with rfl | ⟨hs4, hs5⟩ | hs4
          all_goals
            go_wp2_with fail
            refine hC2.mono ?_
            rintro e2 w2 ⟨rfl, hb2⟩
            clear hC2
            go_wp2_with fail
            go_ret2
            exact ⟨.slice none 0 0, by rw [HC.out, hz.out]; rfl, by rw [HC.out, hz.out]; exact World.ownsRow_nil _ _ _ _, hbel.trans ((hb2.alloc hb2.size _).mono hB)⟩
        | some cv =>
          rw [hcl] at hC
          have hC2 : Calls Tryd.prog 22 #[.int .i64 k, .int .i64 e] wr (fun e2 w' => e2 = .returned (.tuple #[.agg #[.int .i64 cv.m, .int .i64 cv.e, .int .i64 cv.s], .bool true]) ∧ Below wr.heap.size wr w') := hC
          clear hC
          by_cases hbig : -1000000000000000000 < k ∧ k < 1000000000000000000
          · have hz := hun1 _ (unV_some hkind hcl hbig)
            clear hun1 hun2 hcl
            rcases hs3 with rfl | ⟨hs4, hs5⟩ | hs4
            · omega
            all_goals
              go_wp2_with fail
              refine hC2.mono ?_
              rintro e2 w2 ⟨rfl, hb2⟩
              have hB2 := hb2.size
              have hbel2 := hbel.trans (hb2.mono hB)
              have hownX := owns_from hown hb2
              have hc18 : w2.cell? ⟨0, 18, none⟩ = some (.int .i64 1000000000000000000) := (hT.below (hbel.trans (hb2.mono hB)) (Nat.le_refl _)).2 18 (by omega)
              have hT0 := (hT.below (hbel.trans (hb2.mono hB)) (Nat.le_refl _)).1
              clear hC2
              go_wp2_with (at_builtin; refine wpList_pushV rfl (.tmp 62) (.tmp 64) 22 rfl w.heap.size 36 i0 _ 24 Tryd.underlying22 hi hz0 hz1 hz2 rfl out cv _ _ rfl rfl (hownX.alloc _) (congrArg (fun n => Value.slice (some ⟨n, 0, none⟩) 1 1) (by simp)) (by simp only [maxLen]; omega) (by omega) (by first | omega | (simp; omega)) ?_; intro v' w' hown' hb')
              go_roundw
              case rel => exact ⟨j + 1, _, hlt, by go_num, hz, by rw [List.length_append, HL.out]; rfl, hown', (hbel2.alloc (by omega) _).trans hb'⟩
              case measure => simp [intOf]; omega
          · have hz := hun2 (unV_none hkind (.inr hbig))
            clear hun1 hun2 hcl
            rcases hs3 with rfl | ⟨hs4, hs5⟩ | hs4
            all_goals
              go_wp2_with fail
              refine hC2.mono ?_
              rintro e2 w2 ⟨rfl, hb2⟩
              have hc18 : w2.cell? ⟨0, 18, none⟩ = some (.int .i64 1000000000000000000) := (hT.below (hbel.trans (hb2.mono hB)) (Nat.le_refl _)).2 18 (by omega)
              have hT0 := (hT.below (hbel.trans (hb2.mono hB)) (Nat.le_refl _)).1
              clear hC2
              go_wp2_with fail
              go_ret2
              exact ⟨.slice none 0 0, by rw [HC.out, hz.out]; rfl, by rw [HC.out, hz.out]; exact World.ownsRow_nil _ _ _ _, hbel.trans ((hb2.alloc hb2.size _).mono hB)⟩
    · have hjl : j = ms.length := by omega
      subst hjl
      have hcv : unpack e ms = some out := by rw [HC.out, ← hun.out, List.take_of_length_le (Nat.le_refl _)]
      have HC2 := Lib.hid hcv
      clear hcv
      go_wp2_with fail
      go_ret2
      exact ⟨_, by rw [HC2.out]; rfl, by rw [HC2.out]; exact hown, hbel⟩

set_option maxRecDepth 100000 in
set_option maxHeartbeats 4000000 in
theorem refUnpack_any (v : Value) (ms : List Int) (e : Int) (w : World) (hms : ∀ k ∈ ms, I64 k) (he : I64 e) (hlen : ms.length ≤ 1000) (hr : Reads w vi64 v ms) :
    Calls Tryd.prog 14 #[v, .int .i64 e] w (UnEnd (unpack e ms) w) := by
  obtain ⟨i0, hi, hz0, hz1, hz2⟩ := info_parts info_V
  obtain ⟨ad, cap, rfl⟩ := hr.slice
  have heI := he
  simp only [I64] at he
  by_cases h1 : e < -1000
  · have hcv : unpack e ms = none := if_pos (.inl h1)
    go_enter Tryd.func14, Tryd.ntmps14
    go_wp2_with fail
    go_ret2
    exact ⟨.slice none 0 0, by first | rfl | (rw [hcv]; rfl), by first | exact World.ownsRow_nil _ _ _ _ | (rw [hcv]; exact World.ownsRow_nil _ _ _ _), Below.refl _ _⟩
  by_cases h2 : 1000 < e
  · have hcv : unpack e ms = none := if_pos (.inr h2)
    go_enter Tryd.func14, Tryd.ntmps14
    go_wp2_with fail
    go_ret2
    exact ⟨.slice none 0 0, by first | rfl | (rw [hcv]; rfl), by first | exact World.ownsRow_nil _ _ _ _ | (rw [hcv]; exact World.ownsRow_nil _ _ _ _), Below.refl _ _⟩
  have hcv : unpack e ms = unL e ms := if_neg (by omega)
  have HC := Lib.hid hcv
  clear hcv
  go_enter Tryd.func14, Tryd.ntmps14
  go_wp2_with fail
  go_loopw [6, 7] (fun v i wr => UnRel e ms w v i wr) (fun _ i _ => ms.length - (intOf i).toNat)
  case atStart => exact ⟨0, [], Nat.zero_le _, rfl, Lib.hid rfl, rfl, World.ownsRow_nil _ _ _ _, Below.refl _ _⟩
  case round =>
    obtain ⟨j, out, hj, rfl, hun, hol, hown, hbel⟩ := hrel
    have hB := hbel.size
    by_cases hlt : j < ms.length
    · obtain ⟨b, off, rfl, hcell⟩ := (hr.below hbel (Nat.le_refl _)).elem hlt
      have hbs : b < wr.heap.size := block_lt hcell
      have hkI := hms ms[j] (List.getElem_mem hlt)
      have hun1 := fun v (h : unV e ms[j] = some v) => Lib.hid (unL_some hun.out hlt h)
      have hun2 := fun (h : unV e ms[j] = none) => Lib.hid (unL_stop hun.out hlt h)
      generalize ms[j] = k at hcell hkI hun1 hun2
      have hkI2 := hkI
      simp only [I64] at hkI2
      have hc : wr.cell? ⟨b, off + j, none⟩ = some (.int .i64 k) := hcell
      have HL := Lib.hid hol
      have hol2 : out.length ≤ 1000 := by omega
      clear hcell hol
      by_cases hkind : -9223372036854775808 < k ∧ k ≤ -9223372036854775804
      · have hu1 := hun1 _ (unV_kind hkind)
        obtain ⟨q, hq⟩ : ∃ q, k + 9223372036854775807 + 1 = q := ⟨_, rfl⟩
        rw [show k + 9223372036854775808 = q by omega] at hu1
        have hownX := hown
        clear hun1 hun2 hown
        go_wp2_with (at_builtin; refine wpList_pushV rfl (.tmp 34) (.tmp 42) 22 rfl w.heap.size 36 i0 _ 24 Tryd.underlying22 hi hz0 hz1 hz2 rfl out ⟨0, 0, q⟩ _ _ rfl rfl hownX (congrArg (fun n => Value.slice (some ⟨n, 0, none⟩) 1 1) (by simp)) (by simp only [maxLen]; omega) (by omega) (by first | omega | (simp; omega)) ?_; intro v' w' hown' hb')
        go_roundw
        case rel => exact ⟨j + 1, _, hlt, by go_num, hu1, by rw [List.length_append, HL.out]; rfl, hown', hbel.trans hb'⟩
        case measure => simp [intOf]; omega
      · have hs3 : k = -9223372036854775808 ∨ (-9223372036854775804 < k ∧ k < 0) ∨ 0 ≤ k := by omega
        have hC := refClean_any k e wr hkI heI
        have hT2 : True := trivial
        cases hcl : cleanV k e with
        | none =>
          have hz := hun2 (unV_none hkind (.inl hcl))
          rw [hcl] at hC
          have hC2 : Calls Tryd.prog 23 #[.int .i64 k, .int .i64 e] wr (fun e2 w' => e2 = .returned (.tuple #[.agg #[.int .i64 0, .int .i64 0, .int .i64 0], .bool false]) ∧ Below wr.heap.size wr w') := hC
          clear hun1 hun2 hcl hC
          rcases hs3 with rfl | ⟨hs4, hs5⟩ | hs4
          all_goals
            go_wp2_with fail
            refine hC2.mono ?_
            rintro e2 w2 ⟨rfl, hb2⟩
            clear hC2
            go_wp2_with fail
            go_ret2
            exact ⟨.slice none 0 0, by rw [HC.out, hz.out]; rfl, by rw [HC.out, hz.out]; exact World.ownsRow_nil _ _ _ _, hbel.trans ((hb2.alloc hb2.size _).mono hB)⟩
        | some cv =>
          rw [hcl] at hC
          have hC2 : Calls Tryd.prog 23 #[.int .i64 k, .int .i64 e] wr (fun e2 w' => e2 = .returned (.tuple #[.agg #[.int .i64 cv.m, .int .i64 cv.e, .int .i64 cv.s], .bool true]) ∧ Below wr.heap.size wr w') := hC
          clear hC
          by_cases hbig : -1000000000000000000 < k ∧ k < 1000000000000000000
          · have hz := hun1 _ (unV_some hkind hcl hbig)
            clear hun1 hun2 hcl
            rcases hs3 with rfl | ⟨hs4, hs5⟩ | hs4
            · omega
            all_goals
              go_wp2_with fail
              refine hC2.mono ?_
              rintro e2 w2 ⟨rfl, hb2⟩
              have hB2 := hb2.size
              have hbel2 := hbel.trans (hb2.mono hB)
              have hownX := owns_from hown hb2
              have hc2 := (hb2.cell (p := ⟨b, off + j, none⟩) hbs).trans hc
              have hbs2 : b < w2.heap.size := Nat.lt_of_lt_of_le hbs hb2.size
              clear hC2
              go_wp2_with (at_builtin; refine wpList_pushV rfl (.tmp 69) (.tmp 71) 22 rfl w.heap.size 36 i0 _ 24 Tryd.underlying22 hi hz0 hz1 hz2 rfl out cv _ _ rfl rfl (hownX.alloc _) (congrArg (fun n => Value.slice (some ⟨n, 0, none⟩) 1 1) (by simp)) (by simp only [maxLen]; omega) (by omega) (by first | omega | (simp; omega)) ?_; intro v' w' hown' hb')
              go_roundw
              case rel => exact ⟨j + 1, _, hlt, by go_num, hz, by rw [List.length_append, HL.out]; rfl, hown', (hbel2.alloc (by omega) _).trans hb'⟩
              case measure => simp [intOf]; omega
          · have hz := hun2 (unV_none hkind (.inr hbig))
            clear hun1 hun2 hcl
            rcases hs3 with rfl | ⟨hs4, hs5⟩ | hs4
            all_goals
              go_wp2_with fail
              refine hC2.mono ?_
              rintro e2 w2 ⟨rfl, hb2⟩
              have hc2 := (hb2.cell (p := ⟨b, off + j, none⟩) hbs).trans hc
              have hbs2 : b < w2.heap.size := Nat.lt_of_lt_of_le hbs hb2.size
              clear hC2
              go_wp2_with fail
              go_ret2
              exact ⟨.slice none 0 0, by rw [HC.out, hz.out]; rfl, by rw [HC.out, hz.out]; exact World.ownsRow_nil _ _ _ _, hbel.trans ((hb2.alloc hb2.size _).mono hB)⟩
    · have hjl : j = ms.length := by omega
      subst hjl
      have hcv : unpack e ms = some out := by rw [HC.out, ← hun.out, List.take_of_length_le (Nat.le_refl _)]
      have HC2 := Lib.hid hcv
      clear hcv
      go_wp2_with fail
      go_ret2
      exact ⟨_, by rw [HC2.out]; rfl, by rw [HC2.out]; exact hown, hbel⟩
end Go.Proofs.YtbpillbhkkjlbaaDoor
