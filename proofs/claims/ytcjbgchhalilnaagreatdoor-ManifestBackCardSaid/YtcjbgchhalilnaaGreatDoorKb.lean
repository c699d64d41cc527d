/- A law over any program: a region that leaves its order open, whose operations only read, compute, and make new memory: it is enough to run each operation once, in whatever world it may be met, from what is known of the values that it waits for. -/
import Derived.Test.YtcjbgchhalilnaaGreatDoorKa
import Derived.Orders
import Derived.OrdersHeld
namespace Go.Proofs.YtcjbgchhalilnaaGreatDoor
open Go Go.RowKit

/-- What is known of a value: it stays so while blocks are added. -/
structure Spec where
  P : Value → World → Prop
  mono : ∀ (v : Value) (w w' : World), P v w → Below w.heap.size w w' → P v w'

def Spec.is (x : Value) : Spec := ⟨fun v _ => v = x, fun _ _ _ h _ => h⟩
def Spec.any : Spec := ⟨fun _ _ => True, fun _ _ _ h _ => h⟩
def Spec.rd {α : Type} (mk : α → Value) (xs : List α) : Spec := ⟨fun v w => Reads w mk v xs, fun _ _ _ h hb => h.below hb (Nat.le_refl _)⟩
/-- A value of which something is known that hangs on no world. -/
def Spec.of (p : Value → Prop) : Spec := ⟨fun v _ => p v, fun _ _ _ h _ => h⟩

/-- What the slot of operation j holds. -/
def slotOf (ops : Array Oper) (a : Act) (j : Nat) : Value := ((ops[j]?).bind (·.dst)).elim undef fun d => a.tmps.getD d undef

def isDst (ops : Array Oper) (t : Tmp) : Bool := ops.toList.any fun o => o.dst == some t

/-- The region's form: each operation has a slot of its own, within the frame; it waits for earlier ones alone. -/
def freeForm (ops : Array Oper) (n : Nat) : Bool :=
  (List.range ops.size).all fun i => match ops[i]? with
    | none => false
    | some o => (match o.dst with
        | none => false
        | some d => decide (d < n) && (List.range ops.size).all fun j => decide (j = i) || ((ops[j]?).bind (·.dst) != some d)) && o.after.all fun e => !Region.binds .any e || decide (e.on < i)

theorem freeForm_at {ops : Array Oper} {n : Nat} (h : freeForm ops n = true) {i : Nat} {o : Oper} (hi : ops[i]? = some o) :
    ∃ d, o.dst = some d ∧ d < n ∧ (∀ j, j ≠ i → (ops[j]?).bind (·.dst) ≠ some d) ∧ ∀ e ∈ o.after, Region.binds .any e = true → e.on < i := by
  have hlt : i < ops.size := (Array.getElem?_eq_some_iff.1 hi).1
  have h1 := List.all_eq_true.1 h i (List.mem_range.2 hlt)
  simp only [hi, Bool.and_eq_true] at h1
  obtain ⟨h1, h2⟩ := h1
  cases hd : o.dst with
  | none => simp [hd] at h1
  | some d =>
    simp only [hd, Bool.and_eq_true, decide_eq_true_eq] at h1
    refine ⟨d, rfl, h1.1, fun j hj => ?_, fun e he hb => by have := Array.all_eq_true_iff_forall_mem.1 h2 e he; simpa [hb] using this⟩
    rcases Nat.lt_or_ge j ops.size with hjs | hjs
    · have h3 := List.all_eq_true.1 h1.2 j (List.mem_range.2 hjs)
      simp only [Bool.or_eq_true, decide_eq_true_eq, bne_iff_ne] at h3
      exact h3.resolve_left hj
    · simp [Array.getElem?_eq_none hjs]

def FreeK (S : Nat → Spec) (i : Nat) (o : Oper) (a : Act) (w : World) (a' : Act) (w' : World) : Prop :=
  ∃ v, a' = a.put o.dst v ∧ (S i).P v w' ∧ Below w.heap.size w w'

/-- Does an operation wait for operation j? -/
def waits (o : Oper) (j : Nat) : Bool := o.after.toList.any fun e => Region.binds .any e && e.on == j

/-- WHAT IS OWED AT ONE OPERATION. -/
def FreeOb (P : Program) (ops : Array Oper) (Q : Exit → Act → World → Prop) (S : Nat → Spec) (a0 : Act) (w0 : World) (i : Nat) (o : Oper) : Prop :=
  ops[i]? = some o → ∀ a w, Below w0.heap.size w0 w → (∀ j, waits o j = true → (S j).P (slotOf ops a j) w) →
    (∀ t, isDst ops t = false → a.tmps.getD t undef = a0.tmps.getD t undef) → wpOp P ops Q i (FreeK S i o a w) a w

/-- WHAT HOLDS AT ANY POINT. -/
structure FreeGood (ops : Array Oper) (S : Nat → Spec) (a0 : Act) (w0 : World) (listed : Array Bool) (a : Act) (w : World) : Prop where
  below : Below w0.heap.size w0 w
  done : ∀ i o, ops[i]? = some o → listed.getD i false = true → (S i).P (slotOf ops a i) w
  old : ∀ t, isDst ops t = false → a.tmps.getD t undef = a0.tmps.getD t undef
  size : a.tmps.size = a0.tmps.size
  defers : a.defers = a0.defers

theorem all_listed {ops : Array Oper} {n : Nat} (hf : freeForm ops n = true) {listed : Array Bool} (hs : listed.size = ops.size) (hr : Region.ready .any ops listed = []) :
    ∀ i, i < ops.size → listed.getD i false = true := by
  intro i
  induction i using Nat.strongRecOn with
  | ind i ih =>
    intro hi
    cases hl : listed.getD i true with
    | true =>
      have : i < listed.size := by omega
      simp [this] at hl ⊢
      exact hl
    | false =>
      exfalso
      have hoi : ops[i]? = some ops[i] := Array.getElem?_eq_getElem hi
      obtain ⟨d, _, _, _, he⟩ := freeForm_at hf hoi
      have hm : i ∈ Region.ready .any ops listed := mem_ready.2 ⟨hl, ops[i], hoi, fun e hmem hb => ih e.on (he e hmem hb) (by have := he e hmem hb; omega)⟩
      rw [hr] at hm
      cases hm

theorem isDst_of {ops : Array Oper} {i : Nat} {o : Oper} {d : Tmp} (hi : ops[i]? = some o) (hd : o.dst = some d) : isDst ops d = true := by
  unfold isDst
  rw [List.any_eq_true]
  exact ⟨o, by simpa using Array.mem_of_getElem? hi, by simp [hd]⟩

theorem region_free_go {P : Program} {ops : Array Oper} {Q : Exit → Act → World → Prop} {S : Nat → Spec} {a0 : Act} {w0 : World} (hf : freeForm ops a0.tmps.size = true)
    (hob : ∀ i o, ops[i]? = some o → FreeOb P ops Q S a0 w0 i o)
    (hfin : ∀ a w, Below w0.heap.size w0 w → (∀ i o, ops[i]? = some o → (S i).P (slotOf ops a i) w) → (∀ t, isDst ops t = false → a.tmps.getD t undef = a0.tmps.getD t undef) →
      a.tmps.size = a0.tmps.size → a.defers = a0.defers → Q .normal a w) :
    ∀ (fuel : Nat) (listed : Array Bool) (a : Act) (w : World), listed.size = ops.size → listed.count false = fuel → FreeGood ops S a0 w0 listed a w → wpAny P .any ops Q fuel listed a w := by
  have fin : ∀ (listed : Array Bool) (a : Act) (w : World), listed.size = ops.size → Region.ready .any ops listed = [] → FreeGood ops S a0 w0 listed a w → Q .normal a w := by
    intro listed a w hs hr hg
    exact hfin a w hg.below (fun i o hi => hg.done i o hi (all_listed hf hs hr i (Array.getElem?_eq_some_iff.1 hi).1)) hg.old hg.size hg.defers
  intro fuel
  induction fuel with
  | zero =>
    intro listed a w hs hc hg
    have hr : Region.ready .any ops listed = [] := by
      rw [List.eq_nil_iff_forall_not_mem]
      intro i hi
      obtain ⟨h0, _⟩ := mem_ready.1 hi
      rw [Array.count_eq_zero] at hc
      rcases Nat.lt_or_ge i listed.size with h | h
      · simp [h] at h0
        exact hc (by rw [← h0]; exact Array.getElem_mem h)
      · simp [Array.getElem?_eq_none h] at h0
    exact ⟨hr, fin listed a w hs hr hg⟩
  | succ fuel ih =>
    intro listed a w hs hc hg
    refine ⟨fun hr => fin listed a w hs hr hg, fun i hi => ?_⟩
    obtain ⟨h0, o, ho, hall⟩ := mem_ready.1 hi
    have hil : i < listed.size := by rw [hs]; exact (Array.getElem?_eq_some_iff.1 ho).1
    have h0' : listed[i] = false := by simpa [hil] using h0
    obtain ⟨d, hd, hdn, hother, _⟩ := freeForm_at hf ho
    refine wpOp_mono ?_ (hob i o ho ho a w hg.below (fun j hj => ?_) hg.old)
    · rintro a' w' ⟨v, rfl, hP, hb⟩
      refine ih _ _ _ (by simpa using hs) ?_ ⟨hg.below.trans (hb.mono hg.below.size), ?_, ?_, ?_, ?_⟩
      · have := Array.count_set (xs := listed) (a := true) (b := false) hil
        rw [Array.setIfInBounds, dif_pos hil, this, h0']
        have hpos : 0 < listed.count false := by omega
        simp
        omega
      · intro j oj hj hl
        by_cases hji : j = i
        · subst hji
          have : slotOf ops (a.put o.dst v) j = v := by
            unfold slotOf
            rw [ho, hd]
            have hsz : d < a.tmps.size := by rw [hg.size]; exact hdn
            simp [Act.put, hd, hsz]
          rw [this]
          exact hP
        · have e1 : slotOf ops (a.put o.dst v) j = slotOf ops a j := by
            unfold slotOf
            cases hdj : (ops[j]?).bind (·.dst) with
            | none => rfl
            | some dj =>
              have hne : d ≠ dj := fun e => hother j hji (by rw [hdj, e])
              simp [Act.put, hd, Array.getElem?_setIfInBounds_ne hne]
          rw [e1]
          refine (S j).mono _ _ _ (hg.done j oj hj ?_) hb
          rw [getD_set_ne false (Ne.symm hji)] at hl
          exact hl
      · intro t ht
        have hne : d ≠ t := fun e => by rw [← e, isDst_of ho hd] at ht; cases ht
        rw [← hg.old t ht]
        simp [Act.put, hd, Array.getElem?_setIfInBounds_ne hne]
      · simp [Act.put, hd, hg.size]
      · simp [Act.put, hd, hg.defers]
    · unfold waits at hj
      rw [List.any_eq_true] at hj
      obtain ⟨e, hk, hke⟩ := hj
      simp only [Bool.and_eq_true, beq_iff_eq] at hke
      have h1 := hall e (by simpa using hk) hke.1
      rw [hke.2] at h1
      refine hg.done j _ (Array.getElem?_eq_getElem ?_) h1
      rcases Nat.lt_or_ge j listed.size with h | h
      · omega
      · simp [Array.getElem?_eq_none h] at h1

/-- **THE LAW.** -/
theorem region_free {P : Program} {ops : Array Oper} {Q : Exit → Act → World → Prop} {id : Nat} {a0 : Act} {w : World} (hm : P.follows .mixedOrders = true) (S : Nat → Spec) (hf : freeForm ops a0.tmps.size = true)
    (hob : ∀ i o, ops[i]? = some o → FreeOb P ops Q S a0 w.drew i o)
    (hfin : ∀ a w', Below w.heap.size w w' → (∀ i o, ops[i]? = some o → (S i).P (slotOf ops a i) w') → (∀ t, isDst ops t = false → a.tmps.getD t undef = a0.tmps.getD t undef) →
      a.tmps.size = a0.tmps.size → a.defers = a0.defers → Q .normal a w') : (Code.region id ops true).wp P Q a0 w := by
  refine wp_region_any hm ?_
  refine region_free_go (w0 := w.drew) hf hob (fun a w' hb h1 h2 h3 h4 => hfin a w' ((Below.refl w.heap.size w).drew.trans hb) h1 h2 h3 h4) ops.size _ a0 w.drew (by simp) ?_ ⟨Below.refl _ _, ?_, fun _ _ => rfl, rfl, rfl⟩
  · simp
  · intro i o ho hl
    have := (Array.getElem?_eq_some_iff.1 ho).1
    simp [this] at hl

/-! ### One operation -/

def AllFrom (F : Nat → Oper → Prop) : Nat → List Oper → Prop
  | _, [] => True
  | k, o :: r => F k o ∧ AllFrom F (k + 1) r

theorem AllFrom.at {F : Nat → Oper → Prop} : ∀ (l : List Oper) (k : Nat), AllFrom F k l → ∀ i o, l[i]? = some o → F (k + i) o := by
  intro l
  induction l with
  | nil => intro k _ i o h; simp at h
  | cons x l ih =>
    intro k h i o hi
    cases i with
    | zero => simp at hi; subst hi; exact h.1
    | succ i =>
      have := ih (k + 1) h.2 i o (by simpa using hi)
      rw [show k + (i + 1) = k + 1 + i by omega]
      exact this

theorem ops_all {F : Nat → Oper → Prop} {ops : Array Oper} (h : AllFrom F 0 ops.toList) : ∀ i o, ops[i]? = some o → F i o := by
  intro i o hi
  have := AllFrom.at ops.toList 0 h i o (by simpa using hi)
  simpa using this

section
variable {P : Program} {ops : Array Oper} {Q : Exit → Act → World → Prop} {S : Nat → Spec} {i : Nat} {o : Oper} {a : Act} {w w' : World} {v : Value} {g : Nat} {b : Bool}

/-- The guard is met, or there is none. -/
def Met (ops : Array Oper) (o : Oper) (a : Act) : Prop := Region.wanted o (yielded ops a.tmps) = true

theorem met_none (h : o.guard = none) : Met ops o a := by unfold Met Region.wanted; rw [h]

theorem yielded_of (h : slotOf ops a g = .bool b) : yielded ops a.tmps g = some b := by
  unfold slotOf at h
  unfold yielded
  cases hd : (ops[g]?).bind (·.dst) with
  | none => rw [hd] at h; cases h
  | some d =>
    rw [hd] at h
    simp only [Option.elim_some, Option.bind_some] at h ⊢
    have h2 : a.tmps.getD d undef = (a.tmps[d]?).getD undef := by simp
    rw [h2] at h
    cases hx : a.tmps[d]? with
    | none => rw [hx] at h; cases h
    | some x => rw [hx] at h; simp at h; subst h; rfl

theorem met_some (hg : o.guard = some (g, b)) (h : slotOf ops a g = .bool b) : Met ops o a := by
  unfold Met Region.wanted
  rw [hg]
  simp [yielded_of h]

theorem ob_skip (ho : ops[i]? = some o) (hg : o.guard = some (g, b)) (h : slotOf ops a g = .bool (!b)) (hS : (S i).P undef w) : wpOp P ops Q i (FreeK S i o a w) a w := by
  unfold wpOp
  simp only [ho]
  rw [if_neg]
  · exact ⟨undef, rfl, hS, Below.refl _ _⟩
  · unfold Region.wanted
    rw [hg]
    simp [yielded_of h]

/-- Its guard was passed over itself. -/
theorem ob_skip2 (ho : ops[i]? = some o) (hg : o.guard = some (g, b)) (h : slotOf ops a g = undef) (hS : (S i).P undef w) : wpOp P ops Q i (FreeK S i o a w) a w := by
  unfold wpOp
  simp only [ho]
  rw [if_neg]
  · exact ⟨undef, rfl, hS, Below.refl _ _⟩
  · unfold Region.wanted
    rw [hg]
    have hy : yielded ops a.tmps g = none := by
      unfold slotOf at h
      unfold yielded
      cases hd : (ops[g]?).bind (·.dst) with
      | none => rfl
      | some d =>
        rw [hd] at h
        simp only [Option.elim_some, Option.bind_some] at h ⊢
        have h2 : a.tmps.getD d undef = (a.tmps[d]?).getD undef := by simp
        rw [h2] at h
        cases hx : a.tmps[d]? with
        | none => rfl
        | some x => rw [hx] at h; simp at h; subst h; rfl
    simp [hy]

theorem ob_wp (ho : ops[i]? = some o) (hm : Met ops o a) (h : o.wp P a w (FreeK S i o a w) Q) : wpOp P ops Q i (FreeK S i o a w) a w := by
  unfold wpOp
  simp only [ho]
  unfold Met at hm
  rw [if_pos hm]
  exact .inl h

/-- An operation that yields a value, and leaves the world alone or adds blocks. -/
theorem ob_val (ho : ops[i]? = some o) (hm : Met ops o a) (hrun : (execOp a.eval o).run P w = .ok (.value v) w') (hb : Below w.heap.size w w') (hS : (S i).P v w') : wpOp P ops Q i (FreeK S i o a w) a w := by
  refine ob_wp ho hm ?_
  unfold Oper.wp
  rw [hrun]
  exact ⟨v, rfl, hS, hb⟩

theorem ob_is (ho : ops[i]? = some o) (hm : Met ops o a) (hrun : (execOp a.eval o).run P w = .ok (.value v) w) (hS : (S i).P v w) : wpOp P ops Q i (FreeK S i o a w) a w :=
  ob_val ho hm hrun (Below.refl _ _) hS

theorem ob_call {f : FuncId} {args : Array Value} (ho : ops[i]? = some o) (hm : Met ops o a) (hrun : (execOp a.eval o).run P w = .ok (.enter f args) w)
    (hc : Calls P f args w fun e w' => ∃ v, e = .returned v ∧ (S i).P v w' ∧ Below w.heap.size w w') : wpOp P ops Q i (FreeK S i o a w) a w := by
  refine ob_wp ho hm ?_
  unfold Oper.wp
  rw [hrun]
  refine Calls.mono hc ?_
  rintro e w'' ⟨v, rfl, h1, h2⟩
  exact ⟨v, rfl, h1, h2⟩

/-- What runs as it stands: moves, assignments, conversions, the builtin len. -/
theorem run_move (x : Operand) (h : o.op = .move x) (hv : a.eval x = v) : (execOp a.eval o).run P w = .ok (.value v) w := by
  subst hv; unfold execOp; simp [h]
theorem run_assign (x : Operand) (h : o.op = .assign x) (hv : a.eval x = v) : (execOp a.eval o).run P w = .ok (.value v) w := by
  subst hv; unfold execOp; simp [h]
theorem run_convert {x : Operand} {s d : TypeId} {u r : Value} (h : o.op = .convert s d x) (hv : a.eval x = u) (hr : (convert s d u).run P w = .ok r w) : (execOp a.eval o).run P w = .ok (.value r) w := by
  subst hv; unfold execOp; simp [h, hr]
theorem run_callf {f : FuncId} {fn : Func} {args : Array Operand} {ts : Array TypeId} (hf : P.funcs[f]? = some fn) (hname : (fn.name == "runtime.NumGoroutine") = false) (hbody : fn.body.isNone = false)
    (h : o.op = .call { callee := .value (.func f), args := args, argTypes := ts }) {vs : Array Value} (hvs : args.map a.eval = vs) : (execOp a.eval o).run P w = .ok (.enter f vs) w := by
  subst hvs
  have he : a.eval (Operand.func f) = .func (.func f) #[] #[] := rfl
  unfold execOp
  have h1 : fn.name ≠ "runtime.NumGoroutine" := by simpa using hname
  have h2 : fn.body ≠ none := by
    intro hb
    rw [hb] at hbody
    cases hbody
  simp [h, resolve, he, Deferred.ofValue, invoke, callFunc, hf, h1, h2]
theorem ret_at {fn : Func} {t : Tmp} {R : Ending → World → Prop} (hr : fn.results = #[.tmp t]) (hv : a.tmps.getD t undef = v) (hd : a.defers = []) (hR : R (.returned v) w) : bodyPost P fn R .ret a w := by
  refine bodyPost_ret (results_tmp hr _ _ _) hd ?_
  rw [hv]
  exact hR
end

end Go.Proofs.YtcjbgchhalilnaaGreatDoor
