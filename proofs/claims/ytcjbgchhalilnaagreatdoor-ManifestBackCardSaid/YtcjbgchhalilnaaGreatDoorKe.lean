/- A law over any program: a region that leaves its order open, whatever its operations do: an invariant that knows which of them are done. -/
import Derived.Test.YtcjbgchhalilnaaGreatDoorKb
namespace Go.Proofs.YtcjbgchhalilnaaGreatDoor
open Go Go.RowKit

def upd (L : Nat → Bool) (i : Nat) : Nat → Bool := fun j => if j = i then true else L j

/-- The region's form: each operation's slot, if it has one, is its own and within the frame; it waits for earlier ones alone. -/
def openForm (ops : Array Oper) (n : Nat) : Bool :=
  (List.range ops.size).all fun i => match ops[i]? with
    | none => false
    | some o => (match o.dst with
        | none => true
        | some d => decide (d < n) && (List.range ops.size).all fun j => decide (j = i) || ((ops[j]?).bind (·.dst) != some d)) && o.after.all fun e => !Region.binds .any e || decide (e.on < i)

theorem openForm_at {ops : Array Oper} {n : Nat} (h : openForm ops n = true) {i : Nat} {o : Oper} (hi : ops[i]? = some o) :
    (∀ d, o.dst = some d → d < n ∧ ∀ j, j ≠ i → (ops[j]?).bind (·.dst) ≠ some d) ∧ ∀ e ∈ o.after, Region.binds .any e = true → e.on < i := by
  have hlt : i < ops.size := (Array.getElem?_eq_some_iff.1 hi).1
  have h1 := List.all_eq_true.1 h i (List.mem_range.2 hlt)
  simp only [hi, Bool.and_eq_true] at h1
  obtain ⟨h1, h2⟩ := h1
  refine ⟨fun d hd => ?_, fun e he hb => by have := Array.all_eq_true_iff_forall_mem.1 h2 e he; simpa [hb] using this⟩
  simp only [hd, Bool.and_eq_true, decide_eq_true_eq] at h1
  refine ⟨h1.1, fun j hj => ?_⟩
  rcases Nat.lt_or_ge j ops.size with hjs | hjs
  · have h3 := List.all_eq_true.1 h1.2 j (List.mem_range.2 hjs)
    simp only [Bool.or_eq_true, decide_eq_true_eq, bne_iff_ne] at h3
    exact h3.resolve_left hj
  · simp [Array.getElem?_eq_none hjs]

def OpenK (S : Nat → Value → Prop) (G : (Nat → Bool) → Act → World → Prop) (L : Nat → Bool) (i : Nat) (o : Oper) (a a' : Act) (w' : World) : Prop :=
  ∃ v, a' = a.put o.dst v ∧ (o.dst.isSome = true → S i v) ∧ G (upd L i) a' w'

/-- WHAT IS OWED AT ONE OPERATION. -/
def OpenOb (P : Program) (ops : Array Oper) (Q : Exit → Act → World → Prop) (S : Nat → Value → Prop) (G : (Nat → Bool) → Act → World → Prop) (a0 : Act) (i : Nat) (o : Oper) : Prop :=
  ops[i]? = some o → ∀ L a w, G L a w → a.tmps.size = a0.tmps.size → L i = false → (∀ j, waits o j = true → L j = true) → (∀ j, waits o j = true → ((ops[j]?).bind (·.dst)).isSome = true → S j (slotOf ops a j)) →
    (∀ t, isDst ops t = false → a.tmps.getD t undef = a0.tmps.getD t undef) → wpOp P ops Q i (OpenK S G L i o a) a w

structure OpenGood (ops : Array Oper) (S : Nat → Value → Prop) (G : (Nat → Bool) → Act → World → Prop) (a0 : Act) (listed : Array Bool) (a : Act) (w : World) : Prop where
  done : ∀ i o, ops[i]? = some o → o.dst.isSome = true → listed.getD i false = true → S i (slotOf ops a i)
  old : ∀ t, isDst ops t = false → a.tmps.getD t undef = a0.tmps.getD t undef
  size : a.tmps.size = a0.tmps.size
  defers : a.defers = a0.defers
  inv : G (fun i => listed.getD i false) a w

theorem all_listedO {ops : Array Oper} {n : Nat} (hf : openForm ops n = true) {listed : Array Bool} (hs : listed.size = ops.size) (hr : Region.ready .any ops listed = []) :
    ∀ i, i < ops.size → listed.getD i false = true := by
  intro i
  induction i using Nat.strongRecOn with
  | ind i ih =>
    intro hi
    cases hl : listed.getD i true with
    | true =>
      have : i < listed.size := by omega
      simp [this] at hl ⊢
      exact hl
    | false =>
      exfalso
      have hoi : ops[i]? = some ops[i] := Array.getElem?_eq_getElem hi
      obtain ⟨_, he⟩ := openForm_at hf hoi
      have hm : i ∈ Region.ready .any ops listed := mem_ready.2 ⟨hl, ops[i], hoi, fun e hmem hb => ih e.on (he e hmem hb) (by have := he e hmem hb; omega)⟩
      rw [hr] at hm
      cases hm

theorem upd_listed {listed : Array Bool} {i : Nat} (h : i < listed.size) : (fun j => (listed.setIfInBounds i true).getD j false) = upd (fun j => listed.getD j false) i := by
  funext j
  unfold upd
  by_cases hj : j = i
  · subst hj
    simp [h]
  · rw [if_neg hj, getD_set_ne false (Ne.symm hj)]

theorem region_open_go {P : Program} {ops : Array Oper} {Q : Exit → Act → World → Prop} {S : Nat → Value → Prop} {G : (Nat → Bool) → Act → World → Prop} {a0 : Act} (hf : openForm ops a0.tmps.size = true)
    (hob : ∀ i o, ops[i]? = some o → OpenOb P ops Q S G a0 i o)
    (hfin : ∀ L a w, (∀ i, i < ops.size → L i = true) → G L a w → (∀ i o, ops[i]? = some o → o.dst.isSome = true → S i (slotOf ops a i)) → (∀ t, isDst ops t = false → a.tmps.getD t undef = a0.tmps.getD t undef) →
      a.tmps.size = a0.tmps.size → a.defers = a0.defers → Q .normal a w) :
    ∀ (fuel : Nat) (listed : Array Bool) (a : Act) (w : World), listed.size = ops.size → listed.count false = fuel → OpenGood ops S G a0 listed a w → wpAny P .any ops Q fuel listed a w := by
  have fin : ∀ (listed : Array Bool) (a : Act) (w : World), listed.size = ops.size → Region.ready .any ops listed = [] → OpenGood ops S G a0 listed a w → Q .normal a w := by
    intro listed a w hs hr hg
    have hall := all_listedO hf hs hr
    exact hfin _ a w hall hg.inv (fun i o hi hd => hg.done i o hi hd (hall i (Array.getElem?_eq_some_iff.1 hi).1)) hg.old hg.size hg.defers
  intro fuel
  induction fuel with
  | zero =>
    intro listed a w hs hc hg
    have hr : Region.ready .any ops listed = [] := by
      rw [List.eq_nil_iff_forall_not_mem]
      intro i hi
      obtain ⟨h0, _⟩ := mem_ready.1 hi
      rw [Array.count_eq_zero] at hc
      rcases Nat.lt_or_ge i listed.size with h | h
      · simp [h] at h0
        exact hc (by rw [← h0]; exact Array.getElem_mem h)
      · simp [Array.getElem?_eq_none h] at h0
    exact ⟨hr, fin listed a w hs hr hg⟩
  | succ fuel ih =>
    intro listed a w hs hc hg
    refine ⟨fun hr => fin listed a w hs hr hg, fun i hi => ?_⟩
    obtain ⟨h0, o, ho, hall⟩ := mem_ready.1 hi
    have hil : i < listed.size := by rw [hs]; exact (Array.getElem?_eq_some_iff.1 ho).1
    have h0' : listed[i] = false := by simpa [hil] using h0
    obtain ⟨hdst, _⟩ := openForm_at hf ho
    have hw : ∀ j, waits o j = true → listed.getD j false = true := by
      intro j hj
      unfold waits at hj
      rw [List.any_eq_true] at hj
      obtain ⟨e, hk, hke⟩ := hj
      simp only [Bool.and_eq_true, beq_iff_eq] at hke
      have h1 := hall e (by simpa using hk) hke.1
      rw [hke.2] at h1
      exact h1
    have hin : ∀ j, waits o j = true → j < ops.size := by
      intro j hj
      have h1 := hw j hj
      rcases Nat.lt_or_ge j listed.size with h | h
      · omega
      · simp [Array.getElem?_eq_none h] at h1
    refine wpOp_mono ?_ (hob i o ho ho (fun j => listed.getD j false) a w hg.inv hg.size (by simpa [hil] using h0') hw (fun j hj hjd => ?_) hg.old)
    · rintro a' w' ⟨v, rfl, hP, hG⟩
      refine ih _ _ _ (by simpa using hs) ?_ ⟨?_, ?_, ?_, ?_, ?_⟩
      · have := Array.count_set (xs := listed) (a := true) (b := false) hil
        rw [Array.setIfInBounds, dif_pos hil, this, h0']
        have hpos : 0 < listed.count false := by omega
        simp
        omega
      · intro j oj hj hjd hl
        by_cases hji : j = i
        · subst hji
          obtain rfl : o = oj := Option.some.inj (ho.symm.trans hj)
          cases hd : o.dst with
          | none => rw [hd] at hjd; cases hjd
          | some d =>
            have : slotOf ops (a.put o.dst v) j = v := by
              unfold slotOf
              rw [ho, hd]
              have hsz : d < a.tmps.size := by rw [hg.size]; exact (hdst d hd).1
              simp [Act.put, hd, hsz]
            rw [hd] at this
            rw [this]
            exact hP hjd
        · have e1 : slotOf ops (a.put o.dst v) j = slotOf ops a j := by
            unfold slotOf
            cases hdj : (ops[j]?).bind (·.dst) with
            | none => rfl
            | some dj =>
              cases hd : o.dst with
              | none => rfl
              | some d =>
                have hne : d ≠ dj := fun e => (hdst d hd).2 j hji (by rw [hdj, e])
                simp [Act.put, Array.getElem?_setIfInBounds_ne hne]
          rw [e1]
          refine hg.done j oj hj hjd ?_
          rw [getD_set_ne false (Ne.symm hji)] at hl
          exact hl
      · intro t ht
        rw [← hg.old t ht]
        cases hd : o.dst with
        | none => rfl
        | some d =>
          have hne : d ≠ t := fun e => by rw [← e, isDst_of ho hd] at ht; cases ht
          simp [Act.put, Array.getElem?_setIfInBounds_ne hne]
      · cases hd : o.dst with
        | none => exact hg.size
        | some d => simp [Act.put, hg.size]
      · cases hd : o.dst with
        | none => exact hg.defers
        | some d => simp [Act.put, hg.defers]
      · rw [upd_listed hil]
        exact hG
    · have hj2 := hin j hj
      have hjo : ops[j]? = some ops[j] := Array.getElem?_eq_getElem hj2
      refine hg.done j _ hjo ?_ (hw j hj)
      rw [hjo] at hjd
      exact hjd

theorem rep_false (n i : Nat) : (Array.replicate n false).getD i false = false := by by_cases h : i < n <;> simp [h]
/-- **THE LAW.** -/
theorem region_open {P : Program} {ops : Array Oper} {Q : Exit → Act → World → Prop} {id : Nat} {a0 : Act} {w : World} (hm : P.follows .mixedOrders = true) (S : Nat → Value → Prop) (G : (Nat → Bool) → Act → World → Prop) (hf : openForm ops a0.tmps.size = true)
    (h0 : G (fun _ => false) a0 w.drew) (hob : ∀ i o, ops[i]? = some o → OpenOb P ops Q S G a0 i o)
    (hfin : ∀ L a w', (∀ i, i < ops.size → L i = true) → G L a w' → (∀ i o, ops[i]? = some o → o.dst.isSome = true → S i (slotOf ops a i)) → (∀ t, isDst ops t = false → a.tmps.getD t undef = a0.tmps.getD t undef) →
      a.tmps.size = a0.tmps.size → a.defers = a0.defers → Q .normal a w') : (Code.region id ops true).wp P Q a0 w := by
  refine wp_region_any hm ?_
  have he : (fun i => (Array.replicate ops.size false).getD i false) = fun _ => false := funext fun i => rep_false _ i
  refine region_open_go hf hob hfin ops.size _ a0 w.drew (by simp) (by simp) ⟨?_, fun _ _ => rfl, rfl, rfl, by rw [he]; exact h0⟩
  intro i o ho _ hl
  rw [rep_false] at hl
  cases hl

section
variable {P : Program} {ops : Array Oper} {Q : Exit → Act → World → Prop} {S : Nat → Value → Prop} {G : (Nat → Bool) → Act → World → Prop} {L : Nat → Bool} {i : Nat} {o : Oper} {a : Act} {w w' : World} {v : Value}

theorem op_wp (ho : ops[i]? = some o) (hm : Met ops o a) (h : o.wp P a w (OpenK S G L i o a) Q) : wpOp P ops Q i (OpenK S G L i o a) a w := by
  unfold wpOp
  simp only [ho]
  unfold Met at hm
  rw [if_pos hm]
  exact .inl h
theorem op_val (ho : ops[i]? = some o) (hm : Met ops o a) (hrun : (execOp a.eval o).run P w = .ok (.value v) w') (hS : S i v) (hG : G (upd L i) (a.put o.dst v) w') : wpOp P ops Q i (OpenK S G L i o a) a w := by
  refine op_wp ho hm ?_
  unfold Oper.wp
  rw [hrun]
  exact ⟨v, rfl, fun _ => hS, hG⟩
theorem op_call {f : FuncId} {args : Array Value} (ho : ops[i]? = some o) (hm : Met ops o a) (hrun : (execOp a.eval o).run P w = .ok (.enter f args) w)
    (hc : Calls P f args w fun e w' => ∃ v, e = .returned v ∧ S i v ∧ G (upd L i) (a.put o.dst v) w') : wpOp P ops Q i (OpenK S G L i o a) a w := by
  refine op_wp ho hm ?_
  unfold Oper.wp
  rw [hrun]
  refine Calls.mono hc ?_
  rintro e w'' ⟨v, rfl, h1, h2⟩
  exact ⟨v, rfl, fun _ => h1, h2⟩
end
theorem run_sliceLo {P : Program} {a : Act} {w : World} {o : Oper} {t : TypeId} {x y : Operand} {v k r : Value} (h : o.op = .slice t x (some y) none none) (hx : a.eval x = v) (hy : a.eval y = k) (hr : (Instr.sliceAt t v (some k) none none).run P w = .ok r w) : (execOp a.eval o).run P w = .ok (.value r) w := by
  unfold execOp
  simp [h, hx, hy, hr]
theorem run_store {P : Program} {a : Act} {w w' : World} {o : Oper} {t : TypeId} {x y : Operand} {p v : Value} (h : o.op = .store t x y) (hx : a.eval x = p) (hy : a.eval y = v) (hr : (Instr.storeAt t p v).run P w = .ok () w') : (execOp a.eval o).run P w = .ok .skip w' := by
  unfold execOp
  simp [h, hx, hy, hr]
theorem op_skip {P : Program} {ops : Array Oper} {Q : Exit → Act → World → Prop} {S : Nat → Value → Prop} {G : (Nat → Bool) → Act → World → Prop} {L : Nat → Bool} {i : Nat} {o : Oper} {a : Act} {w w' : World} (ho : ops[i]? = some o) (hm : Met ops o a) (hd : o.dst = none)
    (hrun : (execOp a.eval o).run P w = .ok .skip w') (hG : G (upd L i) a w') : wpOp P ops Q i (OpenK S G L i o a) a w := by
  refine op_wp ho hm ?_
  unfold Oper.wp
  rw [hrun]
  refine ⟨undef, rfl, fun h => ?_, ?_⟩
  · rw [hd] at h
    cases h
  · rw [hd]
    exact hG
/-- The regions of a function, by their numbers. -/
def regionsIn : Code → List (Nat × Array Oper)
  | .region id ops _ => [(id, ops)]
  | .seq a b => regionsIn a ++ regionsIn b
  | .cond _ a b => regionsIn a ++ regionsIn b
  | .block _ b => regionsIn b
  | .loop b => regionsIn b
  | .scope b => regionsIn b
  | _ => []
def opsOf (fn : Func) (id : Nat) : Array Oper := (((fn.body.map regionsIn).getD []).find? (·.1 == id)).elim #[] (·.2)
def rangeDstO (ops : Array Oper) (lo hi : Nat) : Bool := ops.toList.all fun o => match o.dst with | some d => decide (lo ≤ d) && decide (d < hi) | none => true
theorem dst_out {ops : Array Oper} {lo hi : Nat} (h : rangeDstO ops lo hi = true) {t : Tmp} (ht : t < lo ∨ hi ≤ t) : isDst ops t = false := by
  unfold isDst
  rw [List.any_eq_false]
  intro o ho
  have := List.all_eq_true.1 h o ho
  cases hd : o.dst with
  | none => simp
  | some d =>
    rw [hd] at this
    simp only [Bool.and_eq_true, decide_eq_true_eq] at this
    have h1 : d ≠ t := by
      intro e
      subst e
      rcases ht with h | h
      · exact absurd (Nat.lt_of_lt_of_le h this.1) (Nat.lt_irrefl _)
      · exact absurd (Nat.lt_of_lt_of_le this.2 h) (Nat.lt_irrefl _)
    simpa using h1
theorem put_get {a : Act} {d t : Nat} {v : Value} (h : d ≠ t) : (a.put (some d) v).tmps.getD t undef = a.tmps.getD t undef := by simp [Act.put, Array.getElem?_setIfInBounds_ne h]
theorem put_get_same {a : Act} {d : Nat} {v : Value} (h : d < a.tmps.size) : (a.put (some d) v).tmps.getD d undef = v := by simp [Act.put, h]
theorem upd_same (L : Nat → Bool) (i : Nat) : upd L i i = true := by simp [upd]
theorem upd_ne (L : Nat → Bool) {i j : Nat} (h : j ≠ i) : upd L i j = L j := by simp [upd, h]
end Go.Proofs.YtcjbgchhalilnaaGreatDoor
