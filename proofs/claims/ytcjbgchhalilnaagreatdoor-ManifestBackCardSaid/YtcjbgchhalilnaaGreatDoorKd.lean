/- A law over any program: a region that leaves its order open, whose first operations only read, compute, and make new memory, and whose last ones, in one order, do whatever they like. -/
import Derived.Test.YtcjbgchhalilnaaGreatDoorKb
import Derived.StillTail
namespace Go.Proofs.YtcjbgchhalilnaaGreatDoor
open Go Go.RowKit

def isDstN (ops : Array Oper) (n : Nat) (t : Tmp) : Bool := (ops.toList.take n).any fun o => o.dst == some t

def freeFormN (ops : Array Oper) (n m : Nat) : Bool :=
  (List.range n).all fun i => match ops[i]? with
    | none => false
    | some o => (match o.dst with
        | none => false
        | some d => decide (d < m) && (List.range n).all fun j => decide (j = i) || ((ops[j]?).bind (·.dst) != some d)) && o.after.all fun e => !Region.binds .any e || decide (e.on < i)

theorem freeFormN_at {ops : Array Oper} {n m : Nat} (h : freeFormN ops n m = true) {i : Nat} {o : Oper} (hlt : i < n) (hi : ops[i]? = some o) :
    ∃ d, o.dst = some d ∧ d < m ∧ (∀ j, j ≠ i → j < n → (ops[j]?).bind (·.dst) ≠ some d) ∧ ∀ e ∈ o.after, Region.binds .any e = true → e.on < i := by
  have h1 := List.all_eq_true.1 h i (List.mem_range.2 hlt)
  simp only [hi, Bool.and_eq_true] at h1
  obtain ⟨h1, h2⟩ := h1
  cases hd : o.dst with
  | none => simp [hd] at h1
  | some d =>
    simp only [hd, Bool.and_eq_true, decide_eq_true_eq] at h1
    refine ⟨d, rfl, h1.1, fun j hj hjs => ?_, fun e he hb => by have := Array.all_eq_true_iff_forall_mem.1 h2 e he; simpa [hb] using this⟩
    have h3 := List.all_eq_true.1 h1.2 j (List.mem_range.2 hjs)
    simp only [Bool.or_eq_true, decide_eq_true_eq, bne_iff_ne] at h3
    exact h3.resolve_left hj

def FreeObN (P : Program) (ops : Array Oper) (n : Nat) (Q : Exit → Act → World → Prop) (S : Nat → Spec) (a0 : Act) (w0 : World) (i : Nat) (o : Oper) : Prop :=
  ops[i]? = some o → ∀ a w, Below w0.heap.size w0 w → (∀ j, waits o j = true → (S j).P (slotOf ops a j) w) →
    (∀ t, isDstN ops n t = false → a.tmps.getD t undef = a0.tmps.getD t undef) → wpOp P ops Q i (FreeK S i o a w) a w

structure FreeGoodN (ops : Array Oper) (n : Nat) (S : Nat → Spec) (a0 : Act) (w0 : World) (listed : Array Bool) (a : Act) (w : World) : Prop where
  below : Below w0.heap.size w0 w
  done : ∀ i o, i < n → ops[i]? = some o → listed.getD i false = true → (S i).P (slotOf ops a i) w
  old : ∀ t, isDstN ops n t = false → a.tmps.getD t undef = a0.tmps.getD t undef
  size : a.tmps.size = a0.tmps.size
  defers : a.defers = a0.defers

theorem all_listedN {ops : Array Oper} {n m : Nat} (hf : freeFormN ops n m = true) (hn : n < ops.size) {listed : Array Bool} (hs : listed.size = ops.size) (hr : Region.ready .any ops listed = []) :
    ∀ i, i < n → listed.getD i false = true := by
  intro i
  induction i using Nat.strongRecOn with
  | ind i ih =>
    intro hi
    cases hl : listed.getD i true with
    | true =>
      have : i < listed.size := by omega
      simp [this] at hl ⊢
      exact hl
    | false =>
      exfalso
      have his : i < ops.size := by omega
      have hoi : ops[i]? = some ops[i] := Array.getElem?_eq_getElem his
      obtain ⟨d, _, _, _, he⟩ := freeFormN_at hf hi hoi
      have hm : i ∈ Region.ready .any ops listed := mem_ready.2 ⟨hl, ops[i], hoi, fun e hmem hb => ih e.on (he e hmem hb) (by have := he e hmem hb; omega)⟩
      rw [hr] at hm
      cases hm

theorem isDstN_of {ops : Array Oper} {n i : Nat} {o : Oper} {d : Tmp} (hin : i < n) (hi : ops[i]? = some o) (hd : o.dst = some d) : isDstN ops n d = true := by
  unfold isDstN
  rw [List.any_eq_true]
  refine ⟨o, ?_, by simp [hd]⟩
  refine List.mem_of_getElem? (i := i) ?_
  rw [List.getElem?_take_of_lt hin]
  simpa using hi

theorem region_tail_go {P : Program} {ops : Array Oper} {n : Nat} {Q : Exit → Act → World → Prop} {S : Nat → Spec} {a0 : Act} {w0 : World} (hf : freeFormN ops n a0.tmps.size = true) (hn : n < ops.size)
    (hsink : Region.sinkB .any ops n = true) (hchain : Region.chainB .any ops n = true) (hseq : Region.seqB .any ops (ops.size - n) n ((Array.range ops.size).map fun i => decide (i < n)) = true)
    (hob : ∀ i o, i < n → ops[i]? = some o → FreeObN P ops n Q S a0 w0 i o)
    (hfin : ∀ a w, Below w0.heap.size w0 w → (∀ i o, i < n → ops[i]? = some o → (S i).P (slotOf ops a i) w) → (∀ t, isDstN ops n t = false → a.tmps.getD t undef = a0.tmps.getD t undef) →
      a.tmps.size = a0.tmps.size → a.defers = a0.defers → wpList P ops Q (ops.toList.drop n) a w) :
    ∀ (fuel : Nat) (listed : Array Bool) (a : Act) (w : World), HeadInv .any ops n listed → listed.count false = fuel → FreeGoodN ops n S a0 w0 listed a w → wpAny P .any ops Q fuel listed a w := by
  have fin : ∀ (fuel : Nat) (listed : Array Bool) (a : Act) (w : World), HeadInv .any ops n listed → listed.count false = fuel → (∀ i, i < n → listed.getD i false = true) → FreeGoodN ops n S a0 w0 listed a w → wpAny P .any ops Q fuel listed a w := by
    intro fuel listed a w inv hc hall hg
    have hL : listed = (Array.range ops.size).map fun i => decide (i < n) := by
      apply Array.ext
      · simp [inv.size]
      · intro i h1 h2
        by_cases hin : i < n
        · have := hall i hin
          simp [h1] at this
          simp [this, hin]
        · have := inv.tail i (by omega) (by rw [← inv.size]; exact h1)
          simp [h1] at this
          simp [this, hin]
    have hcn : fuel = ops.size - n := by
      rw [← hc, hL]
      clear hL hc hall hseq hchain hsink hf
      have h1 : ∀ m, ((Array.range m).map fun i => decide (i < n)).count false = m - n := by
        intro m
        induction m with
        | zero => simp [show Array.range 0 = #[] from rfl]
        | succ m ih =>
          rw [Array.range_succ, Array.map_append, Array.count_append, ih]
          by_cases hmn : m < n
          · simp [hmn]; omega
          · simp [hmn]; omega
      exact h1 _
    subst hcn
    have hlen : (ops.toList.drop n).length = ops.size - n := by simp
    have := wpAny_of_seq (P := P) (md := .any) (ops := ops) (Q' := Q) (ops.toList.drop n) n listed a w (fun j => by simp) (by rw [hlen, hL]; exact hseq)
      (hfin a w hg.below (fun i o hin hi => hg.done i o hin hi (hall i hin)) hg.old hg.size hg.defers)
    rwa [hlen] at this
  intro fuel
  induction fuel with
  | zero =>
    intro listed a w inv hc hg
    refine fin 0 listed a w inv hc (fun i hi => ?_) hg
    have hil : i < listed.size := by rw [inv.size]; omega
    rw [Array.count_eq_zero] at hc
    cases hl : listed.getD i false with
    | true => rfl
    | false =>
      exfalso
      simp [hil] at hl
      exact hc (by rw [← hl]; exact Array.getElem_mem hil)
  | succ fuel ih =>
    intro listed a w inv hc hg
    by_cases hall : ∀ i, i < n → listed.getD i false = true
    · exact fin _ listed a w inv hc hall hg
    obtain ⟨i0, hi0⟩ := Classical.not_forall.1 hall
    obtain ⟨hi0n, hun0⟩ := Classical.not_imp.1 hi0
    have hun : listed.getD i0 true = false := getD_in (by rw [inv.size]; omega) (by simpa using hun0)
    refine ⟨fun hr => absurd (all_listedN hf hn inv.size hr i0 hi0n) hun0, fun i hi => ?_⟩
    have hin : i < n := by
      rcases Nat.lt_or_ge i n with h | h
      · exact h
      · exact absurd hi (tail_waits hsink hchain hn inv _ i0 rfl hi0n hun i h)
    have inv' := inv.set hi hin
    obtain ⟨h0, o, ho, hready⟩ := mem_ready.1 hi
    have hs := inv.size
    have hil : i < listed.size := by rw [hs]; exact (Array.getElem?_eq_some_iff.1 ho).1
    have h0' : listed[i] = false := by simpa [hil] using h0
    obtain ⟨d, hd, hdn, hother, hearly⟩ := freeFormN_at hf hin ho
    refine wpOp_mono ?_ (hob i o hin ho ho a w hg.below (fun j hj => ?_) hg.old)
    · rintro a' w' ⟨v, rfl, hP, hb⟩
      refine ih _ _ _ inv' ?_ ⟨hg.below.trans (hb.mono hg.below.size), ?_, ?_, ?_, ?_⟩
      · have := Array.count_set (xs := listed) (a := true) (b := false) hil
        rw [Array.setIfInBounds, dif_pos hil, this, h0']
        have hpos : 0 < listed.count false := by omega
        simp
        omega
      · intro j oj hjn hj hl
        by_cases hji : j = i
        · subst hji
          have : slotOf ops (a.put o.dst v) j = v := by
            unfold slotOf
            rw [ho, hd]
            have hsz : d < a.tmps.size := by rw [hg.size]; exact hdn
            simp [Act.put, hd, hsz]
          rw [this]
          exact hP
        · have e1 : slotOf ops (a.put o.dst v) j = slotOf ops a j := by
            unfold slotOf
            cases hdj : (ops[j]?).bind (·.dst) with
            | none => rfl
            | some dj =>
              have hne : d ≠ dj := fun e => hother j hji hjn (by rw [hdj, e])
              simp [Act.put, hd, Array.getElem?_setIfInBounds_ne hne]
          rw [e1]
          refine (S j).mono _ _ _ (hg.done j oj hjn hj ?_) hb
          rw [getD_set_ne false (Ne.symm hji)] at hl
          exact hl
      · intro t ht
        have hne : d ≠ t := fun e => by rw [← e, isDstN_of hin ho hd] at ht; cases ht
        rw [← hg.old t ht]
        simp [Act.put, hd, Array.getElem?_setIfInBounds_ne hne]
      · simp [Act.put, hd, hg.size]
      · simp [Act.put, hd, hg.defers]
    · unfold waits at hj
      rw [List.any_eq_true] at hj
      obtain ⟨e, hk, hke⟩ := hj
      simp only [Bool.and_eq_true, beq_iff_eq] at hke
      have h1 := hready e (by simpa using hk) hke.1
      have h2 := hearly e (by simpa using hk) hke.1
      rw [hke.2] at h1 h2
      exact hg.done j _ (by omega) (Array.getElem?_eq_getElem (by omega)) h1

/-- **THE LAW.** -/
theorem region_tail {P : Program} {ops : Array Oper} {Q : Exit → Act → World → Prop} {id : Nat} {a0 : Act} {w : World} (n : Nat) (hm : P.follows .mixedOrders = true) (S : Nat → Spec) (hf : freeFormN ops n a0.tmps.size = true)
    (hB : (decide (n < ops.size) && Region.sinkB .any ops n && Region.chainB .any ops n && Region.seqB .any ops (ops.size - n) n ((Array.range ops.size).map fun i => decide (i < n))) = true)
    (hob : ∀ i o, i < n → ops[i]? = some o → FreeObN P ops n Q S a0 w.drew i o)
    (hfin : ∀ a w', Below w.heap.size w w' → (∀ i o, i < n → ops[i]? = some o → (S i).P (slotOf ops a i) w') → (∀ t, isDstN ops n t = false → a.tmps.getD t undef = a0.tmps.getD t undef) →
      a.tmps.size = a0.tmps.size → a.defers = a0.defers → wpList P ops Q (ops.toList.drop n) a w') : (Code.region id ops true).wp P Q a0 w := by
  simp only [Bool.and_eq_true, decide_eq_true_eq] at hB
  obtain ⟨⟨⟨hn, hs⟩, hc⟩, hq⟩ := hB
  refine wp_region_any hm ?_
  refine region_tail_go (w0 := w.drew) hf hn hs hc hq hob (fun a w' hb h1 h2 h3 h4 => hfin a w' ((Below.refl w.heap.size w).drew.trans hb) h1 h2 h3 h4) ops.size _ a0 w.drew ?_ ?_ ⟨Below.refl _ _, ?_, fun _ _ => rfl, rfl, rfl⟩
  · exact ⟨by simp, fun j oj _ hl => (by rw [getD_replicate_false] at hl; cases hl), fun t _ ht => getD_in (by simpa using ht) (getD_replicate_false _ _)⟩
  · simp
  · intro i o _ ho hl
    rw [getD_replicate_false] at hl
    cases hl

/-- A frame some stretch of which has been written: the rest is as it was. -/
theorem frame_eq {a a0 : Act} (lo hi : Nat) (g : Nat → Value) (hs : a.tmps.size = a0.tmps.size) (hd : a.defers = a0.defers) (hlh : lo ≤ hi) (hhi : hi ≤ a0.tmps.size)
    (h : ∀ t, (t < lo ∨ hi ≤ t) → a.tmps.getD t undef = a0.tmps.getD t undef) (hg : ∀ t, lo ≤ t → t < hi → a.tmps.getD t undef = g t) :
    a = ⟨⟨a0.tmps.toList.take lo ++ ((List.range' lo (hi - lo)).map g ++ a0.tmps.toList.drop hi)⟩, a0.defers⟩ := by
  obtain ⟨⟨l⟩, df⟩ := a
  obtain ⟨⟨l0⟩, df0⟩ := a0
  simp only [List.size_toArray] at hs hhi
  simp only at hd
  subst hd
  have hl : l = l0.take lo ++ ((List.range' lo (hi - lo)).map g ++ l0.drop hi) := by
    apply List.ext_getElem
    · simp; omega
    · intro i h1 h2
      by_cases hlo : i < lo
      · have := h i (.inl hlo)
        simp [h1, show i < l0.length by omega] at this
        rw [this, List.getElem_append_left (by simp; omega)]
        simp
      · by_cases hhi' : i < hi
        · have := hg i (by omega) hhi'
          simp [h1] at this
          rw [this, List.getElem_append_right (by simp; omega), List.getElem_append_left (by simp; omega)]
          simp
          congr 1
          omega
        · have := h i (.inr (by omega))
          simp [h1, show i < l0.length by omega] at this
          rw [this, List.getElem_append_right (by simp; omega), List.getElem_append_right (by simp; omega)]
          simp
          congr 1
          omega
  rw [hl]

def rangeDst (ops : Array Oper) (n lo hi : Nat) : Bool := (ops.toList.take n).all fun o => match o.dst with | some d => decide (lo ≤ d) && decide (d < hi) | none => false
theorem isDstN_out {ops : Array Oper} {n lo hi : Nat} (h : rangeDst ops n lo hi = true) {t : Tmp} (ht : t < lo ∨ hi ≤ t) : isDstN ops n t = false := by
  unfold isDstN
  rw [List.any_eq_false]
  intro o ho
  have := List.all_eq_true.1 h o ho
  cases hd : o.dst with
  | none => simp
  | some d =>
    rw [hd] at this
    simp only [Bool.and_eq_true, decide_eq_true_eq] at this
    have h1 : d ≠ t := by
      intro e
      subst e
      rcases ht with h | h
      · exact absurd (Nat.lt_of_lt_of_le h this.1) (Nat.lt_irrefl _)
      · exact absurd (Nat.lt_of_lt_of_le this.2 h) (Nat.lt_irrefl _)
    simpa using h1
theorem opsN_all {F : Nat → Oper → Prop} {ops : Array Oper} {n : Nat} (h : AllFrom F 0 (ops.toList.take n)) : ∀ i o, i < n → ops[i]? = some o → F i o := by
  intro i o hin hi
  have := AllFrom.at (ops.toList.take n) 0 h i o (by rw [List.getElem?_take_of_lt hin]; simpa using hi)
  simpa using this
end Go.Proofs.YtcjbgchhalilnaaGreatDoor
