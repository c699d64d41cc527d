/- A law over any program: a region that leaves its order open, whose operations that turn memory stand in one line: it is enough to say what holds behind each of them. -/
import Derived.Test.YtcjbgchhalilnaaGreatDoorKe
namespace Go.Proofs.YtcjbgchhalilnaaGreatDoor
open Go Go.RowKit

/-- Does operation k wait for operation i? -/
def after (ops : Array Oper) (k i : Nat) : Bool := match ops[k]? with | some o => waits o i | none => false
/-- The line: each operation of it waits for the one before. -/
def lineForm (ops : Array Oper) (ks : List Nat) : Bool :=
  (List.range ks.length).all fun j => decide (ks.getD j 0 < ops.size) && (decide (j = 0) || after ops (ks.getD j 0) (ks.getD (j - 1) 0)) && (List.range ks.length).all fun k => decide (j = k) || decide (ks.getD j 0 ≠ ks.getD k 0)
theorem lineForm_at {ops : Array Oper} {ks : List Nat} (h : lineForm ops ks = true) {j : Nat} (hj : j < ks.length) :
    ks.getD j 0 < ops.size ∧ (j = 0 ∨ after ops (ks.getD j 0) (ks.getD (j - 1) 0) = true) ∧ ∀ k, k < ks.length → k ≠ j → ks.getD j 0 ≠ ks.getD k 0 := by
  have h1 := List.all_eq_true.1 h j (List.mem_range.2 hj)
  simp only [Bool.and_eq_true, decide_eq_true_eq, Bool.or_eq_true] at h1
  refine ⟨h1.1.1, h1.1.2, fun k hk hne => ?_⟩
  have h2 := List.all_eq_true.1 h1.2 k (List.mem_range.2 hk)
  simp only [Bool.or_eq_true, decide_eq_true_eq] at h2
  rcases h2 with e | e
  · exact absurd e.symm hne
  · exact e
def Closed (ops : Array Oper) (L : Nat → Bool) : Prop := ∀ i o, ops[i]? = some o → L i = true → ∀ j, waits o j = true → L j = true
theorem Closed.upd {ops : Array Oper} {L : Nat → Bool} (h : Closed ops L) {i : Nat} {o : Oper} (ho : ops[i]? = some o) (hw : ∀ j, waits o j = true → L j = true) : Closed ops (upd L i) := by
  intro k ok hk hl j hj
  have up : ∀ x, L x = true → Proofs.YtcjbgchhalilnaaGreatDoor.upd L i x = true := by
    intro x hx
    by_cases e : x = i
    · subst e; exact upd_same L x
    · rw [upd_ne L e]; exact hx
  by_cases e : k = i
  · subst e
    rw [ho] at hk
    injection hk with hk
    subst hk
    exact up j (hw j hj)
  · rw [upd_ne L e] at hl
    exact up j (h k ok hk hl j hj)

def LineG (ops : Array Oper) (ks : List Nat) (GG : Nat → Act → World → Prop) (L : Nat → Bool) (a : Act) (w : World) : Prop :=
  Closed ops L ∧ ∃ n, n ≤ ks.length ∧ (∀ j, j < ks.length → (L (ks.getD j 0) = true ↔ j < n)) ∧ GG n a w

section
variable {P : Program} {ops : Array Oper} {Q : Exit → Act → World → Prop} {S : Nat → Value → Prop} {ks : List Nat} {GG : Nat → Act → World → Prop} {a0 : Act} {i : Nat} {o : Oper}

/-- An operation beside the line: memory stays. -/
theorem line_pure (hc : ks.contains i = false)
    (h : ops[i]? = some o → ∀ n a w, GG n a w → n ≤ ks.length → (∀ m, m < ks.length → after ops (ks.getD m 0) i = true → n ≤ m) → a.tmps.size = a0.tmps.size → (∀ j, waits o j = true → ((ops[j]?).bind (·.dst)).isSome = true → S j (slotOf ops a j)) →
      (∀ t, isDst ops t = false → a.tmps.getD t undef = a0.tmps.getD t undef) → wpOp P ops Q i (OpenK S (fun _ => GG n) (fun _ => false) i o a) a w) : OpenOb P ops Q S (LineG ops ks GG) a0 i o := by
  intro ho L a w ⟨hcl, n, hn, hL, hg⟩ hsz hLi hw hd hold
  refine wpOp_mono ?_ (h ho n a w hg hn ?_ hsz hd hold)
  · rintro a' w' ⟨v, rfl, hS, hG⟩
    refine ⟨v, rfl, hS, hcl.upd ho hw, n, hn, fun j hj => ?_, hG⟩
    have hne : ks.getD j 0 ≠ i := by
      intro e
      have hm : i ∈ ks := by
        rw [← e, List.getD_eq_getElem?_getD, List.getElem?_eq_getElem hj]
        exact List.getElem_mem hj
      rw [← List.contains_iff_mem, hc] at hm
      cases hm
    rw [upd_ne L hne]
    exact hL j hj
  · intro m hm ha
    refine Nat.le_of_not_lt fun hlt => ?_
    have h1 := (hL m hm).2 hlt
    unfold after at ha
    cases ho' : ops[ks.getD m 0]? with
    | none => rw [ho'] at ha; cases ha
    | some o' =>
      rw [ho'] at ha
      have h2 := hcl _ _ ho' h1 i ha
      rw [hLi] at h2
      cases h2
/-- The line's m-th operation. -/
theorem line_key (hlf : lineForm ops ks = true) (m : Nat) (hk : ks[m]? = some i)
    (h : ops[i]? = some o → ∀ a w, GG m a w → a.tmps.size = a0.tmps.size → (∀ j, waits o j = true → ((ops[j]?).bind (·.dst)).isSome = true → S j (slotOf ops a j)) →
      (∀ t, isDst ops t = false → a.tmps.getD t undef = a0.tmps.getD t undef) → wpOp P ops Q i (OpenK S (fun _ => GG (m + 1)) (fun _ => false) i o a) a w) : OpenOb P ops Q S (LineG ops ks GG) a0 i o := by
  intro ho L a w ⟨hcl, n, hn, hL, hg⟩ hsz hLi hw hd hold
  obtain ⟨hm, hki⟩ := List.getElem?_eq_some_iff.1 hk
  have hgd : ks.getD m 0 = i := by rw [List.getD_eq_getElem?_getD, hk]; rfl
  obtain ⟨f1, f2, f3⟩ := lineForm_at hlf hm
  rw [hgd] at f2 f3
  have hnm : n = m := by
    have h1 : ¬ m < n := by
      intro hlt
      have := (hL m hm).2 hlt
      rw [hgd, hLi] at this
      cases this
    rcases f2 with e | e
    · omega
    · unfold after at e
      rw [ho] at e
      have h2 := hw _ e
      have h3 := (hL (m - 1) (by omega)).1 h2
      omega
  subst hnm
  refine wpOp_mono ?_ (h ho a w hg hsz hd hold)
  rintro a' w' ⟨v, rfl, hS, hG⟩
  refine ⟨v, rfl, hS, hcl.upd ho hw, n + 1, hm, fun j hj => ?_, hG⟩
  by_cases e : j = n
  · subst e
    rw [hgd, upd_same]
    simp
  · rw [upd_ne L (fun k => f3 j hj e k.symm), hL j hj]
    omega
/-- **THE LAW.** -/
theorem region_line {id : Nat} {w : World} (hm : P.follows .mixedOrders = true) (ks : List Nat) (S : Nat → Value → Prop) (GG : Nat → Act → World → Prop) (hf : openForm ops a0.tmps.size = true) (hlf : lineForm ops ks = true)
    (h0 : GG 0 a0 w.drew) (hob : ∀ i o, ops[i]? = some o → OpenOb P ops Q S (LineG ops ks GG) a0 i o)
    (hfin : ∀ a w', GG ks.length a w' → (∀ i o, ops[i]? = some o → o.dst.isSome = true → S i (slotOf ops a i)) → (∀ t, isDst ops t = false → a.tmps.getD t undef = a0.tmps.getD t undef) →
      a.tmps.size = a0.tmps.size → a.defers = a0.defers → Q .normal a w') : (Code.region id ops true).wp P Q a0 w := by
  refine region_open hm S (LineG ops ks GG) hf ⟨(fun i o _ hl => by cases hl), 0, Nat.zero_le _, (fun j hj => by simp), h0⟩ hob ?_
  intro L a w' hall ⟨_, n, hn, hL, hg⟩ hS hold hsz hdf
  have hnl : n = ks.length := by
    refine Nat.le_antisymm hn (Nat.le_of_not_lt fun hlt => ?_)
    have h1 := (hL n hlt).1 (hall _ (lineForm_at hlf hlt).1)
    omega
  subst hnl
  exact hfin a w' hg hS hold hsz hdf
end
end Go.Proofs.YtcjbgchhalilnaaGreatDoor
