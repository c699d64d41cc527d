/- The reference's Choose: the walk. -/
import Derived.Test.YtgegbfhjophdfaaCp
namespace Go.Proofs.Ytgegbfhjophdfaa
open Go Go.RowKit

noncomputable def csL (l : List Int) : Nat → Int × List UInt8
  | 0 => (2, (asL 2 l).getD [])
  | j + 1 => bestStep l (csL l j) (3 - (j : Int))
theorem step_none {l : List Int} {c : Int × List UInt8} {k : Int} (h : asL k l = none) : bestStep l c k = c := by rw [bestStep, h]
theorem step_yes {l : List Int} {c : Int × List UInt8} {k : Int} {x : List UInt8} (h : asL k l = some x) (h2 : x.length < c.2.length ∨ (x.length = c.2.length ∧ k < c.1)) : bestStep l c k = (k, x) := by
  rw [bestStep, h]
  exact if_pos h2
theorem step_no {l : List Int} {c : Int × List UInt8} {k : Int} {x : List UInt8} (h : asL k l = some x) (h2 : ¬ (x.length < c.2.length ∨ (x.length = c.2.length ∧ k < c.1))) : bestStep l c k = c := by
  rw [bestStep, h]
  exact if_neg h2
theorem two_noop (l : List Int) : bestStep l (bestStep l (2, (asL 2 l).getD []) 3) 2 = bestStep l (2, (asL 2 l).getD []) 3 := by
  cases h2 : asL 2 l with
  | none => exact step_none h2
  | some x =>
    show bestStep l (bestStep l (2, x) 3) 2 = bestStep l (2, x) 3
    have h0 : bestStep l (2, x) 2 = (2, x) := step_no h2 (by simp)
    cases h3 : asL 3 l with
    | none => rw [step_none h3, h0]
    | some y =>
      by_cases hc : y.length < x.length
      · rw [step_yes h3 (.inl hc), step_no h2 (by simp only; omega)]
      · rw [step_no h3 (by simp only; omega), h0]
theorem cs_end (l : List Int) : csL l 4 = bestL l := by
  show bestStep l (bestStep l (bestStep l (bestStep l (2, (asL 2 l).getD []) (3 - ((0 : Nat) : Int))) (3 - ((1 : Nat) : Int))) (3 - ((2 : Nat) : Int))) (3 - ((3 : Nat) : Int)) = _
  rw [show (3 : Int) - ((0 : Nat) : Int) = 3 from rfl, show (3 : Int) - ((1 : Nat) : Int) = 2 from rfl, show (3 : Int) - ((2 : Nat) : Int) = 1 from rfl, show (3 : Int) - ((3 : Nat) : Int) = 0 from rfl, two_noop]
  rfl
theorem best_far {l : List Int} (h : 4096 < l.length) : bestL l = (2, []) := by
  simp [bestL, bestStep, asL_long h]

def RCRel (l : List Int) (w : World) (best many k : Value) (wr : World) : Prop :=
  ∃ (j : Nat) (c : Int × List UInt8), j ≤ 4 ∧ k = .int .i64 (3 - (j : Int)) ∧ Hid (csL l j = c) ∧ best = .int .i64 c.1 ∧ many = .int .i64 (c.2.length : Int) ∧ Below w.heap.size w wr

set_option maxRecDepth 100000 in
set_option maxHeartbeats 4000000 in
theorem refChoose_any (v : Value) (l : List Int) (w : World) (hl : ∀ n ∈ l, I64 n) (hr : Reads w vi64 v l) :
    Calls Try.prog 11 #[v] w fun e w' => e = .returned (.int .i64 (bestL l).1) ∧ Below w.heap.size w w' := by
  have hml := hr.len_le
  simp only [maxLen] at hml
  by_cases hbig : 4096 < l.length
  · have hb := best_far hbig
    have HB := Lib.hid hb
    clear hb
    obtain ⟨ad, cap, rfl⟩ := hr.slice
    go_enter Try.func11, Try.ntmps11
    go_wp2_with fail
    go_ret
    exact ⟨by rw [HB.out]; rfl, Below.refl _ _⟩
  have h0 := refAs_any 2 v l w hl hr
  have hA := fun (k : Int) (W : World) (hW : Below w.heap.size w W) => refAs_any k v l W hl (hr.below hW (Nat.le_refl _))
  obtain ⟨ad, cap, rfl⟩ := hr.slice
  go_enter Try.func11, Try.ntmps11
  go_wp2_with fail
  refine h0.mono ?_
  rintro e w1 ⟨v1, rfl, hown1, hb1⟩
  obtain ⟨a1, c1, rfl⟩ := owns_slice hown1
  have hc0 : Hid (csL l 0 = (2, (asL 2 l).getD [])) := Lib.hid rfl
  generalize (asL 2 l).isSome = is0
  generalize (asL 2 l).getD [] = x0 at hc0 hown1 ⊢
  clear hown1 h0
  go_wp2_with fail
  go_loopw [3, 6, 7] (fun b m k wr => RCRel l w b m k wr) (fun _ _ k _ => (intOf k + 1).toNat)
  case atStart => exact ⟨0, (2, x0), by omega, rfl, hc0, rfl, rfl, hb1⟩
  case round =>
    obtain ⟨j, c, hj, rfl, hcs, rfl, rfl, hbel⟩ := hrel
    obtain ⟨cb, cx⟩ := c
    by_cases hlt : j < 4
    · have hAj := hA (3 - (j : Int)) _ hbel
      have hnext : Hid (csL l (j + 1) = bestStep l (cb, cx) (3 - (j : Int))) := Lib.hid (by rw [csL, hcs.out])
      obtain ⟨k, hk⟩ : ∃ k : Int, (3 : Int) - (j : Int) = k := ⟨_, rfl⟩
      rw [hk] at hAj hnext ⊢
      have hk0 : 0 ≤ k ∧ k ≤ 3 := by omega
      have HKJ := Lib.hid hk
      clear hk hcs hA
      cases hx : asL k l with
      | none =>
        have hn2 : Hid (csL l (j + 1) = (cb, cx)) := Lib.hid (by rw [hnext.out, step_none hx])
        rw [hx] at hAj
        clear hx hnext
        go_wp2_with fail
        refine hAj.mono ?_
        rintro e w2 ⟨v2, rfl, hown2, hb2⟩
        have hbel2 := hbel.trans (hb2.mono hbel.size)
        clear hown2 hAj
        go_wp2_with fail
        go_roundw
        case rel => exact ⟨j + 1, _, hlt, congrArg _ (by have := HKJ.out; omega), hn2, rfl, rfl, hbel2⟩
        case measure => simp only [intOf]; omega
      | some x =>
        rw [hx] at hAj
        by_cases h1 : x.length < cx.length
        · have hn2 : Hid (csL l (j + 1) = (k, x)) := Lib.hid (by rw [hnext.out, step_yes hx (.inl h1)])
          have h1' : (x.length : Int) < (cx.length : Int) := by omega
          clear hx hnext
          go_wp2_with fail
          refine hAj.mono ?_
          rintro e w2 ⟨v2, rfl, hown2, hb2⟩
          have hbel2 := hbel.trans (hb2.mono hbel.size)
          obtain ⟨a2, c2, rfl⟩ := owns_slice hown2
          clear hown2 hAj
          go_wp2_with fail
          go_roundw
          case rel => exact ⟨j + 1, _, hlt, congrArg _ (by have := HKJ.out; omega), hn2, rfl, rfl, hbel2⟩
          case measure => simp only [intOf]; omega
        · have h1' : decide ((x.length : Int) < (cx.length : Int)) = false := decide_eq_false (by omega)
          by_cases h2 : x.length = cx.length ∧ k < cb
          · have hn2 : Hid (csL l (j + 1) = (k, x)) := Lib.hid (by rw [hnext.out, step_yes hx (.inr h2)])
            obtain ⟨h3, h4⟩ := h2
            have h3' : ((x.length : Int) == (cx.length : Int)) = true := by rw [beq_iff_eq]; omega
            clear hx hnext h1
            go_wp2_with fail
            refine hAj.mono ?_
            rintro e w2 ⟨v2, rfl, hown2, hb2⟩
            have hbel2 := hbel.trans (hb2.mono hbel.size)
            obtain ⟨a2, c2, rfl⟩ := owns_slice hown2
            clear hown2 hAj
            go_wp2_with fail
            go_roundw
            case rel => exact ⟨j + 1, _, hlt, congrArg _ (by have := HKJ.out; omega), hn2, rfl, congrArg (fun n : Nat => Value.int .i64 (n : Int)) h3.symm, hbel2⟩
            case measure => simp only [intOf]; omega
          · have hn2 : Hid (csL l (j + 1) = (cb, cx)) := Lib.hid (by rw [hnext.out, step_no hx (fun h => h.elim h1 h2)])
            clear hx hnext
            go_wp2_with fail
            refine hAj.mono ?_
            rintro e w2 ⟨v2, rfl, hown2, hb2⟩
            have hbel2 := hbel.trans (hb2.mono hbel.size)
            obtain ⟨a2, c2, rfl⟩ := owns_slice hown2
            clear hown2 hAj
            by_cases h3 : x.length = cx.length
            · have h3' : ((x.length : Int) == (cx.length : Int)) = true := by rw [beq_iff_eq]; omega
              have h4 : decide (k < cb) = false := decide_eq_false (fun h => h2 ⟨h3, h⟩)
              have h5 : cb ≤ k := by have := of_decide_eq_false h4; omega
              have h1'' : ¬ x.length < cx.length := by omega
              clear h2
              go_wp2_with fail
              go_roundw
              case rel => exact ⟨j + 1, _, hlt, congrArg _ (by have := HKJ.out; omega), hn2, rfl, rfl, hbel2⟩
              case measure => simp only [intOf]; omega
            · have h3' : ((x.length : Int) == (cx.length : Int)) = false := by rw [beq_eq_false_iff_ne]; omega
              have h6 : (cx.length : Int) < (x.length : Int) := by omega
              clear h2
              go_wp2_with fail
              go_roundw
              case rel => exact ⟨j + 1, _, hlt, congrArg _ (by have := HKJ.out; omega), hn2, rfl, rfl, hbel2⟩
              case measure => simp only [intOf]; omega
    · have hj4 : j = 4 := by omega
      subst hj4
      have hfin : Hid ((bestL l).1 = cb) := Lib.hid (by rw [← cs_end, hcs.out])
      go_wp2_with fail
      go_ret
      exact ⟨by rw [hfin.out]; rfl, hbel⟩
end Go.Proofs.Ytgegbfhjophdfaa
