/- The reference's Least, mantissa, one and Pack; DecimalPacks: the walks. -/
import Derived.Test.YtbpillbhkkjlbaaDoorDk
namespace Go.Proofs.YtbpillbhkkjlbaaDoor
open Go Go.RowKit

def LeastRel (l : List V3) (w : World) (e f i : Value) (wr : World) : Prop :=
  ∃ j : Nat, j ≤ l.length ∧ i = .int .i64 (j : Int) ∧ e = .int .i64 (leastS (l.take j)).1 ∧ f = .bool (!(leastS (l.take j)).2) ∧ wr = w

set_option maxRecDepth 100000 in
theorem Least_any (v : Value) (l : List V3) (w : World) (hlen : l.length ≤ 1000) (hr : ReadsV w v l) :
    Calls Tryd.prog 21 #[v] w fun r w' => r = .returned (.int .i64 (leastS l).1) ∧ w' = w := by
  obtain ⟨ad, cap, rfl⟩ := hr.slice
  go_enter Tryd.func21, Tryd.ntmps21
  go_wp2_with fail
  go_loopw [3, 4, 5] (fun e f i wr => LeastRel l w e f i wr) (fun _ _ i _ => l.length - (intOf i).toNat)
  case atStart => exact ⟨0, Nat.zero_le _, rfl, rfl, rfl, rfl⟩
  case round =>
    obtain ⟨j, hj, rfl, rfl, rfl, rfl⟩ := hrel
    by_cases hlt : j < l.length
    · obtain ⟨b, off, rfl, hbs, hcell⟩ := hr.elem hlt
      have hsn : Hid (leastS (l.take (j + 1)) = stepS (leastS (l.take j)) l[j]) := by rw [Hid, List.take_succ_eq_append_getElem hlt, leastS_snoc]
      generalize l[j] = a at hcell hsn
      generalize leastS (l.take j) = c at hsn ⊢
      obtain ⟨E, so⟩ := c
      obtain ⟨x1, x2, x3⟩ := hcell
      by_cases hs : a.s = 0
      · by_cases hm : a.m = 0
        · have hn : Hid (leastS (l.take (j + 1)) = (E, so)) := by rw [Hid, hsn.out, stepS, if_neg (fun h => h.2 hm)]
          clear hsn
          go_wp2_with fail
          go_roundw
          case rel => exact ⟨j + 1, hlt, by go_num, by rw [hn.out], by rw [hn.out], rfl⟩
          case measure => simp [intOf]; omega
        · have hnu : NumV a := ⟨hs, hm⟩
          have hn : Hid (leastS (l.take (j + 1)) = (if so then min a.e E else a.e, true)) := by rw [Hid, hsn.out, stepS, if_pos hnu]
          clear hsn hnu
          cases so with
          | false =>
            have hn2 : Hid (leastS (l.take (j + 1)) = (a.e, true)) := by rw [Hid, hn.out]; rfl
            clear hn
            go_wp2_with fail
            go_roundw
            case rel => exact ⟨j + 1, hlt, by go_num, by rw [hn2.out], by rw [hn2.out]; rfl, rfl⟩
            case measure => simp [intOf]; omega
          | true =>
            by_cases hlt2 : a.e < E
            · have hn2 : Hid (leastS (l.take (j + 1)) = (a.e, true)) := by rw [Hid, hn.out, if_pos rfl, Int.min_eq_left (by omega)]
              clear hn
              go_wp2_with fail
              go_roundw
              case rel => exact ⟨j + 1, hlt, by go_num, by rw [hn2.out], by rw [hn2.out]; rfl, rfl⟩
              case measure => simp [intOf]; omega
            · have hn2 : Hid (leastS (l.take (j + 1)) = (E, true)) := by rw [Hid, hn.out, if_pos rfl, Int.min_eq_right (by omega)]
              clear hn
              go_wp2_with fail
              go_roundw
              case rel => exact ⟨j + 1, hlt, by go_num, by rw [hn2.out], by rw [hn2.out]; rfl, rfl⟩
              case measure => simp [intOf]; omega
      · have hn : Hid (leastS (l.take (j + 1)) = (E, so)) := by rw [Hid, hsn.out, stepS, if_neg (fun h => hs h.1)]
        clear hsn
        go_wp2_with fail
        go_roundw
        case rel => exact ⟨j + 1, hlt, by go_num, by rw [hn.out], by rw [hn.out], rfl⟩
        case measure => simp [intOf]; omega
    · have hjl : j = l.length := by omega
      subst hjl
      rw [List.take_length]
      go_wp2_with fail
      go_ret
      exact ⟨rfl, rfl⟩

def Good (e : Int) (a : V3) : Prop := RightV a ∧ (NumV a → FitsV a e)
def MantEnd (e : Int) (a : V3) (w : World) (r : Ending) (w' : World) : Prop :=
  ∃ (m : Int) (b : Bool), r = .returned (.tuple #[.int .i64 m, .bool b]) ∧ Told b (Good e a) ∧ (b = true → m = mantV e a) ∧ Below w.heap.size w w'

def MantRel (e : Int) (a : V3) (w : World) (x i : Value) (wr : World) : Prop :=
  ∃ (t : Nat) (q : Int), x = .int .i64 q ∧ i = .int .i64 (e + (t : Int)) ∧ Hid (q = a.m * ((10 ^ t : Nat) : Int)) ∧ e + (t : Int) ≤ a.e ∧ t ≤ 17 ∧ Hid (10 ^ t ≤ q.natAbs) ∧ -1000000000000000000 < q ∧ q < 1000000000000000000 ∧ wr = w

theorem size_mul (m p : Int) (hp : 0 ≤ p) : sizeI (m * p) = sizeI m * p := by
  unfold sizeI
  by_cases hm : m < 0
  · rw [if_pos hm]
    have h1 := Int.mul_le_mul_of_nonneg_right (show m ≤ 0 by omega) hp
    rw [Int.neg_mul]
    split <;> omega
  · rw [if_neg hm]
    have h1 := Int.mul_nonneg (show 0 ≤ m by omega) hp
    rw [if_neg (by omega)]
theorem pow_nonneg (n : Nat) : (0 : Int) ≤ ((10 ^ n : Nat) : Int) := Int.natCast_nonneg _
theorem big_no {e : Int} {a : V3} {t : Nat} {q : Int} (hs : a.s = 0) (hm : a.m ≠ 0) (hq : q = a.m * ((10 ^ t : Nat) : Int)) (hlt : e + (t : Int) < a.e) (hbig : 99999999999999999 < q ∨ q < -99999999999999999) : ¬ Good e a := by
  intro h
  obtain ⟨_, _, h3⟩ := h.2 ⟨hs, hm⟩
  have h1 : sizeI a.m * ((10 ^ t : Nat) : Int) = sizeI q := by rw [hq, size_mul _ _ (pow_nonneg t)]
  have h2 : 10 ^ (t + 1) ≤ 10 ^ (a.e - e).toNat := Nat.pow_le_pow_right (by decide) (by omega)
  have h4 : ((10 ^ (t + 1) : Nat) : Int) ≤ ((10 ^ (a.e - e).toNat : Nat) : Int) := Int.ofNat_le.2 h2
  have h5 : 0 ≤ sizeI a.m := by unfold sizeI; split <;> omega
  have h6 := Int.mul_le_mul_of_nonneg_left h4 h5
  have h7 : sizeI a.m * ((10 ^ (t + 1) : Nat) : Int) = sizeI q * 10 := by rw [Nat.pow_succ, Int.natCast_mul, ← Int.mul_assoc, h1]; rfl
  rw [h7] at h6
  have h8 : 100000000000000000 ≤ sizeI q := by unfold sizeI; split <;> omega
  omega
theorem at_end {e : Int} {a : V3} {t : Nat} {q : Int} (hr : RightV a) (hs : a.s = 0) (hm : a.m ≠ 0) (hq : q = a.m * ((10 ^ t : Nat) : Int)) (ht : t ≤ 17) (he : e + (t : Int) = a.e) (hb : -1000000000000000000 < q ∧ q < 1000000000000000000) : Good e a ∧ q = mantV e a := by
  have hD : (a.e - e).toNat = t := by omega
  refine ⟨⟨hr, fun _ => ⟨by omega, by omega, ?_⟩⟩, ?_⟩
  · rw [hD, ← size_mul _ _ (pow_nonneg t), ← hq]
    unfold sizeI
    split <;> omega
  · rw [mantV, if_pos hs, if_neg hm, hD, hq]

set_option maxRecDepth 100000 in
set_option maxHeartbeats 2000000 in
theorem mantissa_any (a : V3) (e : Int) (w : World) (ha : OkV a) (he : I64 e) : Calls Tryd.prog 25 #[vv a, .int .i64 e] w (MantEnd e a w) := by
  have hA : Below w.heap.size w (w.alloc (.cells #[.int .i64 a.m, .int .i64 a.e, .int .i64 a.s] 36)) := (Below.refl _ _).alloc (Nat.le_refl _) _
  have hcA := cells_alloc w 36 a
  have hsA : w.heap.size < (w.alloc (.cells #[.int .i64 a.m, .int .i64 a.e, .int .i64 a.s] 36)).heap.size := by simp
  have hR := refRight_any a (w.alloc (.cells #[.int .i64 a.m, .int .i64 a.e, .int .i64 a.s] 36)) ha
  unfold vv at hR ⊢
  simp only [I64] at he
  go_enter Tryd.func25, Tryd.ntmps25
  go_wp2_with fail
  refine hR.mono ?_
  rintro r w2 ⟨t, rfl, ht, hb2⟩
  have hb02 := hA.trans (hb2.mono hA.size)
  obtain ⟨x1, x2, x3⟩ := hcA.below hb2 hsA
  rw [Nat.zero_add] at x2 x3
  clear hR hA hcA hsA hb2
  cases t with
  | false =>
    have hno : ¬ RightV a := fun h => by have := ht.2 h; cases this
    clear ht
    go_wp2_with fail
    go_ret2
    exact ⟨0, false, rfl, ⟨fun h => (by cases h), fun h => absurd h.1 hno⟩, fun h => (by cases h), hb02⟩
  | true =>
    have hyes := Lib.hid (ht.1 rfl)
    clear ht
    by_cases hs : a.s = 0
    · by_cases hm : a.m = 0
      · have hz : mantV e a = 0 := by rw [mantV, if_pos hs, if_pos hm]
        have hg : Good e a := ⟨hyes.out, fun h => absurd hm h.2⟩
        have HZ := Lib.hid hz
        have HG := Lib.hid hg
        clear hz hg
        go_wp2_with fail
        go_ret2
        exact ⟨0, true, rfl, ⟨fun _ => HG.out, fun _ => rfl⟩, fun _ => HZ.out.symm, hb02⟩
      · have hnb := hyes.out.num ⟨hs, hm⟩
        obtain ⟨hm1, hm2, hf1, hf2⟩ := hnb
        by_cases hlow : a.e < e
        · have hno : Hid (¬ Good e a) := Lib.hid fun h => by have := (h.2 ⟨hs, hm⟩).1; omega
          go_wp2_with fail
          go_ret2
          exact ⟨0, false, rfl, ⟨fun h => (by cases h), fun h => absurd h hno.out⟩, fun h => (by cases h), hb02⟩
        · by_cases hfar : 18 < a.e - e ∧ a.e - e ≤ 9223372036854775807
          · have hno : Hid (¬ Good e a) := Lib.hid fun h => by have := (h.2 ⟨hs, hm⟩).2.1; omega
            obtain ⟨h18, hmx⟩ := hfar
            go_wp2_with fail
            go_ret2
            exact ⟨0, false, rfl, ⟨fun h => (by cases h), fun h => absurd h hno.out⟩, fun h => (by cases h), hb02⟩
          · have hd : decide (18 < wrap64 (a.e - e)) = false := decide_eq_false (by unfold wrap64; omega)
            have hlow2 : decide (a.e < e) = false := decide_eq_false hlow
            have hmb : (a.m == 0) = false := by rw [beq_eq_false_iff_ne]; exact hm
            go_wp2_with fail
            go_loopw [7, 8] (fun x i wr => MantRel e a w2 x i wr) (fun _ i _ => (18 - (intOf i - e)).toNat)
            case atStart => exact ⟨0, a.m, rfl, by simp, Lib.hid (by simp), by simp; exact hlow, by omega, Lib.hid (by simp; omega), by omega, by omega, rfl⟩
            case round =>
              obtain ⟨t, q, rfl, rfl, hq, hte, ht17, hqa, hq1, hq2, rfl⟩ := hrel
              by_cases hend : e + (t : Int) < a.e
              · by_cases hbig : 99999999999999999 < q ∨ q < -99999999999999999
                · have hno : Hid (¬ Good e a) := Lib.hid (big_no hs hm hq.out hend hbig)
                  rcases hbig with hb | hb
                  all_goals
                    go_wp2_with fail
                    go_ret2
                    exact ⟨0, false, rfl, ⟨fun h => (by cases h), fun h => absurd h hno.out⟩, fun h => (by cases h), hb02⟩
                · have hb1 : q ≤ 99999999999999999 := by omega
                  have hb2 : -99999999999999999 ≤ q := by omega
                  have ht16 : t ≤ 16 := by
                    rcases Nat.lt_or_ge t 17 with h | h
                    · omega
                    · have h17 : t = 17 := by omega
                      have := hqa.out
                      rw [h17] at this
                      omega
                  have hq' : Hid (q * 10 = a.m * ((10 ^ (t + 1) : Nat) : Int)) := Lib.hid (by rw [hq.out, Nat.pow_succ, Int.natCast_mul, ← Int.mul_assoc]; rfl)
                  have hqa' : Hid (10 ^ (t + 1) ≤ (q * 10).natAbs) := Lib.hid (by have := hqa.out; rw [Nat.pow_succ, Int.natAbs_mul]; exact Nat.mul_le_mul_right 10 this)
                  clear hbig
                  go_wp2_with fail
                  go_roundw
                  case rel => exact ⟨t + 1, q * 10, rfl, by go_num, hq', by omega, by omega, hqa', by omega, by omega, rfl⟩
                  case measure => simp only [intOf]; omega
              · have hat := at_end (e := e) hyes.out hs hm hq.out ht17 (by omega) ⟨hq1, hq2⟩
                have HAT := Lib.hid hat
                clear hat
                go_wp2_with fail
                go_ret2
                exact ⟨q, true, rfl, ⟨fun _ => HAT.out.1, fun _ => rfl⟩, fun _ => HAT.out.2, hb02⟩
    · have hz : mantV e a = -9223372036854775808 + a.s := mantV_kind hs
      have hg : Good e a := ⟨hyes.out, fun h => absurd h.1 hs⟩
      have hsr : 1 ≤ a.s ∧ a.s ≤ 4 := by have := hyes.out; unfold RightV at this; omega
      have HZ := Lib.hid hz
      have HG := Lib.hid hg
      clear hz hg
      go_wp2_with fail
      go_ret2
      exact ⟨_, true, rfl, ⟨fun _ => HG.out, fun _ => rfl⟩, fun _ => HZ.out.symm, hb02⟩
end Go.Proofs.YtbpillbhkkjlbaaDoor
