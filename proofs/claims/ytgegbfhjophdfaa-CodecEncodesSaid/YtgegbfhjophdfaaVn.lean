/- The reference's Same over equal rows; what is taken of numbers' bytes. -/
import Derived.Test.YtgegbfhjophdfaaVl
import Derived.BigQuiet
namespace Go.Proofs.Ytgegbfhjophdfaa
open Go Go.RowKit

theorem takeN_all : ∀ (l : List Int), (∀ n ∈ l, I64 n) → ∀ rest, takeN l.length (allBytes l ++ rest) = (l, rest, 0) := by
  intro l
  induction l with
  | nil => intro _ rest; simp [allBytes, takeN]
  | cons n l ih =>
    intro h rest
    have e1 : allBytes (n :: l) ++ rest = Lib.uvarint (Lib.zigzag n) ++ (allBytes l ++ rest) := by simp [allBytes]
    have hs := take_uvarint (h n (by simp)).zigzag (allBytes l ++ rest)
    rw [e1, List.length_cons, takeN_more hs, List.drop_left, ih (fun m hm => h m (by simp [hm])) rest, if_pos rfl, zag_zigzag]

theorem takeN_short : ∀ (l : List Int), (∀ n ∈ l, I64 n) → takeN (l.length + 1) (allBytes l) = ([], [], 10) := by
  intro l
  induction l with
  | nil => intro _; simp [allBytes, takeN, takeF]
  | cons n l ih =>
    intro h
    have e1 : allBytes (n :: l) = Lib.uvarint (Lib.zigzag n) ++ allBytes l := by simp [allBytes]
    have hs := take_uvarint (h n (by simp)).zigzag (allBytes l)
    rw [e1, List.length_cons, takeN_more hs, List.drop_left, ih (fun m hm => h m (by simp [hm])), if_neg (by decide)]

theorem takeN_part (a b : List Int) (ha : ∀ n ∈ a, I64 n) : takeN a.length (allBytes (a ++ b)) = (a, allBytes b, 0) := by
  rw [allBytes_append]
  exact takeN_all a ha _

def SameEnd (w : World) (e : Ending) (w' : World) : Prop := e = .returned (.bool true) ∧ ∃ m, w' = w.drewN m

def SameRel (xs : List Int) (w : World) (x : Value) (wr : World) : Prop := ∃ k : Nat, k ≤ xs.length ∧ x = .int .i64 (k : Int) ∧ ∃ m, wr = w.drewN m

set_option maxRecDepth 100000 in
set_option maxHeartbeats 1000000 in
theorem Same_true (va vb : Value) (xs : List Int) (w : World) (ha : Reads w vi64 va xs) (hb : Reads w vi64 vb xs) :
    Calls Try.prog 15 #[va, vb] w (SameEnd w) := by
  have hml := ha.len_le
  simp only [maxLen] at hml
  obtain ⟨a1, c1, rfl⟩ := ha.slice
  obtain ⟨a2, c2, rfl⟩ := hb.slice
  go_enter Try.func15, Try.ntmps15
  go_wp2_with fail
  go_loopw [5] (fun x wr => SameRel xs w x wr) (fun x _ => xs.length - (intOf x).toNat)
  case atStart => exact ⟨0, Nat.zero_le _, rfl, 0, rfl⟩
  case round =>
    obtain ⟨k, hk, rfl, m, rfl⟩ := hrel
    by_cases hlt : k < xs.length
    · obtain ⟨b1, o1, rfl, hc1⟩ := ha.elem hlt
      obtain ⟨b2, o2, rfl, hc2⟩ := hb.elem hlt
      generalize xs[k] = z at hc1 hc2
      have h1 : w.cell? ⟨b1, o1 + k, none⟩ = some (.int .i64 z) := hc1
      have h2 : w.cell? ⟨b2, o2 + k, none⟩ = some (.int .i64 z) := hc2
      have h3 : (k : Int) < (xs.length : Int) := by omega
      have h0 : (0 : Int) ≤ (k : Int) := by omega
      clear hc1 hc2
      go_wp2_with fail
      go_quiet (fail)
      go_wp2_with fail
      go_roundw
      case rel => exact ⟨k + 1, by omega, by go_num, m + nq, rfl⟩
      case measure => simp [intOf]; omega
    · go_wp2_with fail
      go_ret
      exact ⟨rfl, m, rfl⟩

end Go.Proofs.Ytgegbfhjophdfaa
