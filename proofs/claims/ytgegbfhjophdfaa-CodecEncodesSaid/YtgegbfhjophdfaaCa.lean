/- codec: the row's differences, plainly; the closures that tell them; flat. -/
import Derived.Test.YtgegbfhjophdfaaVc
import Derived.BigQuiet
namespace Go.Proofs.Ytgegbfhjophdfaa
open Go Go.RowKit

/-- A difference, round and round. -/
def wsub (a b : Int) : Int := wrap64 (a - b)
theorem wsub_i64 (a b : Int) : I64 (wsub a b) := by
  unfold I64 wsub wrap64
  omega

/-- The differences of a row. -/
def steps : List Int → List Int
  | a :: b :: r => wsub b a :: steps (b :: r)
  | _ => []

theorem steps_length : ∀ l : List Int, (steps l).length = l.length - 1
  | [] => rfl
  | [_] => rfl
  | a :: b :: r => by simp [steps, steps_length (b :: r)]

theorem steps_get : ∀ (l : List Int) (i : Nat) (h : i < (steps l).length) (h1 : i + 1 < l.length), (steps l)[i] = wsub l[i + 1] (l[i]'(Nat.lt_of_succ_lt h1))
  | a :: b :: r, 0, h, h1 => by simp [steps]
  | a :: b :: r, i + 1, h, h1 => by
    have h2 : i < (steps (b :: r)).length := by simpa [steps] using h
    have := steps_get (b :: r) i h2 (by simpa using h1)
    simpa [steps] using this
  | [], i, h, h1 => by simp at h1
  | [_], i, h, h1 => by simp at h1

theorem steps_i64 (l : List Int) : ∀ n ∈ steps l, I64 n := by
  intro n hn
  induction l using steps.induct with
  | case1 a b r ih =>
    simp only [steps, List.mem_cons] at hn
    rcases hn with rfl | hn
    · exact wsub_i64 _ _
    · exact ih hn
  | case2 l h =>
    have : steps l = [] := by
      unfold steps
      split
      · exact absurd rfl (h _ _ _)
      · rfl
    rw [this] at hn
    simp at hn

/-- The difference at a place. -/
def df (l : List Int) (i : Nat) : Int := wsub (l.getD i 0) (l.getD (i - 1) 0)

set_option maxRecDepth 100000 in
/-- The closure that tells a row's elements. -/
theorem tell_any (w : World) (p : Nat) (v : Value) (l : List Int) (i : Nat) (hp : w.cell? ⟨p, 0, none⟩ = some v) (hr : Reads w vi64 v l) (hi : i < l.length) :
    Calls Try.prog 32 #[.int .i64 (i : Int), .pointer (some ⟨p, 0, none⟩)] w fun e w' => e = .returned (.int .i64 (l.getD i 0)) ∧ w = w' := by
  rcases hr with ⟨rfl, al, cl, rfl, _, _⟩ | ⟨b, off, cap, rfl, h1, h2, h3, h4⟩
  · simp at hi
  · have hc := h4 i hi
    have hg : l.getD i 0 = l[i] := by simp [hi]
    rw [hg]
    generalize l[i] = x at hc
    have hc1 : w.cell? ⟨b, off + i, none⟩ = some (.int .i64 x) := hc
    clear hc h4
    have hm : l.length ≤ 9223372036854775807 := by simp only [maxLen] at h2; omega
    go_enter Try.func32, Try.ntmps32
    go_wp2_with fail

    go_ret
    exact ⟨rfl, rfl⟩

set_option maxRecDepth 100000 in
/-- The closure that tells a row's differences. -/
theorem diff_any (w : World) (p : Nat) (v : Value) (l : List Int) (i : Nat) (hp : w.cell? ⟨p, 0, none⟩ = some v) (hr : Reads w vi64 v l) (hi0 : 1 ≤ i) (hi : i < l.length) :
    Calls Try.prog 40 #[.int .i64 (i : Int), .pointer (some ⟨p, 0, none⟩)] w fun e w' => e = .returned (.int .i64 (df l i)) ∧ ∃ m, w' = w.drewN m := by
  rcases hr with ⟨rfl, al, cl, rfl, _, _⟩ | ⟨b, off, cap, rfl, h1, h2, h3, h4⟩
  · simp at hi
  · have hc := h4 i hi
    have hd := h4 (i - 1) (by omega)
    have hg : df l i = wsub l[i] (l[i - 1]'(by omega)) := by simp [df, hi, show i - 1 < l.length by omega]
    rw [hg]
    generalize l[i] = x at hc
    generalize l[i - 1]'(by omega) = y at hd
    have hc1 : w.cell? ⟨b, off + i, none⟩ = some (.int .i64 x) := hc
    have hd1 : w.cell? ⟨b, off + (i - 1), none⟩ = some (.int .i64 y) := hd
    clear hc hd h4 hg
    have hm : l.length ≤ 9223372036854775807 := by simp only [maxLen] at h2; omega
    have hz : (i : Int) - 1 = ((i - 1 : Nat) : Int) := by omega
    go_enter Try.func40, Try.ntmps40
    go_wp2_with fail
    go_quiet (fail)
    go_wp2_with fail
    go_ret
    exact ⟨rfl, _, rfl⟩

/-- ANY closure of the kind: function k with one captured variable x, tells g. -/
def Tells (w : World) (k : Nat) (x : Value) (g : Nat → Int) (lo hi : Nat) : Prop :=
  ∀ i m, lo ≤ i → i < hi → Calls Try.prog k #[.int .i64 (i : Int), x] (w.drewN m) fun e w' => e = .returned (.int .i64 (g i)) ∧ ∃ n, w' = w.drewN n

def FlatRel (g : Nat → Int) (lo hi : Nat) (w : World) (x : Value) (wr : World) : Prop :=
  ∃ k : Nat, lo ≤ k ∧ k ≤ hi ∧ x = .int .i64 (k : Int) ∧ (∀ i, lo ≤ i → i < k → g i = g lo) ∧ ∃ m, wr = w.drewN m

def FlatB (g : Nat → Int) (lo hi : Nat) : Prop := ∀ i, lo ≤ i → i < hi → g i = g lo

set_option maxRecDepth 100000 in
set_option maxHeartbeats 1000000 in
theorem flat_any (w : World) (k : Nat) (x : Value) (g : Nat → Int) (lo hi : Nat) (hle : lo ≤ hi) (hhi : hi ≤ 9223372036854775807) (eg : ∀ args w, (callFunc k args).run Try.prog w = .ok (.enter k args) w) (ht : Tells w k x g lo hi) :
    Calls Try.prog 31 #[.int .i64 (lo : Int), .int .i64 (hi : Int), .func (.func k) #[] #[x]] w fun e w' => (∃ t : Bool, e = .returned (.bool t) ∧ (t = true ↔ FlatB g lo hi)) ∧ ∃ m, w' = w.drewN m := by
  go_enter Try.func31, Try.ntmps31
  go_wp2_with fail
  go_loopw [7] (fun x wr => FlatRel g lo hi w x wr) (fun x _ => hi - (intOf x).toNat)
  case atStart => exact ⟨lo, Nat.le_refl _, hle, rfl, fun i h1 h2 => by omega, 0, rfl⟩
  case round =>
    obtain ⟨i, hk1, hk2, rfl, hall, m, rfl⟩ := hrel
    by_cases hlt : i < hi
    · have c1 := ht i m hk1 hlt
      have c2 := fun m => ht lo m (Nat.le_refl _) (by omega)
      have hg : g i = g lo ∨ g i ≠ g lo := by omega
      clear ht
      go_wp2_with fail
      refine c1.mono ?_
      rintro e w1 ⟨rfl, m1, rfl⟩
      go_wp2_with fail
      refine (c2 m1).mono ?_
      rintro e w2 ⟨rfl, m2, rfl⟩
      clear c1 c2
      rcases hg with hg | hg
      · have q1 : (g i != g lo) = false := by simp [hg]
        go_wp2_with fail
        go_roundw
        case rel => exact ⟨i + 1, by omega, by omega, by go_num, fun j h1 h2 => by
          rcases Nat.lt_or_ge j i with h3 | h3
          · exact hall j h1 h3
          · rw [show j = i by omega]; exact hg, m2, rfl⟩
        case measure => simp [intOf]; omega
      · have q1 : (g i != g lo) = true := by simp [hg]
        go_wp2_with fail
        go_ret
        exact ⟨⟨false, rfl, by
          refine ⟨fun h => (by cases h), fun h => absurd (h i hk1 hlt) hg⟩⟩, m2, rfl⟩
    · have hi' : i = hi := by omega
      subst hi'
      go_wp2_with fail
      go_ret
      exact ⟨⟨true, rfl, ⟨fun _ => hall, fun _ => rfl⟩⟩, m, rfl⟩

end Go.Proofs.Ytgegbfhjophdfaa
