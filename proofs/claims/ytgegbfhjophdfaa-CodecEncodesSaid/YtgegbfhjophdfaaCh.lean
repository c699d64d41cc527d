/- CodecLeast: the plain law, and the walk. -/
import Derived.Test.YtgegbfhjophdfaaCg
namespace Go.Proofs.Ytgegbfhjophdfaa
open Go Go.RowKit

theorem step_le (l : List Int) (c : Int × List UInt8) (k : Int) : (bestStep l c k).2.length ≤ c.2.length ∧ ∀ x, asL k l = some x → (bestStep l c k).2.length ≤ x.length := by
  unfold bestStep
  rcases hx : asL k l with _ | x
  · exact ⟨Nat.le_refl _, fun x h => by cases h⟩
  · simp only
    split
    · rename_i h
      refine ⟨?_, fun y hy => by cases hy; exact Nat.le_refl _⟩
      show x.length ≤ c.2.length
      rcases h with h | h <;> omega
    · rename_i h
      refine ⟨Nat.le_refl _, fun y hy => ?_⟩
      cases hy
      omega
theorem step_or (l : List Int) (c : Int × List UInt8) (k : Int) : bestStep l c k = c ∨ ∃ x, asL k l = some x ∧ bestStep l c k = (k, x) := by
  unfold bestStep
  rcases hx : asL k l with _ | x
  · exact .inl rfl
  · simp only
    split
    · exact .inr ⟨x, rfl, rfl⟩
    · exact .inl rfl
theorem asL_two {l : List Int} (h : l.length ≤ 4096) : ∃ x, asL 2 l = some x := ⟨_, by rw [asL, if_neg (by omega)]; rfl⟩
theorem best_le {l : List Int} (h : l.length ≤ 4096) (k : Nat) (hk : k < 4) (x : List UInt8) (hx : asL k l = some x) : (bestL l).2.length ≤ x.length := by
  obtain ⟨a, ha⟩ := asL_two h
  rw [bestL, ha]
  simp only [List.foldl_cons, List.foldl_nil, Option.getD_some]
  have h3 := step_le l (2, a) 3
  have h1 := step_le l (bestStep l (2, a) 3) 1
  have h0 := step_le l (bestStep l (bestStep l (2, a) 3) 1) 0
  rcases (show k = 0 ∨ k = 1 ∨ k = 2 ∨ k = 3 by omega) with rfl | rfl | rfl | rfl
  · exact h0.2 x hx
  · have := h1.2 x hx
    omega
  · have : a = x := by
      have := ha.symm.trans hx
      exact Option.some.inj this
    subst this
    have h5 : (bestStep l (2, a) 3).2.length ≤ a.length := h3.1
    omega
  · have := h3.2 x hx
    omega
theorem best_is {l : List Int} (h : l.length ≤ 4096) : ∃ k : Nat, k < 4 ∧ asL k l = some (bestL l).2 := by
  obtain ⟨a, ha⟩ := asL_two h
  rw [bestL, ha]
  simp only [List.foldl_cons, List.foldl_nil, Option.getD_some]
  rcases step_or l (bestStep l (bestStep l (2, a) 3) 1) 0 with e0 | ⟨x, hx, e0⟩
  · rw [e0]
    rcases step_or l (bestStep l (2, a) 3) 1 with e1 | ⟨x, hx, e1⟩
    · rw [e1]
      rcases step_or l (2, a) 3 with e3 | ⟨x, hx, e3⟩
      · rw [e3]
        exact ⟨2, by omega, ha⟩
      · rw [e3]
        exact ⟨3, by omega, hx⟩
    · rw [e1]
      exact ⟨1, by omega, hx⟩
  · rw [e0]
    exact ⟨0, by omega, hx⟩
theorem asL_long {l : List Int} (h : 4096 < l.length) (k : Int) : asL k l = none := if_pos h
theorem best_long {l : List Int} (h : 4096 < l.length) : (bestL l).2 = [] := by
  simp [bestL, bestStep, asL_long h]
theorem asL_out {l : List Int} (k : Int) (h : k < 0 ∨ 3 < k) : asL k l = none := asL_no (by rw [kindL, if_neg (by omega), if_neg (by omega), if_neg (by omega), if_neg (by omega)])

/-- What a Bool tells. -/
def Told (t : Bool) (p : Prop) : Prop := t = true ↔ p

def LeastRel (l : List Int) (w1 : World) (kd sm : Value) (wr : World) : Prop :=
  ∃ (j : Nat) (t : Bool), j ≤ 4 ∧ kd = .int .i64 (j : Int) ∧ sm = .bool t ∧ Told t (∃ k : Nat, k < j ∧ asL k l = some (bestL l).2) ∧ Below w1.heap.size w1 wr

set_option maxRecDepth 100000 in
set_option maxHeartbeats 4000000 in
theorem least_walk (v : Value) (l : List Int) (w : World) (hl : ∀ n ∈ l, I64 n) (hr : Reads w vi64 v l) :
    Calls Try.prog 5 #[v] w (TrueEnd w) := by
  obtain ⟨ad, cap, rfl⟩ := hr.slice
  have hlenI : l.length ≤ 9223372036854775807 := by have := hr.len_le; simp only [maxLen] at this; omega
  by_cases h4 : 4096 < l.length
  · have hb := best_long h4
    go_enter Try.func5, Try.ntmps5
    go_wp2_with fail
    refine (awake_any w).mono ?_
    rintro e w1 ⟨rfl, hb1⟩
    go_wp2_with fail
    refine (Encode_any _ l w1 hl (hr.below hb1 (Nat.le_refl _))).mono ?_
    rintro e w2 ⟨v2, rfl, hr2, hb2⟩
    rw [hb] at hr2
    obtain ⟨a2, c2, rfl⟩ := hr2.slice
    go_wp2_with fail
    go_ret
    exact ⟨rfl, hb1.trans (hb2.mono hb1.size)⟩
  · have h4' : l.length ≤ 4096 := by omega
    have hle := fun k hk x hx => best_le h4' k hk x hx
    have his := best_is h4'
    have HIS : Hid (∃ k : Nat, k < 4 ∧ asL k l = some (bestL l).2) := his
    clear his
    go_enter Try.func5, Try.ntmps5
    go_wp2_with fail
    refine (awake_any w).mono ?_
    rintro e w1 ⟨rfl, hb1⟩
    go_wp2_with fail
    refine (Encode_any _ l w1 hl (hr.below hb1 (Nat.le_refl _))).mono ?_
    rintro e w2 ⟨v2, rfl, hr2, hb2⟩
    have hb02 := hb1.trans (hb2.mono hb1.size)
    have hr0 := hr.below hb02 (Nat.le_refl _)
    obtain ⟨a2, c2, rfl⟩ := hr2.slice
    have hblen : (bestL l).2.length ≤ 9223372036854775807 := by have := hr2.len_le; simp only [maxLen] at this; omega
    go_wp2_with fail
    go_loopw [6, 5] (fun kd sm wr => LeastRel l w2 kd sm wr) (fun kd _ _ => 4 - (intOf kd).toNat)
    case atStart => exact ⟨0, false, by omega, rfl, rfl, by constructor <;> simp, Below.refl _ _⟩
    case round =>
      obtain ⟨j, t, hj, rfl, rfl, hiff, hbel⟩ := hrel
      by_cases hlt : j < 4
      · go_wp2_with fail
        refine (As_any (j : Int) _ l wr hl (hr0.below hbel (Nat.le_refl _))).mono ?_
        rintro e w3 ⟨v3, rfl, hown3, hb3⟩
        have hbel3 : Below w2.heap.size w2 w3 := hbel.trans (hb3.mono hbel.size)
        have hr3 := Reads.of_owns hown3
        have hrb := hr2.below hbel3 (Nat.le_refl _)
        have hleJ := hle j hlt
        clear hown3 hle
        rcases hx : asL j l with _ | x
        · have hnx : Told t (∃ k : Nat, k < j + 1 ∧ asL k l = some (bestL l).2) := by
            refine Iff.trans hiff ⟨fun ⟨k, h1, h2⟩ => ⟨k, by omega, h2⟩, fun ⟨k, h1, h2⟩ => ⟨k, ?_, h2⟩⟩
            rcases Nat.lt_or_ge k j with h3 | h3
            · exact h3
            · have : k = j := by omega
              subst this
              rw [hx] at h2
              cases h2
          clear hiff hleJ hx
          cases t
          · go_wp2_with fail
            go_roundw
            case rel => exact ⟨j + 1, false, by omega, by go_num, rfl, hnx, hbel3⟩
            case measure => simp [intOf]; omega
          · go_wp2_with fail
            go_roundw
            case rel => exact ⟨j + 1, true, by omega, by go_num, rfl, hnx, hbel3⟩
            case measure => simp [intOf]; omega
        · rw [hx] at hr3
          simp only [Option.getD_some] at hr3
          have hlx := hleJ x hx
          have hi : ¬ (x.length : Int) < ((bestL l).2.length : Int) := by omega
          have hs1 := str_of hr3
          have hs2 := str_of hrb
          obtain ⟨ax, cx, rfl⟩ := hr3.slice
          by_cases hxb : x = (bestL l).2
          · have hnx : Told true (∃ k : Nat, k < j + 1 ∧ asL k l = some (bestL l).2) := ⟨fun _ => ⟨j, by omega, by rw [hx, hxb]⟩, fun _ => rfl⟩
            have hq : (x == (bestL l).2) = true := by simpa using hxb
            clear hiff hleJ hx hxb
            cases t
            · go_wp2_with fail
              go_roundw
              case rel => exact ⟨j + 1, true, by omega, by go_num, rfl, hnx, hbel3⟩
              case measure => simp [intOf]; omega
            · go_wp2_with fail
              go_roundw
              case rel => exact ⟨j + 1, true, by omega, by go_num, rfl, hnx, hbel3⟩
              case measure => simp [intOf]; omega
          · have hnx : Told t (∃ k : Nat, k < j + 1 ∧ asL k l = some (bestL l).2) := by
              refine Iff.trans hiff ⟨fun ⟨k, h1, h2⟩ => ⟨k, by omega, h2⟩, fun ⟨k, h1, h2⟩ => ⟨k, ?_, h2⟩⟩
              rcases Nat.lt_or_ge k j with h3 | h3
              · exact h3
              · have : k = j := by omega
                subst this
                rw [hx] at h2
                exact absurd (Option.some.inj h2) hxb
            have hq : (x == (bestL l).2) = false := by simpa using hxb
            clear hiff hleJ hx hxb
            cases t
            · go_wp2_with fail
              go_roundw
              case rel => exact ⟨j + 1, false, by omega, by go_num, rfl, hnx, hbel3⟩
              case measure => simp [intOf]; omega
            · go_wp2_with fail
              go_roundw
              case rel => exact ⟨j + 1, true, by omega, by go_num, rfl, hnx, hbel3⟩
              case measure => simp [intOf]; omega
      · have hj4 : j = 4 := by omega
        subst hj4
        obtain rfl : t = true := hiff.2 HIS.out
        have a4 := asL_out (l := l) 4 (by omega)
        have a5 := asL_out (l := l) (-1) (by omega)
        clear hiff HIS hle
        go_wp2_with fail
        refine (As_any 4 _ l wr hl (hr0.below hbel (Nat.le_refl _))).mono ?_
        rintro e w3 ⟨v3, rfl, hown3, hb3⟩
        rw [a4]
        have hbel3 : Below w2.heap.size w2 w3 := hbel.trans (hb3.mono hbel.size)
        go_wp2_with fail
        refine (As_any (-1) _ l w3 hl (hr0.below hbel3 (Nat.le_refl _))).mono ?_
        rintro e w4 ⟨v4, rfl, hown4, hb4⟩
        rw [a5]
        have hbel4 : Below w2.heap.size w2 w4 := hbel3.trans (hb4.mono hbel3.size)
        go_wp2_with fail
        go_ret
        exact ⟨rfl, hb02.trans (hbel4.mono hb02.size)⟩

end Go.Proofs.Ytgegbfhjophdfaa
