/- What is packed is unpacked as it was: the plain law; DecimalUnpacks and DecimalBack: the walks. -/
import Derived.Test.YtbpillbhkkjlbaaDoorDj
namespace Go.Proofs.YtbpillbhkkjlbaaDoor
open Go Go.RowKit

theorem strip_pow (m : Int) (hm : m % 10 ≠ 0) : ∀ (d n : Nat) (e : Int), d < n → strip n (m * ((10 ^ d : Nat) : Int)) e = (m, e + d) := by
  intro d
  induction d with
  | zero =>
    intro n e hn
    obtain ⟨n', rfl⟩ : ∃ n', n = n' + 1 := ⟨n - 1, by omega⟩
    rw [strip]
    simp [hm]
  | succ d ih =>
    intro n e hn
    obtain ⟨n', rfl⟩ : ∃ n', n = n' + 1 := ⟨n - 1, by omega⟩
    have h1 : m * ((10 ^ (d + 1) : Nat) : Int) = m * ((10 ^ d : Nat) : Int) * 10 := by rw [Nat.pow_succ, Int.natCast_mul, ← Int.mul_assoc]; rfl
    rw [strip, h1]
    generalize hq : m * ((10 ^ d : Nat) : Int) = q
    rw [if_pos (by omega), show q * 10 / 10 = q by omega, ← hq, ih n' (e + 1) (by omega)]
    congr 1
    omega

theorem unV_mant {e : Int} {a : V3} (he : -300 ≤ e ∧ e ≤ 290) (h : RightV a ∧ (NumV a → FitsV a e)) : unV e (mantV e a) = some a := by
  obtain ⟨m, f, s⟩ := a
  obtain ⟨hr, hf⟩ := h
  by_cases hs : s = 0
  · subst hs
    have hb := mantV_num (a := ⟨m, f, 0⟩) rfl ⟨hr, hf⟩
    have hk : ¬ (-9223372036854775808 < mantV e ⟨m, f, 0⟩ ∧ mantV e ⟨m, f, 0⟩ ≤ -9223372036854775804) := by omega
    by_cases hm : m = 0
    · subst hm
      obtain rfl : f = 0 := ord_zero hr rfl
      have hz : mantV e ⟨0, 0, 0⟩ = 0 := by rw [mantV, if_pos rfl, if_pos rfl]
      rw [hz] at hb hk ⊢
      exact unV_some hk (by rw [cleanV, if_neg (by omega), if_pos rfl]; rfl) hb
    · obtain ⟨h1, h2, h3⟩ := hf ⟨rfl, hm⟩
      simp only at h1 h2
      obtain ⟨d, hd⟩ : ∃ d : Nat, f - e = (d : Int) := ⟨(f - e).toNat, by omega⟩
      have hz : mantV e ⟨m, f, 0⟩ = m * ((10 ^ d : Nat) : Int) := by
        rw [mantV, if_pos rfl, if_neg hm]
        simp only [hd, Int.toNat_natCast]
      have hm10 : m % 10 ≠ 0 := by
        unfold RightV at hr
        simp only at hr
        omega
      have hst := strip_pow m hm10 d 19 e (by omega)
      have hk0 : m * ((10 ^ d : Nat) : Int) ≠ 0 := by
        intro h0
        rcases Int.mul_eq_zero.1 h0 with h | h
        · exact hm h
        · have : 1 ≤ 10 ^ d := Nat.one_le_pow _ _ (by decide)
          have h' : (10 ^ d : Nat) = 0 := by exact_mod_cast h
          omega
      rw [hz] at hb hk ⊢
      refine unV_some hk ?_ hb
      rw [cleanV, if_neg (by omega), if_neg hk0, hst, show e + (d : Int) = f by omega, if_pos hr]
  · have hr2 := hr
    unfold RightV at hr
    simp only at hr
    have hmv : mantV e ⟨m, f, s⟩ = -9223372036854775808 + s := mantV_kind hs
    rw [hmv, unV_kind (by omega)]
    obtain ⟨rfl, rfl⟩ : m = 0 ∧ f = 0 := by omega
    congr 2
    omega

theorem unL_mant {e : Int} (he : -300 ≤ e ∧ e ≤ 290) (t : List V3) (h : ∀ a ∈ t, RightV a ∧ (NumV a → FitsV a e)) : unL e (t.map (mantV e)) = some t := by
  suffices hg : ∀ (t pre : List V3), (∀ a ∈ t, RightV a ∧ (NumV a → FitsV a e)) → (t.map (mantV e)).foldl (unStep e) (some pre) = some (pre ++ t) from by
    have := hg t [] h
    simpa [unL] using this
  intro t
  induction t with
  | nil => intro pre _; simp
  | cons a t ih =>
    intro pre h
    rw [List.map_cons, List.foldl_cons]
    have : unStep e (some pre) (mantV e a) = some (pre ++ [a]) := by
      show (unV e (mantV e a)).map _ = _
      rw [unV_mant he (h a (by simp))]
      rfl
    rw [this, ih _ (fun b hb => h b (by simp [hb]))]
    simp

theorem unpack_back {t : List V3} (h : ∀ a ∈ t, RightV a ∧ (NumV a → FitsV a (leastS t).1)) : unpack (leastS t).1 (mantL t) = some t := by
  have he := least_range (l := t) fun a ha => (h a ha).1
  rw [unpack, if_neg (by omega), mantL, unL_mant he t h]
theorem mantL_i64 {t : List V3} (h : ∀ a ∈ t, RightV a ∧ (NumV a → FitsV a (leastS t).1)) : ∀ k ∈ mantL t, I64 k := by
  intro k hk
  obtain ⟨a, ha, rfl⟩ := List.mem_map.1 hk
  exact mantV_i64 (h a ha)
theorem mantL_length (t : List V3) : (mantL t).length = t.length := by simp [mantL]

set_option maxRecDepth 100000 in
theorem unpacks_walk (v : Value) (ms : List Int) (e : Int) (w : World) (hT : Tens w) (hms : ∀ k ∈ ms, I64 k) (he : I64 e) (hr : Reads w vi64 v ms) :
    Calls Tryd.prog 4 #[v, .int .i64 e] w (TrueEnd w) := by
  obtain ⟨ad, cap, rfl⟩ := hr.slice
  by_cases hbig : 60 < ms.length
  · go_enter Tryd.func4, Tryd.ntmps4
    go_wp2_with fail
    refine (awake_any w hT).mono ?_
    rintro r w1 ⟨rfl, hb1⟩
    go_wp2_with fail
    go_ret
    exact ⟨rfl, hb1⟩
  go_enter Tryd.func4, Tryd.ntmps4
  go_wp2_with fail
  refine (awake_any w hT).mono ?_
  rintro r w1 ⟨rfl, hb1⟩
  obtain ⟨en, hen⟩ : ∃ en, (if (unpack e ms).isSome then (0 : Int) else 20) = en := ⟨_, rfl⟩
  have hU := Unpack_any _ ms e w1 (hT.below hb1 (Nat.le_refl _)) hms he (by omega) (hr.below hb1 (Nat.le_refl _))
  have hV := fun w2 (hb2 : Below w.heap.size w w2) => refUnpack_any _ ms e w2 hms he (by omega) (hr.below hb2 (Nat.le_refl _))
  unfold UnEnd at hU hV
  simp only [hen] at hU hV
  clear hen
  generalize (unpack e ms).getD [] = out at hU hV
  go_wp2_with fail
  refine hU.mono ?_
  rintro r w2 ⟨v2, rfl, hown2, hb2⟩
  have hb02 := hb1.trans (hb2.mono hb1.size)
  have hr2 := ReadsV.of_owns hown2
  clear hown2 hb2 hb1 hU
  go_wp2_with fail
  refine (hV w2 hb02).mono ?_
  rintro r w3 ⟨v3, rfl, hown3, hb3⟩
  have hb03 := hb02.trans (hb3.mono hb02.size)
  have hS := SameV_true v2 v3 _ w3 (hr2.below hb3 (Nat.le_refl _)) (ReadsV.of_owns hown3)
  clear hr2 hb3 hown3 hb02 hV
  go_wp2_with fail
  refine hS.mono ?_
  rintro r w4 ⟨rfl, m, rfl⟩
  have hb04 := Below.drewN hb03 m
  clear hS
  go_wp2_with fail
  go_ret
  exact ⟨rfl, hb04⟩

set_option maxRecDepth 100000 in
theorem backD_walk (v : Value) (l : List V3) (w : World) (hT : Tens w) (hok : ∀ a ∈ l, OkV a) (hr : ReadsV w v l) :
    Calls Tryd.prog 5 #[v] w (TrueEnd w) := by
  obtain ⟨ad, cap, rfl⟩ := hr.slice
  obtain ⟨hc1, hc2⟩ := hr.len_cap
  simp only [maxLen] at hc2
  by_cases hbig : 60 < l.length
  · go_enter Tryd.func5, Tryd.ntmps5
    go_wp2_with fail
    refine (awake_any w hT).mono ?_
    rintro r w1 ⟨rfl, hb1⟩
    go_wp2_with fail
    go_ret
    exact ⟨rfl, hb1⟩
  go_enter Tryd.func5, Tryd.ntmps5
  go_wp2_with fail
  refine (awake_any w hT).mono ?_
  rintro r w1 ⟨rfl, hb1⟩
  go_wp2_with fail
  refine (Pack_any _ l w1 (hT.below hb1 (Nat.le_refl _)) hok (by omega) (hr.below hb1 (Nat.le_refl _))).mono ?_
  rintro r w2 ⟨k, v2, hk, rfl, hown2, hb2⟩
  have hb02 := hb1.trans (hb2.mono hb1.size)
  have hkl := hk.1
  have hp := hk.2.1
  have htl : (l.take k).length = k := by rw [List.length_take]; omega
  have hub := unpack_back hp
  have hmi := mantL_i64 hp
  have hml := mantL_length (l.take k)
  rw [htl] at hml
  have her := least_range (l := l.take k) fun a ha => (hp a ha).1
  have hown2' : w2.ownsRow w1.heap.size 2 1 v2 (mantL (l.take k)).length ((mantL (l.take k)).map vi64) := by rw [hml]; exact hown2
  have hr2 := Reads.of_owns hown2'
  obtain ⟨a2, c2, rfl⟩ := owns_slice hown2
  have hU := Unpack_any _ (mantL (l.take k)) (leastS (l.take k)).1 w2 (hT.below hb02 (Nat.le_refl _)) hmi (by simp only [I64]; omega) (by omega) hr2
  rw [hub] at hU
  have hrk := hr.head k hkl
  clear hown2 hown2' hr2 hb2 hb1 hub hmi hml htl hk hp
  generalize (leastS (l.take k)).1 = E at *
  go_wp2_with fail
  refine hU.mono ?_
  rintro r w3 ⟨v3, rfl, hown3, hb3⟩
  have hb03 := hb02.trans (hb3.mono hb02.size)
  have hS := SameV_true v3 _ _ w3 (ReadsV.of_owns hown3) (hrk.below hb03 (Nat.le_refl _))
  clear hU hown3 hb3 hb02 hrk
  go_wp2_with fail
  refine hS.mono ?_
  rintro r w4 ⟨rfl, m, rfl⟩
  have hb04 := Below.drewN hb03 m
  clear hS
  go_wp2_with fail
  go_ret
  exact ⟨rfl, hb04⟩
end Go.Proofs.YtbpillbhkkjlbaaDoor
