/- DecimalPart and DecimalAll: slices of slices of values, and the walks. -/
import Derived.Test.YtbpillbhkkjlbaaDoorDk
namespace Go.Proofs.YtbpillbhkkjlbaaDoor
open Go Go.RowKit

theorem ReadsV.stretch {w : World} {ad : Option Addr} {n cap : Nat} {xs : List V3} (h : ReadsV w (.slice ad n cap) xs) (p q : Nat) (hpq : p ≤ q) (hq : q ≤ xs.length) :
    ReadsV w (.slice (if cap = p then ad else ad.map (·.add (p * 3))) (q - p) (cap - p)) ((xs.take q).drop p) := by
  obtain ⟨hc1, hc2⟩ := h.len_cap
  rcases h with ⟨rfl, ad', cap', h1, h2, h3⟩ | ⟨b, off, cap', h1, h2, h3, h4, h5⟩
  · simp only [Value.slice.injEq] at h1
    obtain ⟨rfl, _, rfl⟩ := h1
    simp only [List.length_nil] at hq
    obtain rfl : q = 0 := by omega
    obtain rfl : p = 0 := by omega
    refine .inl ⟨by simp, _, cap, rfl, by omega, fun hn => ?_⟩
    split at hn
    · assumption
    · cases ad with
      | none => exact h3 rfl
      | some a => simp at hn
  · simp only [Value.slice.injEq] at h1
    obtain ⟨rfl, rfl, rfl⟩ := h1
    have hlen : ((xs.take q).drop p).length = q - p := by rw [List.length_drop, List.length_take]; omega
    by_cases hcp : cap = p
    · have h0 : (xs.take q).drop p = [] := List.eq_nil_of_length_eq_zero (by omega)
      rw [if_pos hcp, h0]
      exact .inl ⟨rfl, _, _, by rw [show q - p = 0 by omega], by omega, fun hn => by cases hn⟩
    · rw [if_neg hcp]
      refine .inr ⟨b, off + p * 3, cap - p, ?_, by omega, by omega, h4, fun i hi => ?_⟩
      · rw [hlen]
        simp [add_off]
      · rw [List.getElem_drop, List.getElem_take]
        have := h5 (p + i) (by omega)
        rw [show off + (p + i) * 3 = off + p * 3 + i * 3 by omega] at this
        exact this

theorem slice_midV {w : World} {ad : Option Addr} {n cap : Nat} {xs : List V3} (h : ReadsV w (.slice ad n cap) xs) (p q : Nat) (hpq : p ≤ q) (hq : q ≤ xs.length) :
    ∃ v', (∀ W : World, (Instr.slice 22 (.slice ad n cap) (some (.int .i64 (p : Int))) (some (.int .i64 (q : Int))) none).run Tryd.prog W = .ok v' W) ∧ ReadsV w v' ((xs.take q).drop p) := by
  refine ⟨_, fun W => ?_, h.stretch p q hpq hq⟩
  obtain ⟨hc1, hc2⟩ := h.len_cap
  have h1 : q ≤ cap := by omega
  simp [Instr.slice, Instr.sliceBounds, Instr.sliceBound, run_underlying Tryd.underlying22, asIntOf, hpq, h1]
theorem slice_tailV {w : World} {ad : Option Addr} {n cap : Nat} {xs : List V3} (h : ReadsV w (.slice ad n cap) xs) (hn : n = xs.length) (p : Nat) (hp : p ≤ xs.length) :
    ∃ v', (∀ W : World, (Instr.slice 22 (.slice ad n cap) (some (.int .i64 (p : Int))) none none).run Tryd.prog W = .ok v' W) ∧ ReadsV w v' (xs.drop p) := by
  have hs := h.stretch p xs.length hp (Nat.le_refl _)
  rw [List.take_length] at hs
  refine ⟨_, fun W => ?_, hs⟩
  obtain ⟨hc1, hc2⟩ := h.len_cap
  subst hn
  simp [Instr.slice, Instr.sliceBounds, Instr.sliceBound, run_underlying Tryd.underlying22, asIntOf, hp]

theorem packIs_all {l : List V3} (h : ∀ a ∈ l, RightV a ∧ (NumV a → FitsV a (leastS l).1)) : PackIs l l.length :=
  ⟨Nat.le_refl _, by unfold PackN; rw [List.take_length]; exact h, fun h => absurd h (Nat.lt_irrefl _)⟩

def AnyNum (l : List V3) : Prop := ∃ a ∈ l, NumV a
def PartRel (t : List V3) (w : World) (nb i : Value) (wr : World) : Prop :=
  ∃ (j : Nat) (b : Bool), j ≤ t.length ∧ i = .int .i64 (j : Int) ∧ nb = .bool b ∧ Told b (AnyNum (t.take j)) ∧ wr = w
theorem any_snoc {t : List V3} {j : Nat} (hj : j < t.length) : AnyNum (t.take (j + 1)) ↔ AnyNum (t.take j) ∨ NumV t[j] := by
  rw [List.take_succ_eq_append_getElem hj]
  unfold AnyNum
  constructor
  · rintro ⟨a, ha, hn⟩
    rcases List.mem_append.1 ha with h | h
    · exact .inl ⟨a, h, hn⟩
    · obtain rfl : a = t[j] := by simpa using h
      exact .inr hn
  · rintro (⟨a, ha, hn⟩ | hn)
    · exact ⟨a, List.mem_append.2 (.inl ha), hn⟩
    · exact ⟨t[j], List.mem_append.2 (.inr (by simp)), hn⟩

set_option maxRecDepth 100000 in
set_option maxHeartbeats 2000000 in
theorem part_walk (v : Value) (l : List V3) (fr zt : Int) (w : World) (hT : Tens w) (hok : ∀ a ∈ l, OkV a) (hfr : I64 fr) (hto : I64 zt) (hr : ReadsV w v l) :
    Calls Tryd.prog 7 #[v, .int .i64 fr, .int .i64 zt] w (TrueEnd w) := by
  obtain ⟨ad, cap, rfl⟩ := hr.slice
  obtain ⟨hc1, hc2⟩ := hr.len_cap
  simp only [maxLen] at hc2
  simp only [I64] at hfr hto
  by_cases hbig : 60 < l.length ∨ fr < 0 ∨ zt < fr ∨ (l.length : Int) < zt
  · have hcase : 60 < l.length ∨ (l.length ≤ 60 ∧ fr < 0) ∨ (l.length ≤ 60 ∧ 0 ≤ fr ∧ zt < fr) ∨ (l.length ≤ 60 ∧ 0 ≤ fr ∧ fr ≤ zt ∧ (l.length : Int) < zt) := by omega
    clear hbig
    rcases hcase with h | ⟨h, h'⟩ | ⟨h, h', h''⟩ | ⟨h, h', h'', h'''⟩
    all_goals
      go_enter Tryd.func7, Tryd.ntmps7
      go_wp2_with fail
      refine (awake_any w hT).mono ?_
      rintro r w1 ⟨rfl, hb1⟩
      go_wp2_with fail
      go_ret
      exact ⟨rfl, hb1⟩
  obtain ⟨p, rfl⟩ : ∃ p : Nat, fr = (p : Int) := ⟨fr.toNat, by omega⟩
  obtain ⟨q, rfl⟩ : ∃ q : Nat, zt = (q : Int) := ⟨zt.toNat, by omega⟩
  have hpq : p ≤ q := by omega
  have hql : q ≤ l.length := by omega
  have hl60 : l.length ≤ 60 := by omega
  have hz1 : (p : Int) ≤ (q : Int) := by omega
  have hz2 : (q : Int) ≤ (l.length : Int) := by omega
  have hz3 : (0 : Int) ≤ (p : Int) := by omega
  have hz4 : (l.length : Int) ≤ 60 := by omega
  clear hbig hfr hto
  obtain ⟨vt, hsl, hrt⟩ := slice_midV hr p q hpq hql
  have hsub : ∀ a ∈ (l.take q).drop p, a ∈ l := fun a ha => List.mem_of_mem_take (List.mem_of_mem_drop ha)
  have htl : ((l.take q).drop p).length ≤ 60 := by rw [List.length_drop, List.length_take]; omega
  generalize (l.take q).drop p = t at hrt hsub htl
  go_enter Tryd.func7, Tryd.ntmps7
  go_wp2_with fail
  refine (awake_any w hT).mono ?_
  rintro r w1 ⟨rfl, hb1⟩
  go_wp2_with fail
  refine (Pack_any _ l w1 (hT.below hb1 (Nat.le_refl _)) hok (by omega) (hr.below hb1 (Nat.le_refl _))).mono ?_
  rintro r w2 ⟨k, v2, hk, rfl, hown2, hb2⟩
  have hb02 := hb1.trans (hb2.mono hb1.size)
  clear hown2 hb2 hb1
  by_cases hkl : k < l.length
  · clear hsl
    go_wp2_with fail
    go_ret
    exact ⟨rfl, hb02⟩
  have hk0 := hk.1
  obtain rfl : k = l.length := by omega
  have hp : ∀ a ∈ l, RightV a ∧ (NumV a → FitsV a (leastS l).1) := by
    have := hk.2.1
    unfold PackN at this
    rwa [List.take_length] at this
  have hpt := pack_sub hsub hp
  have hleast : AnyNum t → (leastS l).1 ≤ (leastS t).1 := fun ⟨a, ha, hn⟩ => (least_mono hsub ha hn).1
  have hnone : ¬ AnyNum t → (leastS t).1 = 0 := fun h => by
    obtain ⟨_, h2, h3⟩ := least_facts t
    refine h3 ?_
    cases hs : (leastS t).2 with
    | false => rfl
    | true =>
      obtain ⟨a, ha, hn, _⟩ := h2 hs
      exact absurd ⟨a, ha, hn⟩ h
  rw [List.take_length]
  have hP := Pack_any vt t w2 (hT.below hb02 (Nat.le_refl _)) (fun a ha => hok a (hsub a ha)) (by omega) (hrt.below hb02 (Nat.le_refl _))
  clear hk hk0 hkl hp hsub hok
  obtain ⟨at', ct, rfl⟩ := hrt.slice
  go_wp2_with fail
  refine hP.mono ?_
  rintro r w3 ⟨k, v3, hk, rfl, hown3, hb3⟩
  obtain rfl := hk.unique (packIs_all hpt)
  have hb03 := hb02.trans (hb3.mono hb02.size)
  obtain ⟨a3, c3, rfl⟩ := owns_slice hown3
  rw [List.take_length]
  have hrt3 := hrt.below hb03 (Nat.le_refl _)
  clear hP hown3 hb3 hb02 hk hpt hrt hsl hr
  generalize (leastS t).1 = f at *
  generalize (leastS l).1 = e at *
  go_wp2_with fail
  go_loopw [15, 16] (fun nb i wr => PartRel t w3 nb i wr) (fun _ i _ => t.length - (intOf i).toNat)
  case atStart => exact ⟨0, false, Nat.zero_le _, rfl, rfl, by unfold Told AnyNum; simp, rfl⟩
  case round =>
    obtain ⟨j, b, hj, rfl, rfl, htold, rfl⟩ := hrel
    by_cases hlt : j < t.length
    · obtain ⟨bb, off, rfl, hbs, hcell⟩ := hrt3.elem hlt
      have hsn := Lib.hid (any_snoc hlt)
      generalize t[j] = a at hcell hsn
      obtain ⟨x1, x2, x3⟩ := hcell
      cases b with
      | true =>
        have h2 := Lib.hid ((hsn.out).2 (.inl (htold.1 rfl)))
        clear htold hsn
        go_wp2_with fail
        go_roundw
        case rel => exact ⟨j + 1, true, hlt, by go_num, rfl, ⟨fun _ => h2.out, fun _ => rfl⟩, rfl⟩
        case measure => simp [intOf]; omega
      | false =>
        have hno : ¬ AnyNum (t.take j) := fun h => by have := htold.2 h; cases this
        have hnew : Hid (∀ b : Bool, (b = true ↔ NumV a) → Told b (AnyNum (t.take (j + 1)))) := Lib.hid fun b hb => ⟨fun h => (hsn.out).2 (.inr (hb.1 h)), fun h => hb.2 (((hsn.out).1 h).resolve_left hno)⟩
        clear htold hno hsn
        by_cases hs : a.s = 0
        · by_cases hm : a.m = 0
          · go_wp2_with fail
            go_roundw
            case rel => exact ⟨j + 1, false, hlt, by go_num, rfl, hnew.out false ⟨fun h => (by cases h), fun h => absurd hm h.2⟩, rfl⟩
            case measure => simp [intOf]; omega
          · go_wp2_with fail
            go_roundw
            case rel => exact ⟨j + 1, true, hlt, by go_num, by first | rfl | simp [hm], hnew.out true ⟨fun _ => ⟨hs, hm⟩, fun _ => rfl⟩, rfl⟩
            case measure => simp [intOf]; omega
        · go_wp2_with fail
          go_roundw
          case rel => exact ⟨j + 1, false, hlt, by go_num, rfl, hnew.out false ⟨fun h => (by cases h), fun h => absurd h.1 hs⟩, rfl⟩
          case measure => simp [intOf]; omega
    · have hjl : j = t.length := by omega
      subst hjl
      rw [List.take_length] at htold
      cases b with
      | true =>
        have h1 := hleast (htold.1 rfl)
        clear htold hleast hnone
        go_wp2_with fail
        go_ret
        exact ⟨rfl, hb03⟩
      | false =>
        have h1 := hnone fun h => by have := htold.2 h; cases this
        subst h1
        clear htold hleast hnone
        go_wp2_with fail
        all_goals
          go_ret
          exact ⟨rfl, hb03⟩
end Go.Proofs.YtbpillbhkkjlbaaDoor
