/- The reference's one and Pack; DecimalPacks: the walks. -/
import Derived.Test.YtbpillbhkkjlbaaDoorDn
namespace Go.Proofs.YtbpillbhkkjlbaaDoor
open Go Go.RowKit

def OneEnd (l : List V3) (w : World) (r : Ending) (w' : World) : Prop :=
  ∃ (v : Value) (b : Bool), r = .returned (.tuple #[v, .bool b]) ∧ Told b (∀ a ∈ l, Good (leastS l).1 a) ∧ (b = true → w'.ownsRow w.heap.size 2 1 v (mantL l).length ((mantL l).map vi64)) ∧ Below w.heap.size w w'
def OneRel (l : List V3) (E : Int) (w : World) (v i : Value) (wr : World) : Prop :=
  ∃ j : Nat, j ≤ l.length ∧ i = .int .i64 (j : Int) ∧ (∀ a ∈ l.take j, Good E a) ∧ wr.ownsRow w.heap.size 2 1 v ((l.take j).map (mantV E)).length (((l.take j).map (mantV E)).map vi64) ∧ Below w.heap.size w wr
theorem least_i64 {l : List V3} (h : ∀ a ∈ l, OkV a) : I64 (leastS l).1 := by
  obtain ⟨h1, h2, h3⟩ := least_facts l
  cases hs : (leastS l).2 with
  | true =>
    obtain ⟨a, ha, _, he⟩ := h2 hs
    rw [he]
    exact (h a ha).2.1
  | false => rw [h3 hs]; simp only [I64]; omega
theorem own_as {w : World} {base : Nat} {v : Value} {xs ys : List Int} (h : w.ownsRow base 2 1 v xs.length (xs.map vi64)) (he : xs = ys) : w.ownsRow base 2 1 v ys.length (ys.map vi64) := by
  subst he
  exact h

set_option maxRecDepth 100000 in
set_option maxHeartbeats 2000000 in
theorem one_any (v : Value) (l : List V3) (w : World) (hok : ∀ a ∈ l, OkV a) (hlen : l.length ≤ 1000) (hr : ReadsV w v l) :
    Calls Tryd.prog 20 #[v] w (OneEnd l w) := by
  obtain ⟨i0, hi, hz0, hz1, hz2⟩ := info_parts info_i64c
  have hL := Least_any v l w hlen hr
  have hEi := least_i64 hok
  obtain ⟨ad, cap, rfl⟩ := hr.slice
  obtain ⟨E, hE⟩ : ∃ E, (leastS l).1 = E := ⟨_, rfl⟩
  rw [hE] at hL hEi
  have HE := Lib.hid hE
  clear hE
  go_enter Tryd.func20, Tryd.ntmps20
  go_wp2_with fail
  refine hL.mono ?_
  rintro r w1 ⟨rfl, rfl⟩
  clear hL
  go_wp2_with fail
  go_loopw [5, 6] (fun v i wr => OneRel l E w1 v i wr) (fun _ i _ => l.length - (intOf i).toNat)
  case atStart => exact ⟨0, Nat.zero_le _, rfl, fun a ha => by simp at ha, World.ownsRow_nil _ _ _ _, Below.refl _ _⟩
  case round =>
    obtain ⟨j, hj, rfl, hall, hown, hbel⟩ := hrel
    by_cases hlt : j < l.length
    · obtain ⟨b, off, rfl, hbs, hcell⟩ := (hr.below hbel (Nat.le_refl _)).elem hlt
      have hoka := hok l[j] (List.getElem_mem hlt)
      have hmem : Hid (l[j] ∈ l) := Lib.hid (List.getElem_mem hlt)
      have hsn : Hid (∀ a ∈ l.take (j + 1), a ∈ l.take j ∨ a = l[j]) := Lib.hid fun a ha => by
        rw [List.take_succ_eq_append_getElem hlt, List.mem_append] at ha
        rcases ha with h | h
        · exact .inl h
        · exact .inr (by simpa using h)
      have htk : Hid ((l.take (j + 1)).map (mantV E) = (l.take j).map (mantV E) ++ [mantV E l[j]]) := by rw [Hid, List.take_succ_eq_append_getElem hlt, List.map_append]; rfl
      have hml : ((l.take j).map (mantV E)).length ≤ 1000 := by rw [List.length_map, List.length_take]; omega
      generalize l[j] = a at hcell hoka hmem hsn htk
      have hallH := Lib.hid hall
      clear hall
      generalize (l.take j).map (mantV E) = xs at hown htk hml
      obtain ⟨x1, x2, x3⟩ := hcell
      have hM := mantissa_any a E wr hoka hEi
      unfold vv at hM
      have hB := hbel.size
      go_wp2_with fail
      refine hM.mono ?_
      rintro r w2 ⟨m, bb, rfl, ht, hmv, hb2⟩
      have hb02 := hbel.trans (hb2.mono hB)
      have hown2 := owns_from hown hb2
      clear hM x1 x2 x3 hb2 hown
      cases bb with
      | false =>
        have hno : ¬ Good E a := fun h => by have := ht.2 h; cases this
        clear ht hmv
        go_wp2_with fail
        go_ret2
        exact ⟨.slice none 0 0, false, rfl, ⟨fun h => (by cases h), fun h => absurd (HE.out ▸ h a hmem.out) hno⟩, fun h => (by cases h), hb02⟩
      | true =>
        have hg := Lib.hid (ht.1 rfl)
        have hmm := Lib.hid (hmv rfl)
        clear ht hmv
        have hB2 := hb02.size
        go_wp2_with (at_builtin; refine wpList_push rfl (.tmp 28) (.tmp 30) 24 rfl w1.heap.size 2 i0 _ 8 Tryd.underlying24 hi hz0 hz1 hz2 rfl vi64 xs m _ _ rfl rfl rfl hown2 rfl (by simp only [maxLen]; omega) (by omega) hB2 ?_; intro v' w' hown' hb' _)
        go_roundw
        case rel => exact ⟨j + 1, hlt, by go_num, fun c hc => (hsn.out c hc).elim (hallH.out c) (fun h => h ▸ hg.out), own_as hown' (by rw [htk.out, hmm.out]), hb02.trans hb'⟩
        case measure => simp [intOf]; omega
    · have hjl : j = l.length := by omega
      subst hjl
      rw [List.take_length] at hall hown
      have hallH := Lib.hid hall
      clear hall
      go_wp2_with fail
      go_ret2
      exact ⟨_, true, rfl, ⟨fun _ a ha => by rw [HE.out]; exact hallH.out a ha, fun _ => rfl⟩, fun _ => own_as hown (by rw [mantL, HE.out]), hbel⟩

def RPRel (l : List V3) (w : World) (n : Value) (wr : World) : Prop :=
  ∃ j : Nat, j ≤ l.length ∧ n = .int .i64 (j : Int) ∧ (∀ k, j < k → k ≤ l.length → ¬ PackN l k) ∧ Below w.heap.size w wr
theorem packN_good {l : List V3} {k : Nat} : PackN l k ↔ ∀ a ∈ l.take k, Good (leastS (l.take k)).1 a := Iff.rfl

set_option maxRecDepth 100000 in
set_option maxHeartbeats 2000000 in
theorem refPack_any (v : Value) (l : List V3) (w : World) (hok : ∀ a ∈ l, OkV a) (hlen : l.length ≤ 1000) (hr : ReadsV w v l) :
    Calls Tryd.prog 11 #[v] w (PackEnd l w) := by
  obtain ⟨ad, cap, rfl⟩ := hr.slice
  obtain ⟨hc1, hc2⟩ := hr.len_cap
  simp only [maxLen] at hc2
  go_enter Tryd.func11, Tryd.ntmps11
  go_wp2_with fail
  go_loopw [5] (fun n wr => RPRel l w n wr) (fun n _ => (intOf n).toNat)
  case atStart => exact ⟨l.length, Nat.le_refl _, rfl, fun k h1 h2 => absurd h1 (by omega), Below.refl _ _⟩
  case round =>
    obtain ⟨j, hj, rfl, hnone, hbel⟩ := hrel
    have hnoneH := Lib.hid hnone
    clear hnone
    by_cases hpos : 0 < j
    · have hrj := hr.head j hj
      have htl : (l.take j).length = j := by rw [List.length_take]; omega
      have hokj : ∀ a ∈ l.take j, OkV a := fun a ha => hok a (List.mem_of_mem_take ha)
      have hO := one_any (.slice ad j cap) (l.take j) wr hokj (by omega) (hrj.below hbel (Nat.le_refl _))
      have hL := fun W (hW : Below w.heap.size w W) => Least_any (.slice ad j cap) (l.take j) W (by omega) (hrj.below hW (Nat.le_refl _))
      clear hokj
      go_wp2_with fail
      refine hO.mono ?_
      rintro r w2 ⟨v2, b, rfl, ht, hown, hb2⟩
      have hb02 := hbel.trans (hb2.mono hbel.size)
      have hBs := hbel.size
      clear hO
      cases b with
      | true =>
        have hp : PackN l j := ht.1 rfl
        have hownH := hown rfl
        rw [mantL_length, htl] at hownH
        have hpi := Lib.hid (show PackIs l j from ⟨hj, hp, fun h => hnoneH.out (j + 1) (by omega) (by omega)⟩)
        have hL2 := hL w2 hb02
        clear ht hown hp hL
        go_wp2_with fail
        refine hL2.mono ?_
        rintro r w3 ⟨rfl, rfl⟩
        clear hL2
        go_wp2_with fail
        go_ret3
        exact ⟨j, v2, hpi.out, rfl, owns_mono hownH hBs, hb02⟩
      | false =>
        have hno : Hid (¬ PackN l j) := Lib.hid fun h => by have := ht.2 h; cases this
        clear ht hown hL
        go_wp2_with fail
        go_roundw
        case rel =>
          refine ⟨j - 1, by omega, by go_num, fun k h1 h2 => ?_, hb02⟩
          by_cases hkj : k = j
          · subst hkj; exact hno.out
          · exact hnoneH.out k (by omega) h2
        case measure => simp only [intOf]; omega
    · have hj0 : j = 0 := by omega
      subst hj0
      have hpi : PackIs l 0 := ⟨Nat.zero_le _, fun a ha => by simp at ha, fun h => hnoneH.out 1 (by omega) (by omega)⟩
      have HPI := Lib.hid hpi
      clear hpi
      go_wp2_with fail
      go_ret3
      exact ⟨0, .slice none 0 0, HPI.out, rfl, World.ownsRow_nil _ _ _ _, hbel⟩

set_option maxRecDepth 100000 in
set_option maxHeartbeats 2000000 in
theorem packs_walk (v : Value) (l : List V3) (w : World) (hT : Tens w) (hok : ∀ a ∈ l, OkV a) (hr : ReadsV w v l) :
    Calls Tryd.prog 3 #[v] w (TrueEnd w) := by
  obtain ⟨ad, cap, rfl⟩ := hr.slice
  by_cases hbig : 60 < l.length
  · go_enter Tryd.func3, Tryd.ntmps3
    go_wp2_with fail
    refine (awake_any w hT).mono ?_
    rintro r w1 ⟨rfl, hb1⟩
    go_wp2_with fail
    go_ret
    exact ⟨rfl, hb1⟩
  go_enter Tryd.func3, Tryd.ntmps3
  go_wp2_with fail
  refine (awake_any w hT).mono ?_
  rintro r w1 ⟨rfl, hb1⟩
  go_wp2_with fail
  refine (Pack_any _ l w1 (hT.below hb1 (Nat.le_refl _)) hok (by omega) (hr.below hb1 (Nat.le_refl _))).mono ?_
  rintro r w2 ⟨k, v2, hk, rfl, hown2, hb2⟩
  have hb02 := hb1.trans (hb2.mono hb1.size)
  have hQ := refPack_any _ l w2 hok (by omega) (hr.below hb02 (Nat.le_refl _))
  have hkl := hk.1
  have hml : (mantL (l.take k)).length = k := by rw [mantL_length, List.length_take]; omega
  have hr2 : Reads w2 vi64 v2 (mantL (l.take k)) := Reads.of_owns (by rw [hml]; exact hown2)
  have HK := Lib.hid hk
  clear hown2 hb2 hb1 hk
  go_wp2_with fail
  refine hQ.mono ?_
  rintro r w3 ⟨k', v3, hk', rfl, hown3, hb3⟩
  obtain rfl := hk'.unique HK.out
  have hb03 := hb02.trans (hb3.mono hb02.size)
  have hr3 : Reads w3 vi64 v3 (mantL (l.take k')) := Reads.of_owns (by rw [hml]; exact hown3)
  have hS := Same_true v2 v3 _ w3 (hr2.below hb3 (Nat.le_refl _)) hr3
  clear hQ hown3 hb3 hb02 hr2 hr3 hk'
  generalize (leastS (l.take k')).1 = E
  go_wp2_with fail
  refine hS.mono ?_
  rintro r w4 ⟨rfl, m, rfl⟩
  have hb04 := Below.drewN hb03 m
  clear hS
  go_wp2_with fail
  go_ret
  exact ⟨rfl, hb04⟩
end Go.Proofs.YtbpillbhkkjlbaaDoor
