/- codec: the methods that make a row's numbers by each kind: alike, even. -/
import Derived.Test.YtgegbfhjophdfaaCa
import Derived.Test.YtgegbfhjophdfaaKb
import Derived.Deep.RegionWith
import Derived.WalkSpells
namespace Go.Proofs.Ytgegbfhjophdfaa
open Go Go.RowKit

/-- WHAT A METHOD OF A ROW HANDS BACK: numbers that read as a list, and whether the kind may be. -/
def KindEnd (r : Option (List Int)) (w : World) (e : Ending) (w' : World) : Prop :=
  ∃ v', e = .returned (.tuple #[v', .bool r.isSome]) ∧ Reads w' vi64 v' (r.getD []) ∧ Below w.heap.size w w'

theorem reads_built {p : Nat} (w : World) (cs : Array Value) (e : TypeId) (n : Nat) {α : Type} (mk : α → Value) (xs : List α) (hcs : cs = (xs.map mk).toArray) (hn : xs.length = n) (hm : n ≤ maxLen) (hp : p = w.heap.size) :
    Reads (w.alloc (.cells cs e)) mk (.slice (some ⟨p, 0, none⟩) n n) xs := by
  subst hp
  exact Reads.built w cs e n mk xs hcs hn hm

/-- Are all numbers of a row alike? -/
def AlikeL (l : List Int) : Prop := FlatB (fun i => l.getD i 0) 0 l.length

open Classical in
noncomputable def kind0 (l : List Int) : Option (List Int) := if 1 ≤ l.length ∧ AlikeL l then some (l.take 1) else none
open Classical in
noncomputable def kind1 (l : List Int) : Option (List Int) := if 2 ≤ l.length ∧ FlatB (df l) 1 l.length then some [l.getD 0 0, df l 1] else none

set_option maxRecDepth 100000 in
set_option maxHeartbeats 1000000 in
theorem alike_any (v : Value) (l : List Int) (w : World) (hr : Reads w vi64 v l) :
    Calls Try.prog 19 #[v] w (KindEnd (kind0 l) w) := by
  have hb0 : Below w.heap.size w (w.alloc (.cells #[v] 41)) := (Below.refl _ _).alloc (Nat.le_refl _) _
  have hr0 := hr.below hb0 (Nat.le_refl _)
  have hp0 : (w.alloc (.cells #[v] 41)).cell? ⟨w.heap.size, 0, none⟩ = some v := World.cell?_alloc_at _ _ _ _ rfl
  have hmf : ∀ (fn : Fn) (first cap : Array Value) (w : World), (Instr.makeFunc fn first cap).run Try.prog w = .ok (.func fn first cap) w := fun _ _ _ _ => rfl
  have htell : Tells (w.alloc (.cells #[v] 41)) 32 (.pointer (some ⟨w.heap.size, 0, none⟩)) (fun i => l.getD i 0) 0 l.length := by
    intro i m h1 h2
    refine (tell_any _ _ v l i (by simp [hp0]) (hr0.drewN m) h2).mono ?_
    rintro e w' ⟨rfl, rfl⟩
    exact ⟨rfl, m, rfl⟩
  have hlenI : l.length ≤ 9223372036854775807 := by have := hr.len_le; simp only [maxLen] at this; omega
  by_cases hl : 1 ≤ l.length
  · obtain ⟨b, off, cap, rfl, h1, h2, h3, h4⟩ : ∃ b off cap, v = .slice (some ⟨b, off, none⟩) l.length cap ∧ l.length ≤ cap ∧ cap ≤ maxLen ∧ b < w.heap.size ∧
        ∀ i (h : i < l.length), w.cell? ⟨b, off + i, none⟩ = some (vi64 l[i]) := by
      rcases hr with ⟨rfl, _⟩ | h
      · simp at hl
      · exact h
    go_enter Try.func19, Try.ntmps19
    go_wp2_with fail
    refine (flat_any _ _ _ _ 0 l.length (Nat.zero_le _) hlenI (fun _ _ => rfl) htell).mono ?_
    rintro e w1 ⟨⟨t, rfl, ht⟩, m, rfl⟩
    cases t with
    | false =>
      go_wp2_with fail
      go_ret2
      have hk : kind0 l = none := if_neg (fun h => by simpa using ht.2 h.2)
      rw [hk]
      exact ⟨_, rfl, Reads.nil _ _, Below.drewN hb0 m⟩
    | true =>
      have hF : Hid (AlikeL l) := ht.1 rfl
      clear ht
      have hc1 : ¬ (cap : Int) < 1 := by omega
      go_wp2_with fail
      go_ret2
      have hk : kind0 l = some (l.take 1) := if_pos ⟨hl, hF.out⟩
      rw [hk]
      exact ⟨.slice (some ⟨b, off, none⟩) 1 cap, rfl, (hr0.head 1 hl).drewN m, Below.drewN hb0 m⟩
  · obtain ⟨ad, cap, rfl⟩ := hr.slice
    go_enter Try.func19, Try.ntmps19
    go_wp2_with fail
    go_ret2
    have hk : kind0 l = none := if_neg (fun h => hl h.1)
    rw [hk]
    exact ⟨_, rfl, Reads.nil _ _, hb0⟩

set_option maxRecDepth 100000 in
theorem diffs_any (ad : Option Addr) (n c : Nat) (w : World) :
    Calls Try.prog 33 #[.slice ad n c] w fun e w' => e = .returned (.func (.func 40) #[] #[.pointer (some ⟨w.heap.size, 0, none⟩)]) ∧ w' = w.alloc (.cells #[.slice ad n c] 41) := by
  have hmf : ∀ (fn : Fn) (first cap : Array Value) (w : World), (Instr.makeFunc fn first cap).run Try.prog w = .ok (.func fn first cap) w := fun _ _ _ _ => rfl
  go_enter Try.func33, Try.ntmps33
  go_wp2_with fail
  go_ret
  exact ⟨rfl, rfl⟩

set_option maxRecDepth 100000 in
set_option maxHeartbeats 1000000 in
theorem even_any (v : Value) (l : List Int) (w : World) (hr : Reads w vi64 v l) :
    Calls Try.prog 20 #[v] w (KindEnd (kind1 l) w) := by
  have hb0 : Below w.heap.size w (w.alloc (.cells #[v] 41)) := (Below.refl _ _).alloc (Nat.le_refl _) _
  have hr0 := hr.below hb0 (Nat.le_refl _)
  have hp0 : (w.alloc (.cells #[v] 41)).cell? ⟨w.heap.size, 0, none⟩ = some v := World.cell?_alloc_at _ _ _ _ rfl
  have htell : Tells (w.alloc (.cells #[v] 41)) 40 (.pointer (some ⟨w.heap.size, 0, none⟩)) (df l) 1 l.length := by
    intro i m h1 h2
    refine (diff_any _ _ v l i (by simp [hp0]) (hr0.drewN m) h1 h2).mono ?_
    rintro e w' ⟨rfl, n, rfl⟩
    exact ⟨rfl, m + n, by simp⟩
  have hlenI : l.length ≤ 9223372036854775807 := by have := hr.len_le; simp only [maxLen] at this; omega
  by_cases hl : 2 ≤ l.length
  · obtain ⟨b, off, cap, rfl, h1, h2, h3, h4⟩ : ∃ b off cap, v = .slice (some ⟨b, off, none⟩) l.length cap ∧ l.length ≤ cap ∧ cap ≤ maxLen ∧ b < w.heap.size ∧
        ∀ i (h : i < l.length), w.cell? ⟨b, off + i, none⟩ = some (vi64 l[i]) := by
      rcases hr with ⟨rfl, _⟩ | h
      · simp at hl
      · exact h
    have hcell : (w.alloc (.cells #[.slice (some ⟨b, off, none⟩) l.length cap] 41)).cell? ⟨b, off, none⟩ = some (.int .i64 (l.getD 0 0)) := by
      rw [hb0.cell (p := ⟨b, off, none⟩) h3]
      have := h4 0 (by omega)
      rw [Nat.add_zero] at this
      rw [this]
      simp [show 0 < l.length by omega, vi64]
    obtain ⟨z, hz⟩ : ∃ z, l.getD 0 0 = z := ⟨_, rfl⟩
    rw [hz] at hcell
    have HZ := Lib.hid hz
    clear hz
    go_enter Try.func20, Try.ntmps20
    go_wp2_with fail
    refine (diffs_any _ _ _ w).mono ?_
    rintro e w1 ⟨rfl, rfl⟩
    go_wp2_with fail
    refine (flat_any _ _ _ _ 1 l.length (by omega) hlenI (fun _ _ => rfl) htell).mono ?_
    rintro e w1 ⟨⟨t, rfl, ht⟩, m, rfl⟩
    cases t with
    | false =>
      have hF : Hid (¬ FlatB (df l) 1 l.length) := fun h => by simpa using ht.2 h
      clear ht
      go_wp2_with fail
      go_ret2
      have hk : kind1 l = none := if_neg (fun h => hF h.2)
      rw [hk]
      exact ⟨_, rfl, Reads.nil _ _, Below.drewN hb0 m⟩
    | true =>
      have hF : Hid (FlatB (df l) 1 l.length) := ht.1 rfl
      clear ht
      go_wp2_with fail
      go_region_with (go_at_call 40; refine (diff_any _ _ _ l 1 (by simp [hp0]) ((hr0.drewN m).drew) (Nat.le_refl _) hl).mono ?_; rintro e w1 ⟨rfl, m2, rfl⟩)
      all_goals
        go_wp2_with fail
        go_ret2
        rw [show kind1 l = some [z, df l 1] by rw [kind1, if_pos ⟨hl, hF.out⟩, HZ.out]]
        exact ⟨_, rfl, reads_built _ _ _ 2 vi64 [z, df l 1] rfl rfl (by simp [maxLen]) (by simp), (Below.drewN hb0 _).alloc (by simp) _⟩
  · obtain ⟨ad, cap, rfl⟩ := hr.slice
    go_enter Try.func20, Try.ntmps20
    go_wp2_with fail
    refine (diffs_any _ _ _ w).mono ?_
    rintro e w1 ⟨rfl, rfl⟩
    go_wp2_with fail
    go_ret2
    have hk : kind1 l = none := if_neg (fun h => hl h.1)
    rw [hk]
    exact ⟨_, rfl, Reads.nil _ _, hb0⟩

end Go.Proofs.Ytgegbfhjophdfaa
