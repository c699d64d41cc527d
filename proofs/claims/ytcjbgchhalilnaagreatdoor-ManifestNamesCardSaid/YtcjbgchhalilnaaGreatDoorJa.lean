/- The reference's put, of texts and of numbers: plain laws and the walks. Printed by man_put.py. -/
import Derived.Test.YtcjbgchhalilnaaGreatDoorEj
import Derived.Test.YtcjbgchhalilnaaGreatDoorGa
namespace Go.Proofs.YtcjbgchhalilnaaGreatDoor
open Go Go.RowKit Go.Lib
set_option linter.unusedVariables false

theorem place_le {α : Type} [DecidableEq α] (le : α → α → Bool) (s : α) (l : List α) : placeS le s l ≤ l.length := by
  unfold placeS
  exact (List.takeWhile_sublist _).length_le
theorem place_step {α : Type} [DecidableEq α] {le : α → α → Bool} {s : α} : ∀ (l : List α) (j : Nat), j ≤ placeS le s l → (h : j < l.length) → ((le l[j] s = true ∧ l[j] ≠ s) → j + 1 ≤ placeS le s l) ∧ (¬ (le l[j] s = true ∧ l[j] ≠ s) → placeS le s l = j)
  | [], j, _, h => absurd h (by simp)
  | x :: r, 0, _, h => by
    unfold placeS
    refine ⟨fun h1 => ?_, fun h1 => ?_⟩
    · rw [List.takeWhile_cons_of_pos (by simpa using h1)]; simp
    · rw [List.takeWhile_cons_of_neg (by simpa using h1)]; rfl
  | x :: r, j + 1, hj, h => by
    have hx : le x s = true ∧ x ≠ s := by
      refine Decidable.byContradiction fun hn => ?_
      unfold placeS at hj
      rw [List.takeWhile_cons_of_neg (by simpa using hn)] at hj
      simp at hj
    have hp : placeS le s (x :: r) = placeS le s r + 1 := by unfold placeS; rw [List.takeWhile_cons_of_pos (by simpa using hx)]; rfl
    rw [hp] at hj ⊢
    have h' : j < r.length := by simpa using h
    obtain ⟨i1, i2⟩ := place_step (le := le) (s := s) r j (by omega) h'
    refine ⟨fun h1 => ?_, fun h1 => ?_⟩
    · have := i1 (by simpa using h1); omega
    · have := i2 (by simpa using h1); omega
theorem putS_length {α : Type} [DecidableEq α] (le : α → α → Bool) (s : α) (l : List α) : (putS le s l).length ≤ l.length + 1 := by
  rw [putS_place]
  split
  · omega
  · have := place_le le s l
    simp only [List.length_append, List.length_take, List.length_cons, List.length_drop]
    omega
theorem putAllS_snoc {α : Type} [DecidableEq α] (le : α → α → Bool) (l : List α) (x : α) (acc : List α) : putAllS le (l ++ [x]) acc = putS le x (putAllS le l acc) := by
  unfold putAllS
  rw [List.foldl_append]
  rfl
theorem putAllS_length {α : Type} [DecidableEq α] (le : α → α → Bool) : ∀ (l acc : List α), (putAllS le l acc).length ≤ l.length + acc.length
  | [], acc => by simp [putAllS]
  | x :: r, acc => by
    have h1 := putAllS_length le r (putS le x acc)
    have h2 := putS_length le x acc
    have h3 : putAllS le (x :: r) acc = putAllS le r (putS le x acc) := rfl
    rw [h3, List.length_cons]
    omega
def leS (x y : List UInt8) : Bool := decide (x ≤ y)
def leI (x y : Int) : Bool := decide (x ≤ y)
theorem leS_less (x y : List UInt8) : (leS x y = true ∧ x ≠ y) ↔ Op.bytesLess x y = true := by
  rw [bytesLess_eq, decide_eq_true_eq]
  unfold leS
  rw [decide_eq_true_eq]
  constructor
  · rintro ⟨h1, h2⟩
    exact Decidable.byContradiction fun h => h2 (List.le_antisymm h1 (List.not_lt.1 h))
  · intro h
    exact ⟨List.le_of_lt h, fun e => by subst e; exact List.lt_irrefl _ h⟩
theorem cell_one (t : TypeId) (h : t = 9 ∨ t = 3) (W : World) : (sizeOf t).run Tryz.prog W = .ok 1 W := by
  rcases h with rfl | rfl <;> kernel_rfl

def PutSRel (l : List (List UInt8)) (s : List UInt8) (n0 : Nat) (w : World) (i : Value) (wr : World) : Prop :=
  ∃ j : Nat, j ≤ placeS leS s l ∧ i = .int .i64 (j : Int) ∧ wr = w
set_option maxRecDepth 100000 in
set_option maxHeartbeats 2000000 in
theorem refPutS_any (v : Value) (l : List (List UInt8)) (s : List UInt8) (w : World) (hlen : l.length ≤ 100000) (hr : Reads w encStr v l) :
    Calls Tryz.prog 27 #[v, .string ⟨s.toArray⟩] w fun e w' => ∃ v', e = .returned v' ∧ Reads w' encStr v' (putS leS s l) ∧ Below w.heap.size w w' := by
  obtain ⟨i0, hi, hz0, hz1, hz2⟩ := info_partsS info_str
  have hrm := hr
  obtain ⟨ad, cd, rfl⟩ := hr.slice
  obtain ⟨n0, hn0⟩ : ∃ n0, w.heap.size = n0 := ⟨_, rfl⟩
  obtain ⟨hlc, hcm⟩ := hr.len_cap
  have hlen63 : (l.length : Int) ≤ 100000 := by omega
  have hpl := place_le leS s l
  have HP := Lib.hid (putS_place (le := leS) s l)
  go_enter Tryz.func27, Tryz.ntmps27
  go_wp2_with fail
  go_loopw [5] (fun i wr => PutSRel l s n0 w i wr) (fun i _ => l.length - (RowKit.intOf i).toNat)
  case atStart => exact ⟨0, Nat.zero_le _, rfl, rfl⟩
  case round =>
    obtain ⟨j, hj, rfl, rfl⟩ := hrel
    by_cases hlt : j < l.length
    · obtain ⟨b, off, rfl, hc⟩ := hr.elem hlt
      obtain ⟨P1, P2⟩ := place_step (le := leS) (s := s) l j hj hlt
      have HX := Lib.hid (List.getElem?_eq_getElem hlt)
      generalize l[j] = x at hc P1 P2 HX
      have hc' : wr.cell? ⟨b, off + j, none⟩ = some (.string ⟨x.toArray⟩) := hc
      clear hc
      by_cases hs0 : Op.bytesLess x s = true
      · have hs : Op.bytesLess (⟨x.toArray⟩ : ByteArray).toList (⟨s.toArray⟩ : ByteArray).toList = true := by rw [ByteArray.toList_eq, ByteArray.toList_eq]; exact hs0
        have hj1 := P1 ((leS_less x s).2 hs0)
        go_wp2_with fail
        go_roundw
        case rel => exact ⟨j + 1, hj1, by go_num, rfl⟩
        case measure => simp [RowKit.intOf]; omega
      · have hs : Op.bytesLess (⟨x.toArray⟩ : ByteArray).toList (⟨s.toArray⟩ : ByteArray).toList = false := by rw [ByteArray.toList_eq, ByteArray.toList_eq]; simpa using hs0
        have hj1 := P2 (fun h => hs0 ((leS_less x s).1 h))
        by_cases hxs : x = s
        · subst hxs
          rw [hj1, HX.out, if_pos rfl] at HP
          
          go_wp2_with fail
          go_ret
          exact ⟨_, rfl, by rw [HP.out]; exact hrm, by first | exact Below.refl _ _ | (rw [hn0]; exact Below.refl _ _)⟩
        · have hxe : (x == s) = false := by simpa using hxs
          have hsome : ¬ (some x = some s) := fun e => hxs (Option.some.inj e)
          rw [hj1, HX.out, if_neg hsome] at HP
          have hjc : (j : Int) ≤ cd := by omega
          have hrh := hrm.head j (by omega)
          obtain ⟨vt, hsl, hrt⟩ := slice_tail (P := Tryz.prog) (k := j) Tryz.underlying22 (cell_one 9 (by decide)) hrm (by omega)
          have ht1 : (l.take j).length ≤ 100000 := by rw [List.length_take]; omega
          have ht2 : (l.drop j).length ≤ 100000 := by rw [List.length_drop]; omega
          go_wp2_with (first
            | (at_builtin; refine wpList_extend rfl (.tmp 34) (.tmp 37) 22 rfl n0 9 i0 _ 16 Tryz.underlying22 hi hz0 hz1 hz2 rfl encStr [] (l.take j) _ _ (fun _ => rfl) rfl (World.ownsRow_nil _ _ _ _) rfl hrh (by simp only [maxLen, List.length_nil] <;> omega) (by simp only [List.length_nil] <;> omega) (by omega) ?_; intro v1 w1 own1 hb1 _; rw [List.nil_append] at own1)
            | (at_builtin; refine wpList_push rfl (.tmp 39) (.tmp 41) 22 rfl n0 9 i0 _ 16 Tryz.underlying22 hi hz0 hz1 hz2 rfl encStr (l.take j) s _ _ rfl rfl rfl own1 rfl (by simp only [maxLen] <;> omega) (by omega) (by have := hb1.size; omega) ?_; intro v2 w2 own2 hb2 _; have ht3 : (l.take j ++ [s]).length ≤ 100001 := (by rw [List.length_append, List.length_singleton] <;> omega); have hs1 := hb1.size)
            | (at_builtin; refine wpList_extend rfl (.tmp 43) (.tmp 46) 22 rfl n0 9 i0 _ 16 Tryz.underlying22 hi hz0 hz1 hz2 rfl encStr (l.take j ++ [s]) (l.drop j) _ _ (fun _ => rfl) rfl own2 rfl (hrt.below (hb1.trans hb2) (by omega)) (by simp only [maxLen] <;> omega) (by omega) (by have := hb2.size; omega) ?_; intro v3 w3 own3 hb3 _))
          go_ret
          refine ⟨_, rfl, ?_, ?_⟩
          · rw [HP.out]
            have := Reads.of_owns own3
            rwa [List.append_assoc, List.singleton_append] at this
          · first | exact (hb1.trans hb2).trans hb3 | (rw [hn0]; exact (hb1.trans hb2).trans hb3)
    · have hj1 : placeS leS s l = l.length := by omega
      have hjl : j = l.length := by omega
      subst hjl
      have hnone : ¬ (l[l.length]? = some s) := by simp
      rw [hj1, if_neg hnone] at HP
      have hjc : (l.length : Int) ≤ cd := by omega
      have hrh := hrm.head l.length (by omega)
      obtain ⟨vt, hsl, hrt⟩ := slice_tail (P := Tryz.prog) (k := l.length) Tryz.underlying22 (cell_one 9 (by decide)) hrm (by omega)
      have ht1 : (l.take l.length).length ≤ 100000 := by rw [List.length_take]; omega
      have ht2 : (l.drop l.length).length ≤ 100000 := by rw [List.length_drop]; omega
      go_wp2_with (first
        | (at_builtin; refine wpList_extend rfl (.tmp 34) (.tmp 37) 22 rfl n0 9 i0 _ 16 Tryz.underlying22 hi hz0 hz1 hz2 rfl encStr [] (l.take l.length) _ _ (fun _ => rfl) rfl (World.ownsRow_nil _ _ _ _) rfl hrh (by simp only [maxLen, List.length_nil] <;> omega) (by simp only [List.length_nil] <;> omega) (by omega) ?_; intro v1 w1 own1 hb1 _; rw [List.nil_append] at own1)
        | (at_builtin; refine wpList_push rfl (.tmp 39) (.tmp 41) 22 rfl n0 9 i0 _ 16 Tryz.underlying22 hi hz0 hz1 hz2 rfl encStr (l.take l.length) s _ _ rfl rfl rfl own1 rfl (by simp only [maxLen] <;> omega) (by omega) (by have := hb1.size; omega) ?_; intro v2 w2 own2 hb2 _; have ht3 : (l.take l.length ++ [s]).length ≤ 100001 := (by rw [List.length_append, List.length_singleton] <;> omega); have hs1 := hb1.size)
        | (at_builtin; refine wpList_extend rfl (.tmp 43) (.tmp 46) 22 rfl n0 9 i0 _ 16 Tryz.underlying22 hi hz0 hz1 hz2 rfl encStr (l.take l.length ++ [s]) (l.drop l.length) _ _ (fun _ => rfl) rfl own2 rfl (hrt.below (hb1.trans hb2) (by omega)) (by simp only [maxLen] <;> omega) (by omega) (by have := hb2.size; omega) ?_; intro v3 w3 own3 hb3 _))
      go_ret
      refine ⟨_, rfl, ?_, ?_⟩
      · rw [HP.out]
        have := Reads.of_owns own3
        rwa [List.append_assoc, List.singleton_append] at this
      · first | exact (hb1.trans hb2).trans hb3 | (rw [hn0]; exact (hb1.trans hb2).trans hb3)

def PutIRel (l : List (Int)) (s : Int) (n0 : Nat) (w : World) (i : Value) (wr : World) : Prop :=
  ∃ j : Nat, j ≤ placeS leI s l ∧ i = .int .i64 (j : Int) ∧ wr = w
set_option maxRecDepth 100000 in
set_option maxHeartbeats 2000000 in
theorem refPutI_any (v : Value) (l : List (Int)) (s : Int) (w : World) (hlen : l.length ≤ 100000) (hr : Reads w (Value.int .i64) v l) :
    Calls Tryz.prog 29 #[v, .int .i64 s] w fun e w' => ∃ v', e = .returned v' ∧ Reads w' (Value.int .i64) v' (putS leI s l) ∧ Below w.heap.size w w' := by
  obtain ⟨i0, hi, hz0, hz1, hz2⟩ := info_partsS info_int
  have hrm := hr
  obtain ⟨ad, cd, rfl⟩ := hr.slice
  obtain ⟨n0, hn0⟩ : ∃ n0, w.heap.size = n0 := ⟨_, rfl⟩
  obtain ⟨hlc, hcm⟩ := hr.len_cap
  have hlen63 : (l.length : Int) ≤ 100000 := by omega
  have hpl := place_le leI s l
  have HP := Lib.hid (putS_place (le := leI) s l)
  go_enter Tryz.func29, Tryz.ntmps29
  go_wp2_with fail
  go_loopw [5] (fun i wr => PutIRel l s n0 w i wr) (fun i _ => l.length - (RowKit.intOf i).toNat)
  case atStart => exact ⟨0, Nat.zero_le _, rfl, rfl⟩
  case round =>
    obtain ⟨j, hj, rfl, rfl⟩ := hrel
    by_cases hlt : j < l.length
    · obtain ⟨b, off, rfl, hc⟩ := hr.elem hlt
      obtain ⟨P1, P2⟩ := place_step (le := leI) (s := s) l j hj hlt
      have HX := Lib.hid (List.getElem?_eq_getElem hlt)
      generalize l[j] = x at hc P1 P2 HX
      by_cases hs0 : x < s
      · have hj1 := P1 (by unfold leI; constructor <;> simp <;> omega)
        go_wp2_with fail
        go_roundw
        case rel => exact ⟨j + 1, hj1, by go_num, rfl⟩
        case measure => simp [RowKit.intOf]; omega
      · have hj1 := P2 (by unfold leI; simp; omega)
        by_cases hxs : x = s
        · subst hxs
          rw [hj1, HX.out, if_pos rfl] at HP
          
          go_wp2_with fail
          go_ret
          exact ⟨_, rfl, by rw [HP.out]; exact hrm, by first | exact Below.refl _ _ | (rw [hn0]; exact Below.refl _ _)⟩
        · 
          have hsome : ¬ (some x = some s) := fun e => hxs (Option.some.inj e)
          rw [hj1, HX.out, if_neg hsome] at HP
          have hjc : (j : Int) ≤ cd := by omega
          have hrh := hrm.head j (by omega)
          obtain ⟨vt, hsl, hrt⟩ := slice_tail (P := Tryz.prog) (k := j) Tryz.underlying38 (cell_one 3 (by decide)) hrm (by omega)
          have ht1 : (l.take j).length ≤ 100000 := by rw [List.length_take]; omega
          have ht2 : (l.drop j).length ≤ 100000 := by rw [List.length_drop]; omega
          go_wp2_with (first
            | (at_builtin; refine wpList_extend rfl (.tmp 34) (.tmp 37) 38 rfl n0 3 i0 _ 8 Tryz.underlying38 hi hz0 hz1 hz2 rfl (Value.int .i64) [] (l.take j) _ _ (fun _ => rfl) rfl (World.ownsRow_nil _ _ _ _) rfl hrh (by simp only [maxLen, List.length_nil] <;> omega) (by simp only [List.length_nil] <;> omega) (by omega) ?_; intro v1 w1 own1 hb1 _; rw [List.nil_append] at own1)
            | (at_builtin; refine wpList_push rfl (.tmp 39) (.tmp 41) 38 rfl n0 3 i0 _ 8 Tryz.underlying38 hi hz0 hz1 hz2 rfl (Value.int .i64) (l.take j) s _ _ rfl rfl rfl own1 rfl (by simp only [maxLen] <;> omega) (by omega) (by have := hb1.size; omega) ?_; intro v2 w2 own2 hb2 _; have ht3 : (l.take j ++ [s]).length ≤ 100001 := (by rw [List.length_append, List.length_singleton] <;> omega); have hs1 := hb1.size)
            | (at_builtin; refine wpList_extend rfl (.tmp 43) (.tmp 46) 38 rfl n0 3 i0 _ 8 Tryz.underlying38 hi hz0 hz1 hz2 rfl (Value.int .i64) (l.take j ++ [s]) (l.drop j) _ _ (fun _ => rfl) rfl own2 rfl (hrt.below (hb1.trans hb2) (by omega)) (by simp only [maxLen] <;> omega) (by omega) (by have := hb2.size; omega) ?_; intro v3 w3 own3 hb3 _))
          go_ret
          refine ⟨_, rfl, ?_, ?_⟩
          · rw [HP.out]
            have := Reads.of_owns own3
            rwa [List.append_assoc, List.singleton_append] at this
          · first | exact (hb1.trans hb2).trans hb3 | (rw [hn0]; exact (hb1.trans hb2).trans hb3)
    · have hj1 : placeS leI s l = l.length := by omega
      have hjl : j = l.length := by omega
      subst hjl
      have hnone : ¬ (l[l.length]? = some s) := by simp
      rw [hj1, if_neg hnone] at HP
      have hjc : (l.length : Int) ≤ cd := by omega
      have hrh := hrm.head l.length (by omega)
      obtain ⟨vt, hsl, hrt⟩ := slice_tail (P := Tryz.prog) (k := l.length) Tryz.underlying38 (cell_one 3 (by decide)) hrm (by omega)
      have ht1 : (l.take l.length).length ≤ 100000 := by rw [List.length_take]; omega
      have ht2 : (l.drop l.length).length ≤ 100000 := by rw [List.length_drop]; omega
      go_wp2_with (first
        | (at_builtin; refine wpList_extend rfl (.tmp 34) (.tmp 37) 38 rfl n0 3 i0 _ 8 Tryz.underlying38 hi hz0 hz1 hz2 rfl (Value.int .i64) [] (l.take l.length) _ _ (fun _ => rfl) rfl (World.ownsRow_nil _ _ _ _) rfl hrh (by simp only [maxLen, List.length_nil] <;> omega) (by simp only [List.length_nil] <;> omega) (by omega) ?_; intro v1 w1 own1 hb1 _; rw [List.nil_append] at own1)
        | (at_builtin; refine wpList_push rfl (.tmp 39) (.tmp 41) 38 rfl n0 3 i0 _ 8 Tryz.underlying38 hi hz0 hz1 hz2 rfl (Value.int .i64) (l.take l.length) s _ _ rfl rfl rfl own1 rfl (by simp only [maxLen] <;> omega) (by omega) (by have := hb1.size; omega) ?_; intro v2 w2 own2 hb2 _; have ht3 : (l.take l.length ++ [s]).length ≤ 100001 := (by rw [List.length_append, List.length_singleton] <;> omega); have hs1 := hb1.size)
        | (at_builtin; refine wpList_extend rfl (.tmp 43) (.tmp 46) 38 rfl n0 3 i0 _ 8 Tryz.underlying38 hi hz0 hz1 hz2 rfl (Value.int .i64) (l.take l.length ++ [s]) (l.drop l.length) _ _ (fun _ => rfl) rfl own2 rfl (hrt.below (hb1.trans hb2) (by omega)) (by simp only [maxLen] <;> omega) (by omega) (by have := hb2.size; omega) ?_; intro v3 w3 own3 hb3 _))
      go_ret
      refine ⟨_, rfl, ?_, ?_⟩
      · rw [HP.out]
        have := Reads.of_owns own3
        rwa [List.append_assoc, List.singleton_append] at this
      · first | exact (hb1.trans hb2).trans hb3 | (rw [hn0]; exact (hb1.trans hb2).trans hb3)
end Go.Proofs.YtcjbgchhalilnaaGreatDoor
