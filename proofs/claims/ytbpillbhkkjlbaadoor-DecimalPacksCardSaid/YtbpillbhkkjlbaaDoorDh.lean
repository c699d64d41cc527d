/- The reference's Same over equal rows of numbers and of values; the law's own example (awake). -/
import Derived.Test.YtbpillbhkkjlbaaDoorDg
namespace Go.Proofs.YtbpillbhkkjlbaaDoor
open Go Go.RowKit

theorem ReadsV.len_le {w : World} {v : Value} {xs : List V3} (h : ReadsV w v xs) : xs.length ≤ maxLen := by
  rcases h with ⟨rfl, _⟩ | ⟨b, off, cap, rfl, h1, h2, _⟩
  · exact Nat.zero_le _
  · omega

def SameEnd (w : World) (e : Ending) (w' : World) : Prop := e = .returned (.bool true) ∧ ∃ m, w' = w.drewN m
def SameRel (n : Nat) (w : World) (x : Value) (wr : World) : Prop := ∃ k : Nat, k ≤ n ∧ x = .int .i64 (k : Int) ∧ ∃ m, wr = w.drewN m

theorem CellsAt.drewN {w : World} {b o : Nat} {a : V3} (h : CellsAt w b o a) (n : Nat) : CellsAt (w.drewN n) b o a := h
theorem ReadsV.drewN {w : World} {v : Value} {xs : List V3} (h : ReadsV w v xs) (n : Nat) : ReadsV (w.drewN n) v xs :=
  h.below (Below.drewN (Below.refl w.heap.size w) n) (Nat.le_refl _)

set_option maxRecDepth 100000 in
theorem Same_true (va vb : Value) (xs : List Int) (w : World) (ha : Reads w vi64 va xs) (hb : Reads w vi64 vb xs) :
    Calls Tryd.prog 12 #[va, vb] w (SameEnd w) := by
  have hml := ha.len_le
  simp only [maxLen] at hml
  obtain ⟨aa, ca, rfl⟩ := ha.slice
  obtain ⟨ab, cb, rfl⟩ := hb.slice
  go_enter Tryd.func12, Tryd.ntmps12
  go_wp2_with fail
  go_loopw [5] (fun x wr => SameRel xs.length w x wr) (fun x _ => xs.length - (intOf x).toNat)
  case atStart => exact ⟨0, Nat.zero_le _, rfl, 0, rfl⟩
  case round =>
    obtain ⟨k, hk, rfl, m, rfl⟩ := hrel
    by_cases hlt : k < xs.length
    · obtain ⟨b1, o1, rfl, h1⟩ := ha.elem hlt
      obtain ⟨b2, o2, rfl, h2⟩ := hb.elem hlt
      generalize xs[k] = x at h1 h2
      have g1 : w.cell? ⟨b1, o1 + k, none⟩ = some (.int .i64 x) := h1
      have g2 : w.cell? ⟨b2, o2 + k, none⟩ = some (.int .i64 x) := h2
      have h3 : (k : Int) < (xs.length : Int) := by omega
      have h0 : (0 : Int) ≤ (k : Int) := by omega
      clear h1 h2
      go_wp2_with fail
      go_quiet (fail)
      go_wp2_with fail
      go_roundw
      case rel => exact ⟨k + 1, by omega, by go_num, m + nq, rfl⟩
      case measure => simp [intOf]; omega
    · go_wp2_with fail
      go_ret
      exact ⟨rfl, m, rfl⟩

set_option maxRecDepth 100000 in
theorem SameV_true (va vb : Value) (xs : List V3) (w : World) (ha : ReadsV w va xs) (hb : ReadsV w vb xs) :
    Calls Tryd.prog 15 #[va, vb] w (SameEnd w) := by
  have hml := ha.len_le
  simp only [maxLen] at hml
  obtain ⟨aa, ca, rfl⟩ := ha.slice
  obtain ⟨ab, cb, rfl⟩ := hb.slice
  go_enter Tryd.func15, Tryd.ntmps15
  go_wp2_with fail
  go_loopw [5] (fun x wr => SameRel xs.length w x wr) (fun x _ => xs.length - (intOf x).toNat)
  case atStart => exact ⟨0, Nat.zero_le _, rfl, 0, rfl⟩
  case round =>
    obtain ⟨k, hk, rfl, m, rfl⟩ := hrel
    by_cases hlt : k < xs.length
    · obtain ⟨b1, o1, rfl, _, h11, h12, h13⟩ := ha.elem hlt
      obtain ⟨b2, o2, rfl, _, h21, h22, h23⟩ := hb.elem hlt
      generalize xs[k] = x at h11 h12 h13 h21 h22 h23
      have h3 : (k : Int) < (xs.length : Int) := by omega
      have h0 : (0 : Int) ≤ (k : Int) := by omega
      go_wp2_with fail
      go_quiet (fail)
      go_wp2_with fail
      go_roundw
      case rel => exact ⟨k + 1, by omega, by go_num, m + nq, rfl⟩
      case measure => simp [intOf]; omega
    · go_wp2_with fail
      go_ret
      exact ⟨rfl, m, rfl⟩

instance (a : V3) (e : Int) : Decidable (FitsV a e) := by unfold FitsV; exact inferInstance
instance (l : List V3) (k : Nat) : Decidable (PackN l k) := by unfold PackN; exact inferInstance
theorem ReadsV.built (w : World) (cs : Array Value) (e : TypeId) (n : Nat) (xs : List V3) (hcs : cs.toList = flatV xs) (hn : xs.length = n) (hm : n ≤ maxLen) :
    ReadsV (w.alloc (.cells cs e)) (.slice (some ⟨w.heap.size, 0, none⟩) n n) xs := by
  subst hn
  have h := World.ownsRow_lit (base := 0) (e := e) (size := 3) w cs xs.length (Nat.zero_le _) hm (by rw [← flatV_length, ← hcs]; simp)
  rw [hcs] at h
  exact ReadsV.of_owns h

def eg1 : List V3 := [⟨15, -1, 0⟩, ⟨2, 0, 0⟩, ⟨0, 0, 4⟩, ⟨0, 0, 0⟩]
def eg2 : List V3 := [⟨1, 20, 0⟩, ⟨1, 0, 0⟩]
theorem eg1_is : PackIs eg1 4 := ⟨by decide, by decide +kernel, fun h => absurd h (by decide)⟩
theorem eg2_is : PackIs eg2 1 := ⟨by decide, by decide +kernel, fun _ => by decide +kernel⟩
theorem eg1_pack (v : Value) (w : World) (hT : Tens w) (hr : ReadsV w v eg1) : Calls Tryd.prog 10 #[v] w fun e w' => ∃ v', e = .returned (.tuple #[v', .int .i64 (-1), .int .i64 4]) ∧ Reads w' vi64 v' [15, 20, -9223372036854775804, 0] ∧ Below w.heap.size w w' := by
  refine (Pack_any v eg1 w hT ?_ (by decide) hr).mono ?_
  · intro a ha
    simp only [eg1, List.mem_cons, List.not_mem_nil, or_false] at ha
    rcases ha with rfl | rfl | rfl | rfl <;> (simp only [OkV, I64]; omega)
  · rintro e w1 ⟨k, v1, hk, rfl, hown, hb⟩
    obtain rfl := hk.unique eg1_is
    exact ⟨v1, rfl, Reads.of_owns (xs := [15, 20, -9223372036854775804, 0]) hown, hb⟩
theorem eg2_pack (v : Value) (w : World) (hT : Tens w) (hr : ReadsV w v eg2) : Calls Tryd.prog 10 #[v] w fun e w' => ∃ v', e = .returned (.tuple #[v', .int .i64 20, .int .i64 1]) ∧ Below w.heap.size w w' := by
  refine (Pack_any v eg2 w hT ?_ (by decide) hr).mono ?_
  · intro a ha
    simp only [eg2, List.mem_cons, List.not_mem_nil, or_false] at ha
    rcases ha with rfl | rfl <;> (simp only [OkV, I64]; omega)
  · rintro e w1 ⟨k, v1, hk, rfl, hown, hb⟩
    obtain rfl := hk.unique eg2_is
    exact ⟨v1, rfl, hb⟩
theorem eg3 : unpack (-1) [15, 20] = some [⟨15, -1, 0⟩, ⟨2, 0, 0⟩] := by kernel_rfl
theorem eg_unpack (v : Value) (w : World) (hT : Tens w) (hr : Reads w vi64 v [15, 20]) : Calls Tryd.prog 13 #[v, .int .i64 (-1)] w fun e w' => ∃ v', e = .returned (.tuple #[v', .int .i64 0]) ∧ ReadsV w' v' [⟨15, -1, 0⟩, ⟨2, 0, 0⟩] ∧ Below w.heap.size w w' := by
  refine (Unpack_any v [15, 20] (-1) w hT ?_ (by simp only [I64]; omega) (by decide) hr).mono ?_
  · intro k hk
    simp only [List.mem_cons, List.not_mem_nil, or_false] at hk
    rcases hk with rfl | rfl <;> (simp only [I64]; omega)
  · rintro e w1 ⟨v1, rfl, hown, hb⟩
    rw [eg3] at hown ⊢
    exact ⟨v1, rfl, ReadsV.of_owns hown, hb⟩

def TrueEnd (w : World) (e : Ending) (w' : World) : Prop := e = .returned (.bool true) ∧ Below w.heap.size w w'

set_option maxRecDepth 100000 in
set_option maxHeartbeats 2000000 in
theorem awake_any (w : World) (hT : Tens w) : Calls Tryd.prog 9 #[] w (TrueEnd w) := by
  have hbz : ∀ (w : World) (cs : Array Value) (t : TypeId), Below w.heap.size w (w.alloc (.cells cs t)) := fun w cs t => (Below.refl _ _).alloc (Nat.le_refl _) _
  have hA := hbz w #[.int .i64 15, .int .i64 (-1), .int .i64 0, .int .i64 2, .int .i64 0, .int .i64 0, .int .i64 0, .int .i64 0, .int .i64 4, .int .i64 0, .int .i64 0, .int .i64 0] 36
  have c1 := eg1_pack _ _ (hT.below hA (Nat.le_refl _)) (ReadsV.built w _ _ 4 eg1 rfl rfl (by simp [maxLen]))
  go_enter Tryd.func9, Tryd.ntmps9
  go_wp2_with fail
  refine c1.mono ?_
  rintro e w1 ⟨v1, rfl, hr1, hb1⟩
  have hb01 := hA.trans (hb1.mono hA.size)
  clear c1 hb1 hA
  have hB := hbz w1 #[.int .i64 15, .int .i64 20] 2
  have c2 := eg_unpack _ _ (hT.below (hb01.trans (hB.mono hb01.size)) (Nat.le_refl _)) (Reads.built w1 _ _ 2 vi64 [15, 20] rfl rfl (by simp [maxLen]))
  go_wp2_with fail
  refine c2.mono ?_
  rintro e w2 ⟨v2, rfl, hr2, hb2⟩
  have hb12 := hB.trans (hb2.mono hB.size)
  have hb02 := hb01.trans (hb12.mono hb01.size)
  have hr12 := hr1.below hb12 (Nat.le_refl _)
  clear c2 hb2 hB hr1 hb12 hb01
  have hC := hbz w2 #[.int .i64 1, .int .i64 20, .int .i64 0, .int .i64 1, .int .i64 0, .int .i64 0] 36
  have c3 := eg2_pack _ _ (hT.below (hb02.trans (hC.mono hb02.size)) (Nat.le_refl _)) (ReadsV.built w2 _ _ 2 eg2 rfl rfl (by simp [maxLen]))
  go_wp2_with fail
  refine c3.mono ?_
  rintro e w3 ⟨v3, rfl, hb3⟩
  have hb23 := hC.trans (hb3.mono hC.size)
  have hb03 := hb02.trans (hb23.mono hb02.size)
  have hr13 := hr12.below hb23 (Nat.le_refl _)
  have hr23 := hr2.below hb23 (Nat.le_refl _)
  clear c3 hb3 hC hr12 hr2 hb23 hb02
  have hD := hbz w3 #[.int .i64 15, .int .i64 20, .int .i64 (-9223372036854775804), .int .i64 0] 2
  have c4 := Same_true v1 _ [15, 20, -9223372036854775804, 0] _ (hr13.below hD (Nat.le_refl _)) (Reads.built w3 _ _ 4 vi64 [15, 20, -9223372036854775804, 0] rfl rfl (by simp [maxLen]))
  go_wp2_with fail
  refine c4.mono ?_
  rintro e w4 ⟨rfl, m, rfl⟩
  have hb04 := hb03.trans (hD.mono hb03.size)
  have hr24 := hr23.below hD (Nat.le_refl _)
  clear c4 hD hr13 hr23 hb03
  generalize hW : w3.alloc (.cells #[.int .i64 15, .int .i64 20, .int .i64 (-9223372036854775804), .int .i64 0] 2) = W at hb04 hr24 ⊢
  clear hW
  have hb05 := Below.drewN hb04 m
  have hr25 := hr24.drewN m
  generalize hW : W.drewN m = W2 at hb05 hr25 ⊢
  clear hW hb04 hr24
  have hE := hbz W2 #[.int .i64 15, .int .i64 (-1), .int .i64 0, .int .i64 2, .int .i64 0, .int .i64 0] 36
  have c5 := SameV_true v2 _ [⟨15, -1, 0⟩, ⟨2, 0, 0⟩] _ (hr25.below hE (Nat.le_refl _)) (ReadsV.built W2 _ _ 2 [⟨15, -1, 0⟩, ⟨2, 0, 0⟩] rfl rfl (by simp [maxLen]))
  go_wp2_with fail
  refine c5.mono ?_
  rintro e w6 ⟨rfl, m2, rfl⟩
  have hb06 := Below.drewN (hb05.trans (hE.mono hb05.size)) m2
  clear c5
  go_wp2_with fail
  go_ret
  exact ⟨rfl, hb06⟩
end Go.Proofs.YtbpillbhkkjlbaaDoor
