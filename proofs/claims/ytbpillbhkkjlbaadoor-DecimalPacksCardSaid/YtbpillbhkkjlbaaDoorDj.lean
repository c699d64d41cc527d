/- DecimalOrders: the plain law and the walk. -/
import Derived.Test.YtbpillbhkkjlbaaDoorDh
namespace Go.Proofs.YtbpillbhkkjlbaaDoor
open Go Go.RowKit

def ordL (a b e : Int) : List V3 := [⟨a, e, 0⟩, ⟨b, e, 0⟩, ⟨0, 0, 1⟩]
theorem ord_zero {a e : Int} (h : RightV ⟨a, e, 0⟩) (h0 : a = 0) : e = 0 := by
  unfold RightV at h
  simp only at h
  omega
theorem ord_least {a b e : Int} (ha : RightV ⟨a, e, 0⟩) (hb : RightV ⟨b, e, 0⟩) : (leastS (ordL a b e)).1 = e := by
  have hk : ¬ NumV ⟨0, 0, 1⟩ := fun h => by cases h.1
  by_cases h0 : a = 0
  · have he := ord_zero ha h0
    have n0 : ¬ NumV ⟨a, e, 0⟩ := fun h => h.2 h0
    by_cases h1 : b = 0
    · have n1 : ¬ NumV ⟨b, e, 0⟩ := fun h => h.2 h1
      subst he
      simp [leastS, ordL, stepS, n0, n1, hk]
    · have n1 : NumV ⟨b, e, 0⟩ := ⟨rfl, h1⟩
      simp [leastS, ordL, stepS, n0, n1, hk]
  · have n0 : NumV ⟨a, e, 0⟩ := ⟨rfl, h0⟩
    by_cases h1 : b = 0
    · have n1 : ¬ NumV ⟨b, e, 0⟩ := fun h => h.2 h1
      simp [leastS, ordL, stepS, n0, n1, hk]
    · have n1 : NumV ⟨b, e, 0⟩ := ⟨rfl, h1⟩
      simp [leastS, ordL, stepS, n0, n1, hk]
theorem fits_self {a : V3} (h : RightV a) (hn : NumV a) : FitsV a a.e := by
  obtain ⟨h1, h2, _, _⟩ := h.num hn
  refine ⟨Int.le_refl _, by omega, ?_⟩
  rw [Int.sub_self]
  simp only [Int.toNat_zero, Nat.pow_zero]
  unfold sizeI
  split <;> omega
theorem ord_is {a b e : Int} (ha : RightV ⟨a, e, 0⟩) (hb : RightV ⟨b, e, 0⟩) : PackIs (ordL a b e) 3 := by
  refine ⟨Nat.le_refl _, fun x hx => ?_, fun h => absurd h (Nat.lt_irrefl 3)⟩
  rw [show (ordL a b e).take 3 = ordL a b e from rfl] at hx ⊢
  rw [ord_least ha hb]
  simp only [ordL, List.mem_cons, List.not_mem_nil, or_false] at hx
  rcases hx with rfl | rfl | rfl
  · exact ⟨ha, fun hn => fits_self ha hn⟩
  · exact ⟨hb, fun hn => fits_self hb hn⟩
  · exact ⟨.inl ⟨by decide, by decide, by decide, rfl, rfl⟩, fun hn => by cases hn.1⟩
theorem mant_self (a e : Int) : mantV e ⟨a, e, 0⟩ = a := by
  rw [mantV, if_pos rfl]
  simp only [Int.sub_self, Int.toNat_zero, Nat.pow_zero]
  split
  · simp_all
  · simp
theorem ord_mant {a b e : Int} (ha : RightV ⟨a, e, 0⟩) (hb : RightV ⟨b, e, 0⟩) : mantL (ordL a b e) = [a, b, -9223372036854775807] := by
  rw [mantL, ord_least ha hb]
  show [mantV e ⟨a, e, 0⟩, mantV e ⟨b, e, 0⟩, mantV e ⟨0, 0, 1⟩] = _
  rw [mant_self, mant_self]
  rfl

theorem ord_pack (v : Value) (a b e : Int) (w : World) (hT : Tens w) (ha : I64 a) (hb : I64 b) (he : I64 e) (h1 : RightV ⟨a, e, 0⟩) (h2 : RightV ⟨b, e, 0⟩) (hr : ReadsV w v (ordL a b e)) :
    Calls Tryd.prog 10 #[v] w fun r w' => ∃ g cap, r = .returned (.tuple #[.slice (some ⟨g, 0, none⟩) 3 cap, .int .i64 e, .int .i64 3]) ∧ 3 ≤ cap ∧ w'.cell? ⟨g, 0, none⟩ = some (.int .i64 a) ∧ w'.cell? ⟨g, 1, none⟩ = some (.int .i64 b) ∧ w'.cell? ⟨g, 2, none⟩ = some (.int .i64 (-9223372036854775807)) ∧ Below w.heap.size w w' := by
  refine (Pack_any v (ordL a b e) w hT ?_ (by show 3 ≤ 1000; decide) hr).mono ?_
  · intro x hx
    simp only [ordL, List.mem_cons, List.not_mem_nil, or_false] at hx
    have hz : I64 0 := by simp only [I64]; omega
    rcases hx with rfl | rfl | rfl
    · exact ⟨ha, he, hz⟩
    · exact ⟨hb, he, hz⟩
    · exact ⟨hz, hz, by simp only [I64]; omega⟩
  · rintro r w1 ⟨k, v1, hk, rfl, hown, hbl⟩
    obtain rfl := hk.unique (ord_is h1 h2)
    rw [show (ordL a b e).take 3 = ordL a b e from rfl, ord_mant h1 h2] at hown
    rw [show (ordL a b e).take 3 = ordL a b e from rfl, ord_least h1 h2]
    obtain ⟨g, cap, rfl, hc, _⟩ := owns_some hown (by decide)
    exact ⟨g, cap, rfl, hc, hown.cellAt 0 (by decide), hown.cellAt 1 (by decide), hown.cellAt 2 (by decide), hbl⟩

set_option maxRecDepth 100000 in
set_option maxHeartbeats 2000000 in
theorem orders_walk (a b e : Int) (w : World) (hT : Tens w) (ha : I64 a) (hb : I64 b) (he : I64 e) :
    Calls Tryd.prog 8 #[.int .i64 a, .int .i64 b, .int .i64 e] w (TrueEnd w) := by
  have hz : I64 0 := by simp only [I64]; omega
  have hbz : ∀ (w : World) (cs : Array Value) (t : TypeId), Below w.heap.size w (w.alloc (.cells cs t)) := fun w cs t => (Below.refl _ _).alloc (Nat.le_refl _) _
  go_enter Tryd.func8, Tryd.ntmps8
  go_wp2_with fail
  refine (awake_any w hT).mono ?_
  rintro r w1 ⟨rfl, hb1⟩
  go_upto_region 6 with fail
  have hA := hbz w1 #[.int .i64 a, .int .i64 e, .int .i64 0] 36
  have hB := hbz (w1.alloc (.cells #[.int .i64 a, .int .i64 e, .int .i64 0] 36)) #[.int .i64 b, .int .i64 e, .int .i64 0] 36
  have hc1 : CellsAt (w1.alloc (.cells #[.int .i64 a, .int .i64 e, .int .i64 0] 36)) w1.heap.size 0 ⟨a, e, 0⟩ := cells_alloc w1 36 ⟨a, e, 0⟩
  have hs1 : (w1.alloc (.cells #[.int .i64 a, .int .i64 e, .int .i64 0] 36)).heap.size = w1.heap.size + 1 := by simp
  have hc2 : CellsAt ((w1.alloc (.cells #[.int .i64 a, .int .i64 e, .int .i64 0] 36)).alloc (.cells #[.int .i64 b, .int .i64 e, .int .i64 0] 36)) (w1.heap.size + 1) 0 ⟨b, e, 0⟩ := by
    have := cells_alloc (w1.alloc (.cells #[.int .i64 a, .int .i64 e, .int .i64 0] 36)) 36 ⟨b, e, 0⟩
    rw [hs1] at this
    exact this
  have hs2 : ((w1.alloc (.cells #[.int .i64 a, .int .i64 e, .int .i64 0] 36)).alloc (.cells #[.int .i64 b, .int .i64 e, .int .i64 0] 36)).heap.size = w1.heap.size + 2 := by simp
  have hc1' := hc1.below hB (by rw [hs1]; omega)
  have hb2 := hb1.trans ((hA.trans (hB.mono hA.size)).mono hb1.size)
  clear hc1 hA hB
  generalize (w1.alloc (.cells #[.int .i64 a, .int .i64 e, .int .i64 0] 36)).alloc (.cells #[.int .i64 b, .int .i64 e, .int .i64 0] 36) = W at hc1' hc2 hs2 hb2 ⊢
  clear hs1 hb1
  generalize w1.heap.size = p at *
  have hR1 := refRight_any ⟨a, e, 0⟩ W ⟨ha, he, hz⟩
  have hR2 := fun W' => refRight_any ⟨b, e, 0⟩ W' ⟨hb, he, hz⟩
  unfold vv at hR1 hR2
  obtain ⟨x1, x2, x3⟩ := hc1'
  rw [Nat.zero_add] at x2 x3
  obtain ⟨y1, y2, y3⟩ := hc2
  rw [Nat.zero_add] at y2 y3
  have hpW : p < W.heap.size := by omega
  have hpW2 : p + 1 < W.heap.size := by omega
  clear hs2
  go_wp2_with fail
  refine hR1.mono ?_
  rintro r w3 ⟨t, rfl, ht, hb3⟩
  have hb03 := hb2.trans (hb3.mono hb2.size)
  have x1' := (hb3.cell (p := ⟨p, 0, none⟩) hpW).trans x1
  have x2' := (hb3.cell (p := ⟨p, 1, none⟩) hpW).trans x2
  have x3' := (hb3.cell (p := ⟨p, 2, none⟩) hpW).trans x3
  have y1' := (hb3.cell (p := ⟨p + 1, 0, none⟩) hpW2).trans y1
  have y2' := (hb3.cell (p := ⟨p + 1, 1, none⟩) hpW2).trans y2
  have y3' := (hb3.cell (p := ⟨p + 1, 2, none⟩) hpW2).trans y3
  have hpW' := Nat.lt_of_lt_of_le hpW hb3.size
  have hpW2' := Nat.lt_of_lt_of_le hpW2 hb3.size
  clear hR1 x1 x2 x3 y1 y2 y3 hpW hpW2 hb2 hb3
  cases t with
  | false =>
    clear ht
    go_wp2_with fail
    go_ret
    exact ⟨rfl, hb03⟩
  | true =>
    have hr1 := Lib.hid (ht.1 rfl)
    clear ht
    go_wp2_with fail
    refine (hR2 w3).mono ?_
    rintro r w4 ⟨t, rfl, ht, hb4⟩
    have hb04 := hb03.trans (hb4.mono hb03.size)
    have x1 := (hb4.cell (p := ⟨p, 0, none⟩) hpW').trans x1'
    have x2 := (hb4.cell (p := ⟨p, 1, none⟩) hpW').trans x2'
    have x3 := (hb4.cell (p := ⟨p, 2, none⟩) hpW').trans x3'
    have y1 := (hb4.cell (p := ⟨p + 1, 0, none⟩) hpW2').trans y1'
    have y2 := (hb4.cell (p := ⟨p + 1, 1, none⟩) hpW2').trans y2'
    have y3 := (hb4.cell (p := ⟨p + 1, 2, none⟩) hpW2').trans y3'
    clear hR2 x1' x2' x3' y1' y2' y3' hpW' hpW2' hb03 hb4
    cases t with
    | false =>
      clear ht
      go_wp2_with fail
      go_ret
      exact ⟨rfl, hb04⟩
    | true =>
      have hr2 := Lib.hid (ht.1 rfl)
      clear ht
      have hC := hbz w4 #[.int .i64 a, .int .i64 e, .int .i64 0, .int .i64 b, .int .i64 e, .int .i64 0, .int .i64 0, .int .i64 0, .int .i64 1] 36
      have hP := ord_pack _ a b e _ (hT.below (hb04.trans (hC.mono hb04.size)) (Nat.le_refl _)) ha hb he hr1.out hr2.out (ReadsV.built w4 _ _ 3 (ordL a b e) rfl rfl (by simp [maxLen]))
      go_wp2_with fail
      refine hP.mono ?_
      rintro r w5 ⟨g, cap, rfl, hcap, z1, z2, z3, hb5⟩
      have hb05 := hb04.trans ((hC.trans (hb5.mono hC.size)).mono hb04.size)
      clear hP hC hb5 hb04
      by_cases h0 : a = 0
      · have he0 : e = 0 := ord_zero hr1.out h0
        subst h0 he0
        by_cases h1 : b = 0
        · subst h1
          go_wp2_with fail
          go_ret
          exact ⟨rfl, hb05⟩
        · go_wp2_with fail
          go_ret
          exact ⟨rfl, hb05⟩
      · go_wp2_with fail
        go_ret
        exact ⟨rfl, hb05⟩
end Go.Proofs.YtbpillbhkkjlbaaDoor
