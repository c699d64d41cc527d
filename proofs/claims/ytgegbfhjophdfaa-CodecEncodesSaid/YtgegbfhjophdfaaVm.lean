/- varint.TakeAll: its walk. -/
import Derived.Test.YtgegbfhjophdfaaVl
namespace Go.Proofs.Ytgegbfhjophdfaa
open Go Go.RowKit Go.Shelf

attribute [local go_sem] Oper.semAt_some

def TakeAllEnd (n : Nat) (l : List UInt8) (w : World) (e : Ending) (w' : World) : Prop :=
  ∃ v4 v5, e = .returned (.tuple #[v4, v5, .int .i64 ((takeN n l).2.2 : Int)]) ∧ w'.ownsRow w.heap.size 2 1 v4 (takeN n l).1.length ((takeN n l).1.map vi64) ∧
    w'.ownsRow w.heap.size 5 1 v5 (takeN n l).2.1.length ((takeN n l).2.1.map b8) ∧ Below w.heap.size w w'

set_option maxRecDepth 100000 in
set_option maxHeartbeats 2000000 in
theorem TakeAll_zero (v : Value) (l : List UInt8) (w : World) (hl : l.length ≤ 70368744177664) (hr : Reads w b8 v l) :
    Calls Try.prog 30 #[v, .int .i64 0] w (TakeAllEnd 0 l w) := by
  obtain ⟨ad, cap, rfl⟩ := hr.slice
  go_enter Try.func30, Try.ntmps30
  have b2 := Boxed.new ((w.alloc (.cells #[.slice ad l.length cap] 24)).alloc (.cells #[.int .i64 0] 3)) 22 (.slice none 0 0)
  have b3 := Boxed.new (((w.alloc (.cells #[.slice ad l.length cap] 24)).alloc (.cells #[.int .i64 0] 3)).alloc (.cells #[.slice none 0 0] 22)) 24 (.slice none 0 0)
  have b4 := Boxed.new ((((w.alloc (.cells #[.slice ad l.length cap] 24)).alloc (.cells #[.int .i64 0] 3)).alloc (.cells #[.slice none 0 0] 22)).alloc (.cells #[.slice none 0 0] 24)) 30 (.int .i64 0)
  have b2' := (b2.alloc (.cells #[.slice none 0 0] 24)).alloc (.cells #[.int .i64 0] 30)
  have b3' := b3.alloc (.cells #[.int .i64 0] 30)
  simp only [World.size_alloc] at b2' b3' b4
  clear b2 b3
  go_wp2_with fail
  have hB : Below w.heap.size w (((((w.alloc (.cells #[.slice ad l.length cap] 24)).alloc (.cells #[.int .i64 0] 3)).alloc (.cells #[.slice none 0 0] 22)).alloc (.cells #[.slice none 0 0] 24)).alloc (.cells #[.int .i64 0] 30)) :=
    (((((Below.refl _ w).alloc (Nat.le_refl _) _).alloc (by simp) _).alloc (by simp; omega) _).alloc (by simp; omega) _).alloc (by simp; omega) _
  obtain ⟨W0, hW0⟩ : ∃ W0, (((((w.alloc (.cells #[.slice ad l.length cap] 24)).alloc (.cells #[.int .i64 0] 3)).alloc (.cells #[.slice none 0 0] 22)).alloc (.cells #[.slice none 0 0] 24)).alloc (.cells #[.int .i64 0] 30)) = W0 := ⟨_, rfl⟩
  have hsz : W0.heap.size = w.heap.size + 5 := by rw [← hW0]; simp
  rw [hW0] at b2' b3' b4 hB ⊢
  clear hW0
  have HZ := Lib.hid hsz
  clear hsz
  refine (clone_any _ l W0 hl (hr.below hB (Nat.le_refl _))).mono ?_
  rintro e w1 ⟨v1, rfl, hown1, hb1⟩
  have q2 := boxed_below b2' hb1 (by rw [HZ.out]; omega)
  have q3 := boxed_below b3' hb1 (by rw [HZ.out]; omega)
  have q4 := boxed_below b4 hb1 (by rw [HZ.out]; omega)
  obtain ⟨a1, c1, rfl⟩ := owns_slice hown1
  have c2 := q2.cell
  have c3 := q3.cell
  have c4 := q4.cell
  have f2 := q2.frozen
  have f3 := q3.frozen
  have f4 := q4.frozen
  go_wp2_with fail
  refine bodyPost_ret (v := .tuple #[.slice none 0 0, .slice a1 l.length c1, .int .i64 0]) (by simp [results, Try.f30, go_sem, c2, c3, c4]) rfl ⟨_, _, rfl, World.ownsRow_nil _ _ _ _, ?_, ?_⟩
  · refine ownsRow_setCell_below (ownsRow_setCell_below (ownsRow_setCell_below (owns_mono hown1 (Nat.le_refl _)) ?_ _) ?_ _) ?_ _ |> fun h => owns_mono h hB.size
    all_goals (rw [HZ.out]; simp only; omega)
  · exact (((hB.trans (hb1.mono hB.size)).setCell (by simp only; omega) _).setCell (by simp only; omega) _).setCell (by simp only; omega) _

/-- What the last round leaves. -/
theorem fin_ret {l : List UInt8} {n k c3 cp g : Nat} {w W W2 w3 : World} {pre : List (Num l.length)} {zx : Int} {xs : List Int} {a3 : Option Addr} {r4 r5 r6 : Value} (hx : NOk l.length (zx, (k : Int))) (hnn : ∀ p ∈ pre, 0 ≤ p.1.2) (hlen : pre.length < n) (hax0 : 0 ≤ (k : Int))
    (hxs : pre.map (fun p => p.1.1) = xs) (hxl : xs.length = pre.length) (hq : xs.length + 1 = n) (hs2 : w.heap.size + 7 ≤ W2.heap.size) (ko2 : KeepsOthers W W2) (be2 : Below w.heap.size w W2)
    (own2 : W2.ownsRow (w.heap.size + 7) 2 1 (.slice (some ⟨g, 0, none⟩) (xs.length + 1) cp) (xs ++ [zx]).length ((xs ++ [zx]).map vi64)) (hb3 : Below W2.heap.size W2 w3)
    (s2 : Boxed w3 (w.heap.size + 1 + 1) 22 r4) (s3 : Boxed w3 (w.heap.size + 1 + 1 + 1) 24 r5) (s4 : Boxed w3 (w.heap.size + 1 + 1 + 1 + 1) 30 r6)
    (hown3 : w3.ownsRow W2.heap.size 5 1 (.slice a3 (l.drop k).length c3) (l.drop k).length ((l.drop k).map b8)) {B : Nat} :
    KeepsFrom B W (((w3.setCell ⟨w.heap.size + 1 + 1, 0, none⟩ (.slice (some ⟨g, 0, none⟩) (xs.length + 1) cp)).setCell ⟨w.heap.size + 1 + 1 + 1, 0, none⟩ (.slice a3 (l.length - k) c3)).setCell ⟨w.heap.size + 1 + 1 + 1 + 1, 0, none⟩ (.int .i64 0)) ∧
    AllX w.heap.size n l w .ret (pre ++ [⟨(zx, (k : Int)), hx⟩]) (((w3.setCell ⟨w.heap.size + 1 + 1, 0, none⟩ (.slice (some ⟨g, 0, none⟩) (xs.length + 1) cp)).setCell ⟨w.heap.size + 1 + 1 + 1, 0, none⟩ (.slice a3 (l.length - k) c3)).setCell ⟨w.heap.size + 1 + 1 + 1 + 1, 0, none⟩ (.int .i64 0)) := by
  have hpx : (pre ++ [(⟨(zx, (k : Int)), hx⟩ : Num l.length)]).map (fun p => p.1.1) = xs ++ [zx] := by rw [List.map_append, hxs]; rfl
  rw [show (Value.slice a3 (l.drop k).length c3) = .slice a3 (l.length - k) c3 from by rw [List.length_drop]] at hown3
  refine ⟨(((((ko2.trans (keepsOthers_of_below hb3)).trans (KeepsOthers.setCell _ _ _)).trans (KeepsOthers.setCell _ _ _)).trans (KeepsOthers.setCell _ _ _))).from _, rfl, ⟨pre, ⟨(zx, (k : Int)), hx⟩, rfl, hnn, hlen, .inr ⟨hax0, ?_, ?_, ⟨.slice (some ⟨g, 0, none⟩) (xs.length + 1) cp, ?_, ?_⟩, ⟨.slice a3 (l.length - k) c3, ?_, ?_⟩⟩⟩, ?_⟩
  · rw [List.length_append, List.length_singleton, ← hxl, hq]
  · exact (boxed_other (boxed_other s4 (by omega) _) (by omega) _).set _
  · exact boxed_other (boxed_other (s2.set _) (by omega) _) (by omega) _
  · rw [hpx]
    exact ownsRow_setCell_below (ownsRow_setCell_below (ownsRow_setCell_below (owns_below own2 hb3) (by simp only; omega) _) (by simp only; omega) _) (by simp only; omega) _
  · exact boxed_other ((boxed_other s3 (by omega) _).set _) (by omega) _
  · exact ownsRow_setCell_below (ownsRow_setCell_below (ownsRow_setCell_below (owns_mono hown3 hs2) (by simp only; omega) _) (by simp only; omega) _) (by simp only; omega) _
  · exact (((be2.trans (hb3.mono (by omega))).setCell (by simp only; omega) _).setCell (by simp only; omega) _).setCell (by simp only; omega) _

set_option maxRecDepth 100000 in
set_option maxHeartbeats 2000000 in
theorem TakeAll_some (v : Value) (l : List UInt8) (n : Nat) (w : World) (hl : l.length ≤ 70368744177664) (hn1 : 1 ≤ n) (hn : n ≤ 1048576) (hr : Reads w b8 v l) :
    Calls Try.prog 30 #[v, .int .i64 (n : Int)] w (TakeAllEnd n l w) := by
  obtain ⟨ad, cap, rfl⟩ := hr.slice
  have hq : ((n : Int) == 0) = false := by simp; omega
  have hq1 : decide ((n : Int) < 0) = false := by simp
  have hq2 : decide (1048576 < (n : Int)) = false := by simp; omega
  refine (callsIn_wide (n := 5)).1 ?_
  refine callsIn_of_wp_marks Try.func30 rfl trivial ?_ rfl
  simp only [Try.ntmps30, List.size_toArray, List.length_cons, List.length_nil, Nat.reduceAdd, Nat.reduceSub, Array.replicate_succ, Array.replicate_zero, List.push_toArray, List.append_toArray, List.nil_append, List.cons_append]
  have b0 := ((((((Boxed.new w 24 (.slice ad l.length cap)).alloc (.cells #[.int .i64 (n : Int)] 3)).alloc (.cells #[.slice none 0 0] 22)).alloc (.cells #[.slice none 0 0] 24)).alloc (.cells #[.int .i64 0] 30)).alloc (.cells #[.slice none 0 0] 22)).alloc (.cells #[.slice ad l.length cap] 24)
  have b1 := (((((Boxed.new (w.alloc (.cells #[.slice ad l.length cap] 24)) 3 (.int .i64 (n : Int))).alloc (.cells #[.slice none 0 0] 22)).alloc (.cells #[.slice none 0 0] 24)).alloc (.cells #[.int .i64 0] 30)).alloc (.cells #[.slice none 0 0] 22)).alloc (.cells #[.slice ad l.length cap] 24)
  have b2 := ((((Boxed.new ((w.alloc (.cells #[.slice ad l.length cap] 24)).alloc (.cells #[.int .i64 (n : Int)] 3)) 22 (.slice none 0 0)).alloc (.cells #[.slice none 0 0] 24)).alloc (.cells #[.int .i64 0] 30)).alloc (.cells #[.slice none 0 0] 22)).alloc (.cells #[.slice ad l.length cap] 24)
  have b3 := (((Boxed.new (((w.alloc (.cells #[.slice ad l.length cap] 24)).alloc (.cells #[.int .i64 (n : Int)] 3)).alloc (.cells #[.slice none 0 0] 22)) 24 (.slice none 0 0)).alloc (.cells #[.int .i64 0] 30)).alloc (.cells #[.slice none 0 0] 22)).alloc (.cells #[.slice ad l.length cap] 24)
  have b4 := ((Boxed.new ((((w.alloc (.cells #[.slice ad l.length cap] 24)).alloc (.cells #[.int .i64 (n : Int)] 3)).alloc (.cells #[.slice none 0 0] 22)).alloc (.cells #[.slice none 0 0] 24)) 30 (.int .i64 0)).alloc (.cells #[.slice none 0 0] 22)).alloc (.cells #[.slice ad l.length cap] 24)
  have b5 := (Boxed.new (((((w.alloc (.cells #[.slice ad l.length cap] 24)).alloc (.cells #[.int .i64 (n : Int)] 3)).alloc (.cells #[.slice none 0 0] 22)).alloc (.cells #[.slice none 0 0] 24)).alloc (.cells #[.int .i64 0] 30)) 22 (.slice none 0 0)).alloc (.cells #[.slice ad l.length cap] 24)
  have b6 := Boxed.new ((((((w.alloc (.cells #[.slice ad l.length cap] 24)).alloc (.cells #[.int .i64 (n : Int)] 3)).alloc (.cells #[.slice none 0 0] 22)).alloc (.cells #[.slice none 0 0] 24)).alloc (.cells #[.int .i64 0] 30)).alloc (.cells #[.slice none 0 0] 22)) 24 (.slice ad l.length cap)
  simp only [World.size_alloc] at b0 b1 b2 b3 b4 b5 b6
  have hB : Below w.heap.size w (((((((w.alloc (.cells #[.slice ad l.length cap] 24)).alloc (.cells #[.int .i64 (n : Int)] 3)).alloc (.cells #[.slice none 0 0] 22)).alloc (.cells #[.slice none 0 0] 24)).alloc (.cells #[.int .i64 0] 30)).alloc (.cells #[.slice none 0 0] 22)).alloc (.cells #[.slice ad l.length cap] 24)) := (((((((Below.refl _ w).alloc (Nat.le_refl _) _).alloc (by simp) _).alloc (by simp; omega) _).alloc (by simp; omega) _).alloc (by simp; omega) _).alloc (by simp; omega) _).alloc (by simp; omega) _
  gi_wp2_with fail
  refine ⟨trivial, (numbers_in Fence.wide _ trivial rfl ad l.length cap _).mono ?_⟩
  rintro e w' ⟨rfl, rfl⟩
  gi_wp2_with fail
  obtain ⟨W0, hW0⟩ : ∃ W0, (((((((w.alloc (.cells #[.slice ad l.length cap] 24)).alloc (.cells #[.int .i64 (n : Int)] 3)).alloc (.cells #[.slice none 0 0] 22)).alloc (.cells #[.slice none 0 0] 24)).alloc (.cells #[.int .i64 0] 30)).alloc (.cells #[.slice none 0 0] 22)).alloc (.cells #[.slice ad l.length cap] 24)) = W0 := ⟨_, rfl⟩
  have hsz : W0.heap.size = w.heap.size + 7 := by rw [← hW0]; simp
  rw [hW0] at b0 b1 b2 b3 b4 b5 b6 hB ⊢
  clear hW0
  refine wpIn_rangeFunc_ownG rfl (by omega) (gf := 41) (lb := #[.pointer (some ⟨w.heap.size + 1 + 1 + 1 + 1 + 1 + 1, 0, none⟩)]) rfl trivial (enters_of Try.func41 (by kernel_rfl) rfl)
    (numbers_stops _ (by omega) (w.heap.size + 1 + 1 + 1 + 1 + 1 + 1) w.heap.size (.slice ad l.length cap) l hl W0 b6.lt (by omega) b6.cell (fun W' hW' => hr.below (hB.trans hW') (Nat.le_refl _)))
    (fun h k => h.trans k) (keepB_b (by omega) b6.lt) (Below.refl _ _) (fun _ => rfl)
    (AllI w.heap.size n (.slice ad l.length cap) w) (AllX w.heap.size n l w) (ownFrom_mono (AllI.own w.heap.size n _ w rfl _) (by omega)) (fun c => ownFrom_mono (AllX.own w.heap.size n l w rfl c) (by omega))
    ⟨fun _ hp => by simp at hp, by simp; omega, b0, b1, ⟨_, b2⟩, ⟨_, b3⟩, ⟨_, b4⟩, ⟨_, b5, World.ownsRow_nil _ _ _ _⟩, hB, by omega⟩
    (fun x => { tmps := #[.slice ad l.length cap, .int .i64 n, .pointer (some ⟨w.heap.size, 0, none⟩), .pointer (some ⟨w.heap.size + 1, 0, none⟩), .pointer (some ⟨w.heap.size + 1 + 1, 0, none⟩), .pointer (some ⟨w.heap.size + 1 + 1 + 1, 0, none⟩), .pointer (some ⟨w.heap.size + 1 + 1 + 1 + 1, 0, none⟩), .pointer (some ⟨w.heap.size + 1 + 1 + 1 + 1 + 1, 0, none⟩), .int .i64 x.1.1, .int .i64 x.1.2, .int .i64 n, .bool false, .bool false, .int .i64 n, .bool false, .bool false, .int .i64 n, .bool false, undef, undef, .slice ad l.length cap, .func (.func 41) #[] #[.pointer (some ⟨w.heap.size + 1 + 1 + 1 + 1 + 1 + 1, 0, none⟩)], .int .i64 x.1.1, .int .i64 x.1.2, undef, undef, undef, undef, undef, undef, undef, undef, undef, undef, undef, undef, undef, undef, undef, undef, undef], defers := [] }) ?assign ?body ?done ?stop
  case assign =>
    intro l1 x W K hK
    simp only [Num.enc]
    gi_wp2
    exact hK
  case body =>
    rintro l1 pre ⟨⟨zx, ax⟩, hx⟩ W ⟨hnn, hlen, q0, q1, ⟨r4, q2⟩, ⟨r5, q3⟩, ⟨r6, q4⟩, ⟨vo, q5, hrow⟩, hB', hsz'⟩ _
    have c2 := q2.cell
    have c3 := q3.cell
    have c4 := q4.cell
    have c5 := q5.cell
    have c0 := q0.cell
    have c1 := q1.cell
    have f2 := q2.frozen
    have f3 := q3.frozen
    have f4 := q4.frozen
    have f5 := q5.frozen
    simp only
    by_cases hneg : ax < 0
    · have hb1 : -11 ≤ ax := by rcases hx with h | h <;> simp only at h <;> omega
      gi_wp2_with fail
      refine ⟨(((KeepsOthers.setCell _ _ _).trans (KeepsOthers.setCell _ _ _)).trans (KeepsOthers.setCell _ _ _)).from _, rfl, ⟨pre, ⟨(zx, ax), hx⟩, rfl, hnn, hlen, .inl ⟨hneg, ?_, ?_, ?_⟩⟩, ?_⟩
      · exact boxed_other (boxed_other (q2.set _) (by omega) _) (by omega) _
      · exact boxed_other ((boxed_other q3 (by omega) _).set _) (by omega) _
      · exact (boxed_other (boxed_other q4 (by omega) _) (by omega) _).set _
      · exact ((hB'.setCell (by simp only; omega) _).setCell (by simp only; omega) _).setCell (by simp only; omega) _
    · obtain ⟨hax0, hax1, hzx⟩ : 0 ≤ ax ∧ ax ≤ l.length ∧ I64 zx := by
        rcases hx with h | h
        · simp only at h; omega
        · exact h
      obtain ⟨k, rfl⟩ := Int.eq_ofNat_of_zero_le hax0
      obtain ⟨i0, hi, hz0, hz1, hz2⟩ := info_parts info_i64
      obtain ⟨xs, hxs⟩ : ∃ xs, pre.map (fun p => p.1.1) = xs := ⟨_, rfl⟩
      have hxl : xs.length = pre.length := by rw [← hxs, List.length_map]
      rw [hxs] at hrow
      have HX := Lib.hid hxs
      have hxl1 : xs.length < n := by omega
      have HL := Lib.hid hxl
      clear hxs hxl hneg c0 c1 c2 c3 c4 f2 f3 f4
      by_cases heq : xs.length + 1 = n
      · have hqe : ((xs.length : Int) + 1 == (n : Int)) = true := by simp; omega
        have HQ := Lib.hid heq
        clear heq
        gi_wp2_with (gi_at_builtin; refine wpListIn_push rfl (.tmp 28) (.tmp 30) 22 rfl (w.heap.size + 7) 2 i0 _ 8 Try.underlying22 hi hz0 hz1 hz2 rfl vi64 xs zx _ _ rfl rfl rfl hrow rfl (by simp only [maxLen]; omega) (by omega) hsz' ?_; intro g cp w1 hown1 hb1 hk1; have q51 := boxed_below q5 hb1 (by omega); have q11 := boxed_below q1 hb1 (by omega); have c51 := q51.cell; have f51 := q51.frozen; have c11 := (boxed_other q11 (show w.heap.size + 1 ≠ w.heap.size + 1 + 1 + 1 + 1 + 1 by omega) (.slice (some ⟨g, 0, none⟩) (xs.length + 1) cp)).cell)
        have p5 := q51.set (.slice (some ⟨g, 0, none⟩) (xs.length + 1) cp)
        have p0 := boxed_other (boxed_below q0 hb1 (by omega)) (show w.heap.size ≠ w.heap.size + 1 + 1 + 1 + 1 + 1 by omega) (.slice (some ⟨g, 0, none⟩) (xs.length + 1) cp)
        have p2 := boxed_other (boxed_below q2 hb1 (by omega)) (show w.heap.size + 1 + 1 ≠ w.heap.size + 1 + 1 + 1 + 1 + 1 by omega) (.slice (some ⟨g, 0, none⟩) (xs.length + 1) cp)
        have p3 := boxed_other (boxed_below q3 hb1 (by omega)) (show w.heap.size + 1 + 1 + 1 ≠ w.heap.size + 1 + 1 + 1 + 1 + 1 by omega) (.slice (some ⟨g, 0, none⟩) (xs.length + 1) cp)
        have p4 := boxed_other (boxed_below q4 hb1 (by omega)) (show w.heap.size + 1 + 1 + 1 + 1 ≠ w.heap.size + 1 + 1 + 1 + 1 + 1 by omega) (.slice (some ⟨g, 0, none⟩) (xs.length + 1) cp)
        have own2 := ownsRow_setCell_below hown1 (a := ⟨w.heap.size + 1 + 1 + 1 + 1 + 1, 0, none⟩) (by simp only; omega) (.slice (some ⟨g, 0, none⟩) (xs.length + 1) cp)
        have ko2 : KeepsOthers W (w1.setCell ⟨w.heap.size + 1 + 1 + 1 + 1 + 1, 0, none⟩ (.slice (some ⟨g, 0, none⟩) (xs.length + 1) cp)) := hk1.trans (KeepsOthers.setCell _ _ _)
        have be2 : Below w.heap.size w (w1.setCell ⟨w.heap.size + 1 + 1 + 1 + 1 + 1, 0, none⟩ (.slice (some ⟨g, 0, none⟩) (xs.length + 1) cp)) := (hB'.trans (hb1.mono (by omega))).setCell (by simp only; omega) _
        obtain ⟨W2, hW2⟩ : ∃ W2, w1.setCell ⟨w.heap.size + 1 + 1 + 1 + 1 + 1, 0, none⟩ (.slice (some ⟨g, 0, none⟩) (xs.length + 1) cp) = W2 := ⟨_, rfl⟩
        rw [hW2] at p0 p2 p3 p4 p5 own2 ko2 be2 ⊢
        have hs2 : w.heap.size + 7 ≤ W2.heap.size := Nat.le_trans hsz' ko2.size
        clear hW2 hown1 hb1 hk1 q51 q11 c51 f51 c11 q0 q1 q2 q3 q4 q5 c5 f5 hB' hrow b0 b1 b2 b3 b4 b5 b6 hB hqe hq hq1 hq2
        have hr2 := hr.below be2 (Nat.le_refl _)
        obtain ⟨vt, hsl, hrt⟩ := slice_tail (P := Try.prog) (k := k) Try.underlying24 cell_u8 hr2 (by omega)
        obtain ⟨vb, hvb⟩ : ∃ vb, Value.slice ad l.length cap = vb := ⟨_, rfl⟩
        rw [hvb] at p0 hsl ⊢
        have z0 := p0.cell
        have z5 := p5.cell
        clear hvb hr2
        have hfol : Try.prog.follows .mixedOrders = true := by kernel_rfl
        gi_region_with_o (refine ⟨trivial, ?_⟩; gi_at_call 35; refine (CallsIn.inRound l1 (callsIn_wide.2 (clone_any vt (l.drop k) W2.drew (by rw [List.length_drop]; omega) hrt.drew))).mono ?_; rintro e w3 ⟨v3, rfl, hown3, hb3d⟩; obtain ⟨a3, c3, rfl⟩ := owns_slice hown3; have hb3 : Below W2.heap.size W2 w3 := (Below.refl W2.heap.size W2).drew.trans hb3d; have y5 := (boxed_below p5 hb3 p5.lt).cell; have s2 := boxed_below p2 hb3 p2.lt; have s3 := boxed_below p3 hb3 p3.lt; have s4 := boxed_below p4 hb3 p4.lt; have y2 := s2.cell; have y3 := s3.cell; have y4 := s4.cell; have g2 := s2.frozen; have g3 := s3.frozen; have g4 := s4.frozen)
        all_goals gi_wp2_with fail
        all_goals exact fin_ret hx hnn hlen hax0 HX.out HL.out HQ.out hs2 ko2 be2 own2 hb3 s2 s3 s4 hown3
      · have hqe : ((xs.length : Int) + 1 == (n : Int)) = false := by simp; omega
        gi_wp2_with (gi_at_builtin; refine wpListIn_push rfl (.tmp 28) (.tmp 30) 22 rfl (w.heap.size + 7) 2 i0 _ 8 Try.underlying22 hi hz0 hz1 hz2 rfl vi64 xs zx _ _ rfl rfl rfl hrow rfl (by simp only [maxLen]; omega) (by omega) hsz' ?_; intro g cp w1 hown1 hb1 hk1; have q51 := boxed_below q5 hb1 (by omega); have q11 := boxed_below q1 hb1 (by omega); have c51 := q51.cell; have f51 := q51.frozen; have c11 := (boxed_other q11 (show w.heap.size + 1 ≠ w.heap.size + 1 + 1 + 1 + 1 + 1 by omega) (.slice (some ⟨g, 0, none⟩) (xs.length + 1) cp)).cell)
        have hpx : (pre ++ [(⟨(zx, (k : Int)), hx⟩ : Num l.length)]).map (fun p => p.1.1) = xs ++ [zx] := by rw [List.map_append, HX.out]; rfl
        have bel2 : Below w.heap.size W (w1.setCell ⟨w.heap.size + 1 + 1 + 1 + 1 + 1, 0, none⟩ (.slice (some ⟨g, 0, none⟩) (xs.length + 1) cp)) := (hb1.mono (by omega)).setCell (by simp only; omega) _
        refine ⟨(hk1.trans (KeepsOthers.setCell _ _ _)).from _, ⟨bel2, ?_⟩, ?_, ?_, ?_, ?_, ⟨r4, ?_⟩, ⟨r5, ?_⟩, ⟨r6, ?_⟩, ⟨.slice (some ⟨g, 0, none⟩) (xs.length + 1) cp, ?_, ?_⟩, ?_, ?_⟩
        · exact (Below.heap_setCell _ _ _ _ (by simp only; omega)).trans (hb1.block _ (by omega))
        · intro p hp
          rcases List.mem_append.1 hp with h | h
          · exact hnn p h
          · rw [List.mem_singleton] at h
            subst h
            exact hax0
        · have := HL.out
          rw [List.length_append, List.length_singleton]
          omega
        · exact boxed_other (boxed_below q0 hb1 (by omega)) (by omega) _
        · exact boxed_other q11 (by omega) _
        · exact boxed_other (boxed_below q2 hb1 (by omega)) (by omega) _
        · exact boxed_other (boxed_below q3 hb1 (by omega)) (by omega) _
        · exact boxed_other (boxed_below q4 hb1 (by omega)) (by omega) _
        · exact q51.set _
        · rw [hpx]
          exact ownsRow_setCell_below hown1 (by simp only; omega) _
        · exact hB'.trans bel2
        · exact Nat.le_trans hsz' (hk1.trans (KeepsOthers.setCell _ _ _)).size
  case done =>
    rintro D ys W hD hys ⟨hnn, _⟩ hK
    exfalso
    obtain ⟨y, hy, hneg⟩ := seq_ends (l.length + 1) l 0 (by omega)
    rw [← hys] at hy
    obtain ⟨p, hp, rfl⟩ := List.mem_map.1 hy
    have := hnn p hp
    omega
  case stop =>
    rintro D c pre W hD hpre ⟨rfl, ⟨pre0, x, rfl, hnn, hlen, hcase⟩, hBl⟩ hK
    gi_wp2
    refine ⟨by simp, .inl ⟨_, _, rfl, run_takeDeferred hK, ?_⟩⟩
    have hpre' : plainNums pre0 ++ [x.1] <+: seqF (l.length + 1) l 0 := by
      have e1 : plainNums (pre0 ++ [x]) = plainNums pre0 ++ [x.1] := by simp [plainNums]
      rw [← e1]
      exact hpre
    have hlp : (plainNums pre0).length = pre0.length := by simp [plainNums]
    have hbel := hBl.trans (belowK_b (w := w) (Nat.le_refl _) W D _ (.deferred none) (by omega) hK rfl rfl)
    rcases hcase with ⟨hneg, q2, q3, q4⟩ | ⟨h0, hlen2, q4, ⟨r4, q2, o4⟩, ⟨r5, q3, o5⟩⟩
    · have hT := seq_bad (plainNums pre0) x.1 _ _ _ n hpre' hneg (by rw [hlp]; exact hlen)
      have c2 := (q2.kept (grownBy_putObj' W D (.deferred none)) (by simp; omega)).cell
      have c3 := (q3.kept (grownBy_putObj' W D (.deferred none)) (by simp; omega)).cell
      have c4 := (q4.kept (grownBy_putObj' W D (.deferred none)) (by simp; omega)).cell
      refine ⟨.tuple #[.slice none 0 0, .slice none 0 0, .int .i64 (-x.1.2)], ?_, .slice none 0 0, .slice none 0 0, ?_, ?_, ?_, hbel⟩
      · simp [results, Try.f30, go_sem, c2, c3, c4]
      · rw [hT]
        have e2 : (((-x.1.2).toNat : Nat) : Int) = -x.1.2 := by omega
        simp only [e2]
      · rw [hT]
        exact World.ownsRow_nil _ _ _ _
      · rw [hT]
        exact World.ownsRow_nil _ _ _ _
    · have hT := (seq_good (plainNums pre0) x.1 _ _ _ hpre' (fun y hy => by obtain ⟨p, hp, rfl⟩ := List.mem_map.1 hy; exact hnn p hp) h0).2
      rw [hlp, show pre0.length + 1 = n from by rw [← hlen2]; simp] at hT
      have e3 : (pre0 ++ [x]).map (fun p => p.1.1) = (plainNums pre0 ++ [x.1]).map (fun y => y.1) := by simp [plainNums]
      have c2 := (q2.kept (grownBy_putObj' W D (.deferred none)) (by simp; omega)).cell
      have c3 := (q3.kept (grownBy_putObj' W D (.deferred none)) (by simp; omega)).cell
      have c4 := (q4.kept (grownBy_putObj' W D (.deferred none)) (by simp; omega)).cell
      refine ⟨.tuple #[r4, r5, .int .i64 0], ?_, r4, r5, ?_, ?_, ?_, hbel⟩
      · simp [results, Try.f30, go_sem, c2, c3, c4]
      · rw [hT]
        rfl
      · rw [hT, ← e3]
        exact owns_mono (ownsRow_putObj o4 _ hK rfl) (by omega)
      · rw [hT]
        exact owns_mono (ownsRow_putObj o5 _ hK rfl) (by omega)

theorem TakeAll_any (v : Value) (l : List UInt8) (n : Nat) (w : World) (hl : l.length ≤ 70368744177664) (hn : n ≤ 1048576) (hr : Reads w b8 v l) :
    Calls Try.prog 30 #[v, .int .i64 (n : Int)] w (TakeAllEnd n l w) := by
  by_cases h : n = 0
  · subst h
    exact TakeAll_zero v l w hl hr
  · exact TakeAll_some v l n w hl (by omega) hn hr

end Go.Proofs.Ytgegbfhjophdfaa
