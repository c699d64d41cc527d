/- frame.Next over any bytes, frame.Only: the walks. -/
import Derived.Test.YtcjbgchhalilnaaGreatDoorEh
import Derived.Test.YtcjbgchhalilnaaGreatDoorKd
namespace Go.Proofs.YtcjbgchhalilnaaGreatDoor
open Go Go.RowKit

theorem four.below' {B : Nat} {vk vb vr : Value} {n : Int} {w w' : World} (h : four B vk vb vr n w) (hb : Below w.heap.size w w') (hB : B + 4 ≤ w.heap.size) : four B vk vb vr n w' := by
  obtain ⟨h1, h2, h3, h4, z1, z2, z3, z4⟩ := h
  exact ⟨(hb.cell (p := ⟨B, 0, none⟩) (by show B < _; omega)).trans h1, (hb.cell (p := ⟨B + 1, 0, none⟩) (by show B + 1 < _; omega)).trans h2, (hb.cell (p := ⟨B + 2, 0, none⟩) (by show B + 2 < _; omega)).trans h3, (hb.cell (p := ⟨B + 3, 0, none⟩) (by show B + 3 < _; omega)).trans h4,
    (hb.frozen (p := ⟨B, 0, none⟩) (by show B < _; omega)).trans z1, (hb.frozen (p := ⟨B + 1, 0, none⟩) (by show B + 1 < _; omega)).trans z2, (hb.frozen (p := ⟨B + 2, 0, none⟩) (by show B + 2 < _; omega)).trans z3, (hb.frozen (p := ⟨B + 3, 0, none⟩) (by show B + 3 < _; omega)).trans z4⟩
set_option maxRecDepth 100000 in
set_option maxHeartbeats 8000000 in
theorem Next_whole (v : Value) (c : UInt8) (r : List UInt8) (w : World) (hT : HalvesAt w) (hlen : (c :: r).length ≤ 200000) (hr : Reads w b8 v (c :: r)) {u k : Nat} (hs : takeF 0 0 r = (u, k, 0)) (hk1 : 1 ≤ k) (hk3 : k ≤ r.length) (hu' : (u : Int) ≤ 65535) (hlong : u + 4 ≤ (takeRest r).length) :
    Calls Tryz.prog 55 #[v] w (NextEnd (c :: r) w) := by
  have hmf : ∀ (fn : Fn) (first cap : Array Value) (w : World), (Instr.makeFunc fn first cap).run Tryz.prog w = .ok (.func fn first cap) w := fun _ _ _ _ => rfl
  rcases hr with ⟨h0, _⟩ | ⟨b, off, cap, rfl, h1, h2, h3, h4⟩
  · cases h0
  have hr : Reads w b8 (.slice (some ⟨b, off, none⟩) (c :: r).length cap) (c :: r) := .inr ⟨b, off, cap, rfl, h1, h2, h3, h4⟩
  obtain ⟨vt, hsl, hrt⟩ := slice_tail (P := Tryz.prog) (k := 1) Tryz.underlying43 cell_u8 hr (by simp)
  have hrt : Reads w b8 vt r := hrt
  have hc0 : w.cell? ⟨b, off, none⟩ = some (.int .u8 (c.toNat : Int)) := h4 0 (by simp)
  obtain ⟨N, hN⟩ : ∃ N, (c :: r).length = N := ⟨_, rfl⟩
  have hN1 : 1 ≤ N := by rw [← hN]; simp
  have hrl : r.length ≤ 200000 := by simp at hlen; omega
  rw [hN] at hsl h1 hlen
  have hsl1 : ∀ W : World, (Instr.slice 43 (.slice (some ⟨b, off, none⟩) N cap) (some (.int .i64 1)) none none).run Tryz.prog W = .ok vt W := hsl
  have hN0 : ((N : Int) == 0) = false := by simp; omega
  have hN1' : (1 : Int) ≤ N := by omega
  have h1' : (N : Int) ≤ cap := by omega
  have h2' : (cap : Int) ≤ 9223372036854775807 := by simp only [maxLen] at h2; omega
  clear hsl
  obtain ⟨W4, hW4⟩ : ∃ W4, (((w.alloc (Obj.cells #[Value.int IntKind.i64 0] 3)).alloc (Obj.cells #[Value.slice none 0 0] 43)).alloc (Obj.cells #[Value.slice none 0 0] 43)).alloc (Obj.cells #[Value.int IntKind.i64 0] 44) = W4 := ⟨_, rfl⟩
  have f4 : four w.heap.size (.int .i64 0) (.slice none 0 0) (.slice none 0 0) 0 W4 := by
    subst hW4
    refine ⟨?_, ?_, ?_, ?_, ?_, ?_, ?_, ?_⟩ <;> simp [go_sem]
  have hb4 : Below w.heap.size w W4 := by
    subst hW4
    exact ((((Below.refl _ _).alloc (Nat.le_refl _) _).alloc (by simp) _).alloc (by simp; omega) _).alloc (by simp; omega) _
  have hs4 : w.heap.size + 4 = W4.heap.size := by subst hW4; simp
  have hrt4 := hrt.below hb4 (Nat.le_refl _)
  have hr4 := hr.below hb4 (Nat.le_refl _)
  rw [hN] at hr4
  have hk := Take_any vt r W4 (by omega) hrt4
  have hrN : Reads w b8 (.slice (some ⟨b, off, none⟩) N cap) (c :: r) := by rw [← hN]; exact hr
  clear h4 hr hrt
  rw [hN]
  go_enter_defers Tryz.func55, Tryz.ntmps55
  go_wp2_with fail
  refine hk.mono ?_
  rintro e w5 ⟨vl, rfl, hown, hb5⟩
  have f5 := f4.below hb5 hs4
  have hb5' : Below w.heap.size w w5 := hb4.trans (hb5.mono hb4.size)
  have hr5 := hr4.below hb5 (Nat.le_refl _)
  have hc5 := (hb5'.cell (p := ⟨b, off, none⟩) h3).trans hc0
  have hT5 := hT.below hb5' (Nat.le_refl _)
  have hs5 : w.heap.size + 4 ≤ w5.heap.size := by have := hb5.size; omega
  clear hk hW4 f4 hb4 hrt4 hr4 hb5
  obtain ⟨B, hBw⟩ : ∃ B, w.heap.size = B := ⟨_, rfl⟩
  rw [hBw] at f5 hs5 hb5' ⊢
  obtain ⟨q0, q1, q2, q3, z0, z1, z2, z3⟩ := f5
  have q2 : w5.cell? ⟨B + 1 + 1, 0, none⟩ = some (.slice none 0 0) := q2
  have q3 : w5.cell? ⟨B + 1 + 1 + 1, 0, none⟩ = some (.int .i64 0) := q3
  have z2 : w5.frozen? ⟨B + 1 + 1, 0, none⟩ = false := z2
  have z3 : w5.frozen? ⟨B + 1 + 1 + 1, 0, none⟩ = false := z3
  have ho0 := owns_slice hown
  rw [hs]
  have HL : Hid ((takeRest r).length = r.length - k) := by rw [Hid, takeRest, hs]; simp
  obtain ⟨g, cl, rfl, hgB, _⟩ := owns_some hown (by omega)
  have hrl5 := Reads.of_owns hown
  have hlc := hrl5.len_cap
  obtain ⟨vr, hslr, hrr⟩ := slice_tail (P := Tryz.prog) (k := u + 4) Tryz.underlying43 cell_u8 hrl5 hlong
  obtain ⟨ar, cr, rfl⟩ := hrr.slice
  obtain ⟨LL, hLL⟩ : ∃ LL, (takeRest r).length = LL := ⟨_, rfl⟩
  obtain ⟨M, hM⟩ : ∃ M, ((takeRest r).drop (u + 4)).length = M := ⟨_, rfl⟩
  have HM : Hid (M = LL - (u + 4)) := by rw [Hid, ← hM, ← hLL, List.length_drop]
  rw [hM] at hslr
  rw [hLL] at hslr hlong HL hlc hown ⊢
  have hslr1 : ∀ W : World, (Instr.slice 43 (.slice (some ⟨g, 0, none⟩) LL cl) (some (.int .i64 ((u : Int) + 4))) none none).run Tryz.prog W = .ok (.slice ar M cr) W := by
    intro W
    have := hslr W
    rwa [show (((u + 4 : Nat)) : Int) = (u : Int) + 4 by omega] at this
  have hlong' : (u : Int) + 4 ≤ LL := by omega
  have hlc2 : (cl : Int) ≤ 9223372036854775807 := by have := hlc.2; simp only [maxLen] at this; omega
  have hNr : N = r.length + 1 := by rw [← hN]; simp
  obtain ⟨nn, hnn⟩ : ∃ nn, N - M = nn := ⟨_, rfl⟩
  obtain ⟨n4, hn4⟩ : ∃ n4, nn - 4 = n4 := ⟨_, rfl⟩
  have hLk := HL.out
  have hML := HM.out
  have hn4' : (N : Int) - M = (nn : Int) := by omega
  have hnn4 : nn = n4 + 4 := by omega
  have hnnN : nn ≤ N := by omega
  have hM2 : M ≤ 200000 := by omega
  have HN4 : nn = (c :: r).length - ((takeRest r).drop (u + 4)).length := by rw [hM, hN]; omega
  have H50 := Lib.hid (fun h => nextF_sum (c := c) hs (by omega) (by rw [hLL]; exact hlong) HN4 h)
  have H00 := Lib.hid (fun h => nextF_ok (c := c) hs (by omega) (by rw [hLL]; exact hlong) HN4 h)
  have hn44 : nn - 4 = n4 := hn4
  rw [hn44] at H50 H00
  have hrest : ∀ w : World, w.ownsRow (B + 4) 5 1 (.slice (some ⟨g, 0, none⟩) LL cl) LL ((takeRest r).map b8) → Reads w b8 (.slice ar M cr) ((takeRest r).drop (u + 4)) := fun w h => tail_reads h hLL hlong hslr
  have f5 : four B (.int .i64 0) (.slice none 0 0) (.slice none 0 0) 0 w5 := ⟨q0, q1, q2, q3, z0, z1, z2, z3⟩
  have f6 := f5.setE 0
  have hown5 : w5.ownsRow (B + 4) 5 1 (.slice (some ⟨g, 0, none⟩) LL cl) LL ((takeRest r).map b8) := hown.mono (by omega)
  have hown6 : (w5.setCell ⟨B + 3, 0, none⟩ (.int .i64 0)).ownsRow (B + 4) 5 1 (.slice (some ⟨g, 0, none⟩) LL cl) LL ((takeRest r).map b8) := ownsRow_setCell_below hown5 (by simp only; omega) _
  have hbE : Below B w5 (w5.setCell ⟨B + 3, 0, none⟩ (.int .i64 0)) := (Below.refl _ _).setCell (p := ⟨B + 3, 0, none⟩) (by simp only; omega) _
  clear hslr HN4 hn44 HL HM hown hrr hrl5 hNr hLk hML hn4 hnn hown5
  go_wp2_with fail
  refine cut_region (B := B) (g := g) (u := u) (LL := LL) (cl := cl) (M := M) (cr := cr) (ar := ar) (vk := .int .i64 0) (v0 := .slice none 0 0) (ys := takeRest r) rfl f6 hown6 hslr1 (by omega) hu' hlc2 rfl rfl rfl rfl ?_
  intro a W6 f6' hb6 own6 hold6 hsz6 hdf6
  clear f6 f5 hown6 q0 q1 q2 q3 z0 z1 z2 z3
  have hbw6 := hb5'.trans (hbE.trans hb6)
  obtain ⟨gg, hgg⟩ : ∃ gg : Nat → Value, ∀ t, a.tmps.getD t undef = gg t := ⟨_, fun _ => rfl⟩
  have hfr := frame_eq 31 40 gg hsz6 hdf6 (by decide) (of_decide_eq_true (by kernel_rfl)) (fun t ht => hold6 t (dst_out (lo := 31) (hi := 40) (by kernel_rfl) ht)) (fun t _ _ => hgg t)
  clear hgg hold6 hsz6 hdf6
  subst hfr
  simp only [List.take_succ_cons, List.take_zero, List.drop_succ_cons, List.drop_zero, List.range', List.map_cons, List.map_nil, List.cons_append, List.nil_append, Nat.reduceAdd, Nat.reduceSub]
  have hc6 : W6.cell? ⟨b, off, none⟩ = some (.int .u8 (c.toNat : Int)) := (hbw6.cell (p := ⟨b, off, none⟩) (by show b < B; omega)).trans hc0
  have m6 : W6.cell? ⟨B + 1 + 1, 0, none⟩ = some (.slice ar M cr) := f6'.2.2.1
  have k6 := f6'.1
  have v6 := f6'.2.2.2.2.1
  have f7 := f6'.setK (.int .i64 (c.toNat : Int))
  have hb7 : Below B w (W6.setCell ⟨B, 0, none⟩ (.int .i64 (c.toNat : Int))) := hbw6.setCell (p := ⟨B, 0, none⟩) (Nat.le_refl _) _
  have own7 := ownsRow_setCell_below (a := ⟨B, 0, none⟩) own6 (by simp only; omega) (.int .i64 (c.toNat : Int))
  have hsz7 : B + 4 ≤ (W6.setCell ⟨B, 0, none⟩ (.int .i64 (c.toNat : Int))).heap.size := by have := hbE.size; have := hb6.size; simp at *; omega
  obtain ⟨W7, hW7⟩ : ∃ W7, W6.setCell ⟨B, 0, none⟩ (.int .i64 (c.toNat : Int)) = W7 := ⟨_, rfl⟩
  rw [hW7] at f7 hb7 own7 hsz7
  have m7 : W7.cell? ⟨B + 1 + 1, 0, none⟩ = some (.slice ar M cr) := f7.2.2.1
  have hcw : wrap64 (c.toNat : Int) = (c.toNat : Int) := by have := c.toNat_lt; unfold wrap64; omega
  have hr7 : Reads W7 b8 (.slice (some ⟨b, off, none⟩) N cap) (c :: r) := hrN.below hb7 (by omega)
  have hT7 := hT.below hb7 (by omega)
  have HNN := Lib.hid hnn4
  have hn4L : n4 ≤ 200000 := by omega
  clear f6' own6 hb6 hbE hr5 hT5 hc5 hslr1 hnn4
  go_wp2_with fail
  refine sum_region (n4 := n4) (nn := nn) (xs := c :: r) rfl hT7 hr7 hN HNN.out hnnN h2' hn4L rfl rfl rfl ?_
  intro a W8 hb8 x59 hold8 hsz8 hdf8
  obtain ⟨gg, hgg⟩ : ∃ gg : Nat → Value, ∀ t, a.tmps.getD t undef = gg t := ⟨_, fun _ => rfl⟩
  have hfr := frame_eq 49 60 gg hsz8 hdf8 (by decide) (of_decide_eq_true (by kernel_rfl)) (fun t ht => hold8 t (dst_out (lo := 49) (hi := 60) (by kernel_rfl) ht)) (fun t _ _ => hgg t)
  rw [hgg] at x59
  clear hgg hold8 hsz8 hdf8
  subst hfr
  simp only [List.take_succ_cons, List.take_zero, List.drop_succ_cons, List.drop_zero, List.range', List.map_cons, List.map_nil, List.cons_append, List.nil_append, Nat.reduceAdd, Nat.reduceSub]
  have f8 := f7.below' hb8 hsz7
  have own8 := owns_below own7 hb8
  have hbw8 := hb7.trans (hb8.mono (by omega))
  have hsz8 : B + 4 ≤ W8.heap.size := by have := hb8.size; omega
  clear f7 own7 hb8 hb7 hr7 hT7 hW7 hrN m7 m6 k6 v6
  by_cases hsum : sealL (List.take n4 (c :: r)) = List.take nn (c :: r)
  · have HE := Lib.hid (H00.out hsum)
    have HSB : (!(sealL (List.take n4 (c :: r)) == List.take nn (c :: r))) = false := by rw [hsum]; simp
    clear H00 H50 hsum
    rw [HSB] at x59
    generalize gg 59 = x at x59
    subst x59
    go_wp2_with fail
    refine rest_region (B := B) (n := M) (e := 0) (k := (c.toNat : Int)) (ab := some ⟨g, 0, none⟩) (nb := u) (cb := u) rfl f8 hsz8 own8 hrest hM hM2 rfl rfl rfl rfl ?_
    intro a W9 vr' f9 hb9 own9 hr9 hold9 hsz9 hdf9
    obtain ⟨gg, hgg⟩ : ∃ gg : Nat → Value, ∀ t, a.tmps.getD t undef = gg t := ⟨_, fun _ => rfl⟩
    have hfr := frame_eq 60 65 gg hsz9 hdf9 (by decide) (of_decide_eq_true (by kernel_rfl)) (fun t ht => hold9 t (dst_out (lo := 60) (hi := 65) (by kernel_rfl) ht)) (fun t _ _ => hgg t)
    clear hgg hold9 hsz9 hdf9
    subst hfr
    simp only [List.take_succ_cons, List.take_zero, List.drop_succ_cons, List.drop_zero, List.range', List.map_cons, List.map_nil, List.cons_append, List.nil_append, Nat.reduceAdd, Nat.reduceSub]
    go_wp2_with fail
    refine door f9 rfl rfl rfl rfl ?_
    intro w' hb' hw'
    obtain rfl := hw' rfl
    rw [NextEnd, HE.out, hBw]
    have hrb := reads_exact (Reads.of_owns (by rw [hLL]; exact own9)) (u := u) (by omega)
    exact ⟨.slice (some ⟨g, 0, none⟩) u u, vr', rfl, hrb, hr9, hbw8.trans hb9⟩
  · have HE := Lib.hid (H50.out hsum)
    have HSB : (!(sealL (List.take n4 (c :: r)) == List.take nn (c :: r))) = true := by rw [beq_eq_false_iff_ne.2 hsum]; rfl
    clear H00 H50 hsum
    have q8 : W8.cell? ⟨B + 1 + 1 + 1, 0, none⟩ = some (.int .i64 0) := f8.2.2.2.1
    have z8 : W8.frozen? ⟨B + 1 + 1 + 1, 0, none⟩ = false := f8.2.2.2.2.2.2.2
    have f8' := f8.setE 50
    have own8' := ownsRow_setCell_below (a := ⟨B + 3, 0, none⟩) own8 (by simp only; omega) (.int .i64 50)
    have hbw8' := hbw8.setCell (p := ⟨B + 3, 0, none⟩) (by simp only; omega) (.int .i64 50)
    have hsz8 : B + 4 ≤ (W8.setCell ⟨B + 3, 0, none⟩ (.int .i64 50)).heap.size := by simp; omega
    rw [HSB] at x59
    generalize gg 59 = x at x59
    subst x59
    go_wp2_with fail
    refine rest_region (B := B) (n := M) (e := 50) (k := (c.toNat : Int)) (ab := some ⟨g, 0, none⟩) (nb := u) (cb := u) rfl f8' hsz8 own8' hrest hM hM2 rfl rfl rfl rfl ?_
    intro a W9 vr' f9 hb9 own9 hr9 hold9 hsz9 hdf9
    obtain ⟨gg, hgg⟩ : ∃ gg : Nat → Value, ∀ t, a.tmps.getD t undef = gg t := ⟨_, fun _ => rfl⟩
    have hfr := frame_eq 60 65 gg hsz9 hdf9 (by decide) (of_decide_eq_true (by kernel_rfl)) (fun t ht => hold9 t (dst_out (lo := 60) (hi := 65) (by kernel_rfl) ht)) (fun t _ _ => hgg t)
    clear hgg hold9 hsz9 hdf9
    subst hfr
    simp only [List.take_succ_cons, List.take_zero, List.drop_succ_cons, List.drop_zero, List.range', List.map_cons, List.map_nil, List.cons_append, List.nil_append, Nat.reduceAdd, Nat.reduceSub]
    go_wp2_with fail
    refine door f9 rfl rfl rfl rfl ?_
    intro w' hb' hw'
    rw [NextEnd, HE.out, hBw]
    exact ⟨.slice none 0 0, .slice none 0 0, rfl, Reads.nil _ _, Reads.nil _ _, (hbw8'.trans hb9).trans hb'⟩

theorem Next_any (v : Value) (l : List UInt8) (w : World) (hT : HalvesAt w) (hlen : l.length ≤ 200000) (hr : Reads w b8 v l) :
    Calls Tryz.prog 55 #[v] w (NextEnd l w) := by
  cases l with
  | nil => exact Next_nil v w hr
  | cons c r =>
    rcases take_spec r with hs | hs | ⟨u, k, hs, hu, hk1, hk2, hk3⟩
    · exact Next_e10 v c r w hT hlen hr hs
    · exact Next_e11 v c r w hT hlen hr hs
    · by_cases hbig : 65535 < u
      · exact Next_big v c r w hT hlen hr hs hbig
      · by_cases hlong : (takeRest r).length < u + 4
        · exact Next_short v c r w hT hlen hr hs (by omega) hlong
        · exact Next_whole v c r w hT hlen hr hs hk1 hk3 (by omega) (by omega)

theorem nextF_range (l : List UInt8) : (nextF l).1 = 0 ∨ ((nextF l).2.2.1 = [] ∧ (nextF l).2.2.2 = [] ∧ (nextF l).2.1 = 0 ∧ 10 ≤ (nextF l).1 ∧ (nextF l).1 ≤ 50) := by
  cases l with
  | nil => exact .inr ⟨rfl, rfl, rfl, by decide, by decide⟩
  | cons c r =>
    rcases take_spec r with hs | hs | ⟨u, k, hs, hu, hk1, hk2, hk3⟩
    · rw [nextF_err (c := c) (by rw [hs]; decide), hs]; exact .inr ⟨rfl, rfl, rfl, by decide, by decide⟩
    · rw [nextF_err (c := c) (by rw [hs]; decide), hs]; exact .inr ⟨rfl, rfl, rfl, by decide, by decide⟩
    · by_cases hbig : 65535 < u
      · rw [nextF_big (c := c) hs hbig]; exact .inr ⟨rfl, rfl, rfl, by decide, by decide⟩
      · by_cases hlong : (takeRest r).length < u + 4
        · rw [nextF_short (c := c) hs (by omega) hlong]; exact .inr ⟨rfl, rfl, rfl, by decide, by decide⟩
        · by_cases hsum : sealL ((c :: r).take ((c :: r).length - ((takeRest r).drop (u + 4)).length - 4)) = (c :: r).take ((c :: r).length - ((takeRest r).drop (u + 4)).length)
          · rw [nextF_ok (c := c) hs (by omega) (by omega) rfl hsum]; exact .inl rfl
          · rw [nextF_sum (c := c) hs (by omega) (by omega) rfl hsum]; exact .inr ⟨rfl, rfl, rfl, by decide, by decide⟩

/-- The body of bytes that are one frame of kind 5, behind an errno. -/
def onlyF (l : List UInt8) : Int × List UInt8 :=
  if (nextF l).1 ≠ 0 then ((nextF l).1, []) else if (nextF l).2.2.2 ≠ [] ∨ (nextF l).2.1 ≠ 5 then (11, []) else (0, (nextF l).2.2.1)
def OnlyEnd (l : List UInt8) (w : World) (e : Ending) (w' : World) : Prop :=
  ∃ vb, e = .returned (.tuple #[vb, .int .i64 (onlyF l).1]) ∧ Reads w' b8 vb (onlyF l).2 ∧ Below w.heap.size w w'
set_option maxRecDepth 100000 in
theorem Only_any (v : Value) (l : List UInt8) (w : World) (hT : HalvesAt w) (hlen : l.length ≤ 200000) (hr : Reads w b8 v l) :
    Calls Tryz.prog 36 #[v, .int .i64 5] w (OnlyEnd l w) := by
  have hN := Next_any v l w hT hlen hr
  have HO : Hid (onlyF l = if (nextF l).1 ≠ 0 then ((nextF l).1, []) else if (nextF l).2.2.2 ≠ [] ∨ (nextF l).2.1 ≠ 5 then (11, []) else (0, (nextF l).2.2.1)) := rfl
  unfold NextEnd at hN
  generalize nextF l = q at hN HO
  obtain ⟨e, k, body, rest⟩ := q
  go_enter Tryz.func36, Tryz.ntmps36
  go_wp2_with fail
  refine hN.mono ?_
  rintro e1 w1 ⟨vb, vr, rfl, hrb, hrr, hb⟩
  obtain ⟨ar, cr, rfl⟩ := hrr.slice
  by_cases he : e = 0
  · subst he
    rw [if_neg (by decide)] at HO
    by_cases hr0 : rest = []
    · subst hr0
      by_cases hk : k = 5
      · subst hk
        rw [if_neg (by simp)] at HO
        go_wp2_with fail
        go_ret2
        rw [OnlyEnd, HO.out]
        exact ⟨vb, rfl, hrb, hb⟩
      · rw [if_pos (.inr hk)] at HO
        go_wp2_with fail
        go_ret2
        rw [OnlyEnd, HO.out]
        exact ⟨.slice none 0 0, rfl, Reads.nil _ _, hb⟩
    · rw [if_pos (.inl hr0)] at HO
      have hpos : (0 : Int) < rest.length := by
        cases rest with
        | nil => exact absurd rfl hr0
        | cons a l => simp only [List.length_cons]; omega
      go_wp2_with fail
      go_ret2
      rw [OnlyEnd, HO.out]
      exact ⟨.slice none 0 0, rfl, Reads.nil _ _, hb⟩
  · rw [if_pos he] at HO
    go_wp2_with fail
    go_ret2
    rw [OnlyEnd, HO.out]
    exact ⟨.slice none 0 0, rfl, Reads.nil _ _, hb⟩
end Go.Proofs.YtcjbgchhalilnaaGreatDoor
