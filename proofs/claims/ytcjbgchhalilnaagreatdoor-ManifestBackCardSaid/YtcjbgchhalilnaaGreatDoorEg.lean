/- frame.Next: the walks. -/
import Derived.Test.YtcjbgchhalilnaaGreatDoorEa
import Derived.Test.YtcjbgchhalilnaaGreatDoorVe
import Derived.Defers
import Derived.Recover
import Derived.Laws.ResultCell
import Derived.Laws.NewBlocks
namespace Go.Proofs.YtcjbgchhalilnaaGreatDoor
open Go Go.RowKit

theorem cell_u8 (W : World) : (sizeOf 5).run Tryz.prog W = .ok 1 W := by kernel_rfl
def EqRel (x y : List UInt8) (w : World) (i : Value) (wr : World) : Prop :=
  ∃ j : Nat, j ≤ x.length ∧ i = .int .i64 (j : Int) ∧ x.take j = y.take j ∧ wr.heap = w.heap ∧ Below w.heap.size w wr

set_option maxRecDepth 100000 in
theorem Equal_any (vx vy : Value) (x y : List UInt8) (w : World) (hx : Reads w b8 vx x) (hy : Reads w b8 vy y) :
    Calls Tryz.prog 70 #[vx, vy] w fun e w' => e = .returned (.bool (x == y)) ∧ Below w.heap.size w w' := by
  have hmx := hx.len_le
  have hmy := hy.len_le
  simp only [maxLen] at hmx hmy
  obtain ⟨ax, cx, rfl⟩ := hx.slice
  obtain ⟨ay, cy, rfl⟩ := hy.slice
  go_enter Tryz.func70, Tryz.ntmps70
  by_cases hl : x.length = y.length
  · have hl' : (x.length : Int) = (y.length : Int) := by omega
    go_wp2_with fail
    go_loopw [5, 13] (fun _ i wr => EqRel x y w i wr) (fun _ i _ => x.length - (intOf i).toNat)
    case atStart => exact ⟨0, Nat.zero_le _, rfl, rfl, rfl, Below.refl _ _⟩
    case round =>
      obtain ⟨j, hj, rfl, heq, hh, hb⟩ := hrel
      by_cases hlt : j < x.length
      · have hx' := hx.below hb (Nat.le_refl _)
        have hy' := hy.below hb (Nat.le_refl _)
        obtain ⟨b1, o1, rfl, hc1⟩ := hx'.elem hlt
        obtain ⟨b2, o2, rfl, hc2⟩ := hy'.elem (show j < y.length by omega)
        have hc1' : wr.cell? ⟨b1, o1 + j, none⟩ = some (.int .u8 (x[j].toNat : Int)) := hc1
        have hc2' : wr.cell? ⟨b2, o2 + j, none⟩ = some (.int .u8 (y[j].toNat : Int)) := hc2
        have HX : Hid (x.take (j + 1) = x.take j ++ [x[j]]) := Lib.hid (List.take_succ_eq_append_getElem hlt)
        have HY : Hid (y.take (j + 1) = y.take j ++ [y[j]'(by omega)]) := Lib.hid (List.take_succ_eq_append_getElem (by omega))
        have HN : x[j] ≠ y[j]'(by omega) → x ≠ y := fun h e => h (by subst e; rfl)
        generalize x[j] = p at *
        generalize y[j]'(by omega) = q at *
        clear hc1 hc2
        by_cases hpq : p = q
        · subst hpq
          have HE : Hid (x.take (j + 1) = y.take (j + 1)) := by rw [Hid, HX.out, HY.out, heq]
          clear HX HY HN heq
          go_wp2_with fail
          go_quiet (fail)
          go_wp2_with fail
          go_roundw
          case rel => exact ⟨j + 1, hlt, by go_num, HE.out, hh, Below.drewN hb nq⟩
          case measure => simp [intOf]; omega
        · have hne : ¬ (p.toNat : Int) = (q.toNat : Int) := fun e => hpq (UInt8.toNat_inj.1 (by omega))
          have HE : Hid ((x == y) = false) := by rw [Hid]; exact beq_eq_false_iff_ne.2 (HN hpq)
          clear HX HY HN heq
          go_wp2_with fail
          go_quiet (fail)
          go_wp2_with fail
          go_ret
          exact ⟨by rw [HE.out]; rfl, Below.drewN hb nq⟩
      · have hjl : j = x.length := by omega
        subst hjl
        rw [List.take_length, hl, List.take_length] at heq
        go_wp2_with fail
        go_ret
        exact ⟨by subst heq; rw [beq_self_eq_true]; rfl, hb⟩
  · have hl' : ¬ (x.length : Int) = (y.length : Int) := by omega
    go_wp2_with fail
    go_ret
    exact ⟨by rw [beq_eq_false_iff_ne.2 (fun e => hl (congrArg _ e))]; rfl, Below.refl _ _⟩

/-- The four results' cells. -/
def four (B : Nat) (vk vb vr : Value) (n : Int) (w : World) : Prop :=
  w.cell? ⟨B, 0, none⟩ = some vk ∧ w.cell? ⟨B + 1, 0, none⟩ = some vb ∧ w.cell? ⟨B + 2, 0, none⟩ = some vr ∧ w.cell? ⟨B + 3, 0, none⟩ = some (.int .i64 n) ∧
    w.frozen? ⟨B, 0, none⟩ = false ∧ w.frozen? ⟨B + 1, 0, none⟩ = false ∧ w.frozen? ⟨B + 2, 0, none⟩ = false ∧ w.frozen? ⟨B + 3, 0, none⟩ = false

theorem four.below {B : Nat} {vk vb vr : Value} {n : Int} {w w' : World} (h : four B vk vb vr n w) (hb : Below w.heap.size w w') (hB : B + 4 = w.heap.size) : four B vk vb vr n w' := by
  obtain ⟨h1, h2, h3, h4, z1, z2, z3, z4⟩ := h
  exact ⟨(hb.cell (p := ⟨B, 0, none⟩) (by show B < _; omega)).trans h1, (hb.cell (p := ⟨B + 1, 0, none⟩) (by show B + 1 < _; omega)).trans h2, (hb.cell (p := ⟨B + 2, 0, none⟩) (by show B + 2 < _; omega)).trans h3, (hb.cell (p := ⟨B + 3, 0, none⟩) (by show B + 3 < _; omega)).trans h4,
    (hb.frozen (p := ⟨B, 0, none⟩) (by show B < _; omega)).trans z1, (hb.frozen (p := ⟨B + 1, 0, none⟩) (by show B + 1 < _; omega)).trans z2, (hb.frozen (p := ⟨B + 2, 0, none⟩) (by show B + 2 < _; omega)).trans z3, (hb.frozen (p := ⟨B + 3, 0, none⟩) (by show B + 3 < _; omega)).trans z4⟩

theorem defer_any (B : Nat) (vk vb vr : Value) (n : Int) (u : FrameMode) (w : World) (h : four B vk vb vr n w) :
    CallsD Tryz.prog 69 #[.pointer (some ⟨B + 3, 0, none⟩), .pointer (some ⟨B, 0, none⟩), .pointer (some ⟨B + 1, 0, none⟩), .pointer (some ⟨B + 2, 0, none⟩)] u w fun e u' w' => u' = u ∧ (e = .returned (.tuple #[]) ∧
      (if n = 0 then w' = w else four B (.int .i64 0) (.slice none 0 0) (.slice none 0 0) n w' ∧ Below B w w')) := by
  obtain ⟨h1, h2, h3, h4, z1, z2, z3, z4⟩ := h
  by_cases hn : n = 0
  · subst hn
    go_enter_d Tryz.func69, Tryz.ntmps69
    go_wp2
    go_end0
    exact ⟨rfl, by simp⟩
  · go_enter_d Tryz.func69, Tryz.ntmps69
    go_wp2
    go_end0
    refine ⟨rfl, ?_⟩
    refine ⟨?_, (((Below.refl B w).setCell (p := ⟨B, 0, none⟩) (Nat.le_refl _) _).setCell (p := ⟨B + 1, 0, none⟩) (by show B ≤ B + 1; omega) _).setCell (p := ⟨B + 2, 0, none⟩) (by show B ≤ B + 2; omega) _⟩
    refine ⟨?_, ?_, ?_, ?_, ?_, ?_, ?_, ?_⟩ <;> simp [go_sem, *]
/-- Behind the door. -/
theorem door {tmps : Array Value} {B : Nat} {vb vr : Value} {k n : Int} {wd : World} {R : Ending → World → Prop} (h : four B (.int .i64 k) vb vr n wd)
    (t2 : tmps.getD 2 undef = .pointer (some ⟨B, 0, none⟩)) (t3 : tmps.getD 3 undef = .pointer (some ⟨B + 1, 0, none⟩)) (t4 : tmps.getD 4 undef = .pointer (some ⟨B + 2, 0, none⟩)) (t5 : tmps.getD 5 undef = .pointer (some ⟨B + 3, 0, none⟩))
    (hR : ∀ w', Below B wd w' → (n = 0 → w' = wd) → R (.returned (.tuple #[.int .i64 (if n = 0 then k else 0), if n = 0 then vb else .slice none 0 0, if n = 0 then vr else .slice none 0 0, .int .i64 n])) w') :
    bodyPostD Tryz.prog Tryz.f55 R .ret ⟨tmps, [{ target := .fn (.func 69) #[.pointer (some ⟨B + 3, 0, none⟩), .pointer (some ⟨B, 0, none⟩), .pointer (some ⟨B + 1, 0, none⟩), .pointer (some ⟨B + 2, 0, none⟩)], args := #[] }]⟩ wd := by
  have t2' : (tmps[2]?).getD undef = .pointer (some ⟨B, 0, none⟩) := by simpa using t2
  have t3' : (tmps[3]?).getD undef = .pointer (some ⟨B + 1, 0, none⟩) := by simpa using t3
  have t4' : (tmps[4]?).getD undef = .pointer (some ⟨B + 2, 0, none⟩) := by simpa using t4
  have t5' : (tmps[5]?).getD undef = .pointer (some ⟨B + 3, 0, none⟩) := by simpa using t5
  refine leaves_cons (f := 69) (args := #[.pointer (some ⟨B + 3, 0, none⟩), .pointer (some ⟨B, 0, none⟩), .pointer (some ⟨B + 1, 0, none⟩), .pointer (some ⟨B + 2, 0, none⟩)]) (by simp) (by simp [go_sem]) ?_
  refine (defer_any B (.int .i64 k) vb vr n .returning _ h).mono ?_
  rintro e u' w' ⟨rfl, rfl, hh⟩
  by_cases hn : n = 0
  · subst hn
    rw [if_pos rfl] at hh
    subst hh
    obtain ⟨h1, h2, h3, h4, _⟩ := h
    have := hR w' (Below.refl _ _) (fun _ => rfl)
    simpa [Leaves, settle, results, Tryz.results55, go_sem, h1, h2, h3, h4, t2', t3', t4', t5'] using this
  · rw [if_neg hn] at hh
    obtain ⟨⟨h1, h2, h3, h4, _⟩, hb⟩ := hh
    have := hR w' hb (fun e => absurd e hn)
    simpa [Leaves, settle, results, Tryz.results55, go_sem, h1, h2, h3, h4, t2', t3', t4', t5', hn] using this

/-- A frame's errno, kind, body, and what lies behind. -/
def nextF : List UInt8 → Int × Int × List UInt8 × List UInt8
  | [] => (10, 0, [], [])
  | c :: r =>
    if (takeF 0 0 r).2.2 ≠ 0 then (((takeF 0 0 r).2.2 : Int), 0, [], [])
    else if 65535 < (takeF 0 0 r).1 then (11, 0, [], [])
    else if (takeRest r).length < (takeF 0 0 r).1 + 4 then (10, 0, [], [])
    else if sealL ((c :: r).take ((c :: r).length - ((takeRest r).drop ((takeF 0 0 r).1 + 4)).length - 4)) ≠ (c :: r).take ((c :: r).length - ((takeRest r).drop ((takeF 0 0 r).1 + 4)).length) then (50, 0, [], [])
    else (0, (c.toNat : Int), (takeRest r).take (takeF 0 0 r).1, (takeRest r).drop ((takeF 0 0 r).1 + 4))
def NextEnd (l : List UInt8) (w : World) (e : Ending) (w' : World) : Prop :=
  ∃ vb vr, e = .returned (.tuple #[.int .i64 (nextF l).2.1, vb, vr, .int .i64 (nextF l).1]) ∧ Reads w' b8 vb (nextF l).2.2.1 ∧ Reads w' b8 vr (nextF l).2.2.2 ∧ Below w.heap.size w w'

set_option maxRecDepth 100000 in
theorem Next_nil (v : Value) (w : World) (hr : Reads w b8 v []) :
    Calls Tryz.prog 55 #[v] w (NextEnd [] w) := by
  have hmf : ∀ (fn : Fn) (first cap : Array Value) (w : World), (Instr.makeFunc fn first cap).run Tryz.prog w = .ok (.func fn first cap) w := fun _ _ _ _ => rfl
  obtain ⟨a, c, rfl⟩ := hr.slice
  go_enter_defers Tryz.func55, Tryz.ntmps55
  go_wp2_with fail
  refine door (B := w.heap.size) (k := 0) (n := 10) (vb := .slice none 0 0) (vr := .slice none 0 0) ⟨?_, ?_, ?_, ?_, ?_, ?_, ?_, ?_⟩ rfl rfl rfl rfl ?_
  all_goals try (simp [go_sem]; done)
  intro w' hb _
  exact ⟨.slice none 0 0, .slice none 0 0, rfl, Reads.nil _ _, Reads.nil _ _, ((((Below.refl _ _).alloc (Nat.le_refl _) _).alloc (by simp) _).alloc (by simp; omega) _).alloc (by simp; omega) _ |>.trans hb⟩

theorem nextF_err {c : UInt8} {r : List UInt8} (h : (takeF 0 0 r).2.2 ≠ 0) : nextF (c :: r) = (((takeF 0 0 r).2.2 : Int), 0, [], []) := by
  show (if _ then _ else _) = _
  rw [if_pos h]
theorem nextF_big {c : UInt8} {r : List UInt8} {u k : Nat} (h : takeF 0 0 r = (u, k, 0)) (hu : 65535 < u) : nextF (c :: r) = (11, 0, [], []) := by
  show (if _ then _ else if _ then _ else _) = _
  rw [h, if_neg (by simp), if_pos hu]
theorem nextF_short {c : UInt8} {r : List UInt8} {u k : Nat} (h : takeF 0 0 r = (u, k, 0)) (hu : u ≤ 65535) (hl : (takeRest r).length < u + 4) : nextF (c :: r) = (10, 0, [], []) := by
  show (if _ then _ else if _ then _ else if _ then _ else _) = _
  rw [h, if_neg (by simp), if_neg (by simp; omega), if_pos hl]
theorem nextF_sum {c : UInt8} {r : List UInt8} {u k n : Nat} (h : takeF 0 0 r = (u, k, 0)) (hu : u ≤ 65535) (hl : u + 4 ≤ (takeRest r).length) (hn : n = (c :: r).length - ((takeRest r).drop (u + 4)).length)
    (hs : sealL ((c :: r).take (n - 4)) ≠ (c :: r).take n) : nextF (c :: r) = (50, 0, [], []) := by
  subst hn
  show (if _ then _ else if _ then _ else if _ then _ else if _ then _ else _) = _
  rw [h, if_neg (by simp), if_neg (by simp; omega), if_neg (by simp only; omega), if_pos hs]
theorem nextF_ok {c : UInt8} {r : List UInt8} {u k n : Nat} (h : takeF 0 0 r = (u, k, 0)) (hu : u ≤ 65535) (hl : u + 4 ≤ (takeRest r).length) (hn : n = (c :: r).length - ((takeRest r).drop (u + 4)).length)
    (hs : sealL ((c :: r).take (n - 4)) = (c :: r).take n) : nextF (c :: r) = (0, (c.toNat : Int), (takeRest r).take u, (takeRest r).drop (u + 4)) := by
  subst hn
  show (if _ then _ else if _ then _ else if _ then _ else if _ then _ else _) = _
  rw [h, if_neg (by simp), if_neg (by simp; omega), if_neg (by simp only; omega), if_neg (fun e => e hs)]

set_option maxRecDepth 100000 in
set_option maxHeartbeats 8000000 in
theorem Next_e10 (v : Value) (c : UInt8) (r : List UInt8) (w : World) (hT : HalvesAt w) (hlen : (c :: r).length ≤ 200000) (hr : Reads w b8 v (c :: r)) (hs : takeF 0 0 r = (0, 0, 10)) :
    Calls Tryz.prog 55 #[v] w (NextEnd (c :: r) w) := by
  have hmf : ∀ (fn : Fn) (first cap : Array Value) (w : World), (Instr.makeFunc fn first cap).run Tryz.prog w = .ok (.func fn first cap) w := fun _ _ _ _ => rfl
  rcases hr with ⟨h0, _⟩ | ⟨b, off, cap, rfl, h1, h2, h3, h4⟩
  · cases h0
  have hr : Reads w b8 (.slice (some ⟨b, off, none⟩) (c :: r).length cap) (c :: r) := .inr ⟨b, off, cap, rfl, h1, h2, h3, h4⟩
  obtain ⟨vt, hsl, hrt⟩ := slice_tail (P := Tryz.prog) (k := 1) Tryz.underlying43 cell_u8 hr (by simp)
  have hrt : Reads w b8 vt r := hrt
  have hc0 : w.cell? ⟨b, off, none⟩ = some (.int .u8 (c.toNat : Int)) := h4 0 (by simp)
  obtain ⟨N, hN⟩ : ∃ N, (c :: r).length = N := ⟨_, rfl⟩
  have hN1 : 1 ≤ N := by rw [← hN]; simp
  have hrl : r.length ≤ 200000 := by simp at hlen; omega
  rw [hN] at hsl h1 hlen
  have hsl1 : ∀ W : World, (Instr.slice 43 (.slice (some ⟨b, off, none⟩) N cap) (some (.int .i64 1)) none none).run Tryz.prog W = .ok vt W := hsl
  have hN0 : ((N : Int) == 0) = false := by simp; omega
  have hN1' : (1 : Int) ≤ N := by omega
  have h1' : (N : Int) ≤ cap := by omega
  have h2' : (cap : Int) ≤ 9223372036854775807 := by simp only [maxLen] at h2; omega
  clear hsl
  obtain ⟨W4, hW4⟩ : ∃ W4, (((w.alloc (Obj.cells #[Value.int IntKind.i64 0] 3)).alloc (Obj.cells #[Value.slice none 0 0] 43)).alloc (Obj.cells #[Value.slice none 0 0] 43)).alloc (Obj.cells #[Value.int IntKind.i64 0] 44) = W4 := ⟨_, rfl⟩
  have f4 : four w.heap.size (.int .i64 0) (.slice none 0 0) (.slice none 0 0) 0 W4 := by
    subst hW4
    refine ⟨?_, ?_, ?_, ?_, ?_, ?_, ?_, ?_⟩ <;> simp [go_sem]
  have hb4 : Below w.heap.size w W4 := by
    subst hW4
    exact ((((Below.refl _ _).alloc (Nat.le_refl _) _).alloc (by simp) _).alloc (by simp; omega) _).alloc (by simp; omega) _
  have hs4 : w.heap.size + 4 = W4.heap.size := by subst hW4; simp
  have hrt4 := hrt.below hb4 (Nat.le_refl _)
  have hr4 := hr.below hb4 (Nat.le_refl _)
  rw [hN] at hr4
  have hk := Take_any vt r W4 (by omega) hrt4
  clear h4 hr hrt
  rw [hN]
  go_enter_defers Tryz.func55, Tryz.ntmps55
  go_wp2_with fail
  refine hk.mono ?_
  rintro e w5 ⟨vl, rfl, hown, hb5⟩
  have f5 := f4.below hb5 hs4
  have hb5' : Below w.heap.size w w5 := hb4.trans (hb5.mono hb4.size)
  have hr5 := hr4.below hb5 (Nat.le_refl _)
  have hc5 := (hb5'.cell (p := ⟨b, off, none⟩) h3).trans hc0
  have hT5 := hT.below hb5' (Nat.le_refl _)
  have hs5 : w.heap.size + 4 ≤ w5.heap.size := by have := hb5.size; omega
  clear hk hW4 f4 hb4 hrt4 hr4 hb5
  obtain ⟨B, hBw⟩ : ∃ B, w.heap.size = B := ⟨_, rfl⟩
  rw [hBw] at f5 hs5 hb5' ⊢
  obtain ⟨q0, q1, q2, q3, z0, z1, z2, z3⟩ := f5
  have q2 : w5.cell? ⟨B + 1 + 1, 0, none⟩ = some (.slice none 0 0) := q2
  have q3 : w5.cell? ⟨B + 1 + 1 + 1, 0, none⟩ = some (.int .i64 0) := q3
  have z2 : w5.frozen? ⟨B + 1 + 1, 0, none⟩ = false := z2
  have z3 : w5.frozen? ⟨B + 1 + 1 + 1, 0, none⟩ = false := z3
  have ho0 := owns_slice hown
  have HS := Lib.hid hs
  have HE := Lib.hid (nextF_err (c := c) (r := r) (by rw [hs]; decide))
  rw [hs] at HE
  rw [HS.out]
  obtain ⟨al, cl, rfl⟩ := ho0
  clear hs hown
  go_wp2_with fail
  go_region
  go_wp2_with fail
  refine door (B := B) (k := 0) (n := 10) (vb := .slice none 0 0) (vr := .slice none 0 0) ⟨?_, ?_, ?_, ?_, ?_, ?_, ?_, ?_⟩ rfl rfl rfl rfl ?_
  all_goals try (simp [go_sem, q0, q1, q2, q3, z0, z1, z2, z3]; done)
  intro w' hb _
  rw [NextEnd, HE.out, hBw]
  refine ⟨.slice none 0 0, .slice none 0 0, rfl, Reads.nil _ _, Reads.nil _ _, Below.trans (Below.trans hb5' ?_) hb⟩
  repeat' (first | exact Below.refl _ _ | refine Below.setCell ?_ (by first | (simp only; omega) | exact Nat.le_refl _) _ | refine Below.drew ?_)

set_option maxRecDepth 100000 in
set_option maxHeartbeats 8000000 in
theorem Next_e11 (v : Value) (c : UInt8) (r : List UInt8) (w : World) (hT : HalvesAt w) (hlen : (c :: r).length ≤ 200000) (hr : Reads w b8 v (c :: r)) (hs : takeF 0 0 r = (0, 0, 11)) :
    Calls Tryz.prog 55 #[v] w (NextEnd (c :: r) w) := by
  have hmf : ∀ (fn : Fn) (first cap : Array Value) (w : World), (Instr.makeFunc fn first cap).run Tryz.prog w = .ok (.func fn first cap) w := fun _ _ _ _ => rfl
  rcases hr with ⟨h0, _⟩ | ⟨b, off, cap, rfl, h1, h2, h3, h4⟩
  · cases h0
  have hr : Reads w b8 (.slice (some ⟨b, off, none⟩) (c :: r).length cap) (c :: r) := .inr ⟨b, off, cap, rfl, h1, h2, h3, h4⟩
  obtain ⟨vt, hsl, hrt⟩ := slice_tail (P := Tryz.prog) (k := 1) Tryz.underlying43 cell_u8 hr (by simp)
  have hrt : Reads w b8 vt r := hrt
  have hc0 : w.cell? ⟨b, off, none⟩ = some (.int .u8 (c.toNat : Int)) := h4 0 (by simp)
  obtain ⟨N, hN⟩ : ∃ N, (c :: r).length = N := ⟨_, rfl⟩
  have hN1 : 1 ≤ N := by rw [← hN]; simp
  have hrl : r.length ≤ 200000 := by simp at hlen; omega
  rw [hN] at hsl h1 hlen
  have hsl1 : ∀ W : World, (Instr.slice 43 (.slice (some ⟨b, off, none⟩) N cap) (some (.int .i64 1)) none none).run Tryz.prog W = .ok vt W := hsl
  have hN0 : ((N : Int) == 0) = false := by simp; omega
  have hN1' : (1 : Int) ≤ N := by omega
  have h1' : (N : Int) ≤ cap := by omega
  have h2' : (cap : Int) ≤ 9223372036854775807 := by simp only [maxLen] at h2; omega
  clear hsl
  obtain ⟨W4, hW4⟩ : ∃ W4, (((w.alloc (Obj.cells #[Value.int IntKind.i64 0] 3)).alloc (Obj.cells #[Value.slice none 0 0] 43)).alloc (Obj.cells #[Value.slice none 0 0] 43)).alloc (Obj.cells #[Value.int IntKind.i64 0] 44) = W4 := ⟨_, rfl⟩
  have f4 : four w.heap.size (.int .i64 0) (.slice none 0 0) (.slice none 0 0) 0 W4 := by
    subst hW4
    refine ⟨?_, ?_, ?_, ?_, ?_, ?_, ?_, ?_⟩ <;> simp [go_sem]
  have hb4 : Below w.heap.size w W4 := by
    subst hW4
    exact ((((Below.refl _ _).alloc (Nat.le_refl _) _).alloc (by simp) _).alloc (by simp; omega) _).alloc (by simp; omega) _
  have hs4 : w.heap.size + 4 = W4.heap.size := by subst hW4; simp
  have hrt4 := hrt.below hb4 (Nat.le_refl _)
  have hr4 := hr.below hb4 (Nat.le_refl _)
  rw [hN] at hr4
  have hk := Take_any vt r W4 (by omega) hrt4
  clear h4 hr hrt
  rw [hN]
  go_enter_defers Tryz.func55, Tryz.ntmps55
  go_wp2_with fail
  refine hk.mono ?_
  rintro e w5 ⟨vl, rfl, hown, hb5⟩
  have f5 := f4.below hb5 hs4
  have hb5' : Below w.heap.size w w5 := hb4.trans (hb5.mono hb4.size)
  have hr5 := hr4.below hb5 (Nat.le_refl _)
  have hc5 := (hb5'.cell (p := ⟨b, off, none⟩) h3).trans hc0
  have hT5 := hT.below hb5' (Nat.le_refl _)
  have hs5 : w.heap.size + 4 ≤ w5.heap.size := by have := hb5.size; omega
  clear hk hW4 f4 hb4 hrt4 hr4 hb5
  obtain ⟨B, hBw⟩ : ∃ B, w.heap.size = B := ⟨_, rfl⟩
  rw [hBw] at f5 hs5 hb5' ⊢
  obtain ⟨q0, q1, q2, q3, z0, z1, z2, z3⟩ := f5
  have q2 : w5.cell? ⟨B + 1 + 1, 0, none⟩ = some (.slice none 0 0) := q2
  have q3 : w5.cell? ⟨B + 1 + 1 + 1, 0, none⟩ = some (.int .i64 0) := q3
  have z2 : w5.frozen? ⟨B + 1 + 1, 0, none⟩ = false := z2
  have z3 : w5.frozen? ⟨B + 1 + 1 + 1, 0, none⟩ = false := z3
  have ho0 := owns_slice hown
  have HS := Lib.hid hs
  have HE := Lib.hid (nextF_err (c := c) (r := r) (by rw [hs]; decide))
  rw [hs] at HE
  rw [HS.out]
  obtain ⟨al, cl, rfl⟩ := ho0
  clear hs hown
  go_wp2_with fail
  go_region
  go_wp2_with fail
  refine door (B := B) (k := 0) (n := 11) (vb := .slice none 0 0) (vr := .slice none 0 0) ⟨?_, ?_, ?_, ?_, ?_, ?_, ?_, ?_⟩ rfl rfl rfl rfl ?_
  all_goals try (simp [go_sem, q0, q1, q2, q3, z0, z1, z2, z3]; done)
  intro w' hb _
  rw [NextEnd, HE.out, hBw]
  refine ⟨.slice none 0 0, .slice none 0 0, rfl, Reads.nil _ _, Reads.nil _ _, Below.trans (Below.trans hb5' ?_) hb⟩
  repeat' (first | exact Below.refl _ _ | refine Below.setCell ?_ (by first | (simp only; omega) | exact Nat.le_refl _) _ | refine Below.drew ?_)

set_option maxRecDepth 100000 in
set_option maxHeartbeats 8000000 in
theorem Next_big (v : Value) (c : UInt8) (r : List UInt8) (w : World) (hT : HalvesAt w) (hlen : (c :: r).length ≤ 200000) (hr : Reads w b8 v (c :: r)) {u k : Nat} (hs : takeF 0 0 r = (u, k, 0)) (hbig : 65535 < u) :
    Calls Tryz.prog 55 #[v] w (NextEnd (c :: r) w) := by
  have hmf : ∀ (fn : Fn) (first cap : Array Value) (w : World), (Instr.makeFunc fn first cap).run Tryz.prog w = .ok (.func fn first cap) w := fun _ _ _ _ => rfl
  rcases hr with ⟨h0, _⟩ | ⟨b, off, cap, rfl, h1, h2, h3, h4⟩
  · cases h0
  have hr : Reads w b8 (.slice (some ⟨b, off, none⟩) (c :: r).length cap) (c :: r) := .inr ⟨b, off, cap, rfl, h1, h2, h3, h4⟩
  obtain ⟨vt, hsl, hrt⟩ := slice_tail (P := Tryz.prog) (k := 1) Tryz.underlying43 cell_u8 hr (by simp)
  have hrt : Reads w b8 vt r := hrt
  have hc0 : w.cell? ⟨b, off, none⟩ = some (.int .u8 (c.toNat : Int)) := h4 0 (by simp)
  obtain ⟨N, hN⟩ : ∃ N, (c :: r).length = N := ⟨_, rfl⟩
  have hN1 : 1 ≤ N := by rw [← hN]; simp
  have hrl : r.length ≤ 200000 := by simp at hlen; omega
  rw [hN] at hsl h1 hlen
  have hsl1 : ∀ W : World, (Instr.slice 43 (.slice (some ⟨b, off, none⟩) N cap) (some (.int .i64 1)) none none).run Tryz.prog W = .ok vt W := hsl
  have hN0 : ((N : Int) == 0) = false := by simp; omega
  have hN1' : (1 : Int) ≤ N := by omega
  have h1' : (N : Int) ≤ cap := by omega
  have h2' : (cap : Int) ≤ 9223372036854775807 := by simp only [maxLen] at h2; omega
  clear hsl
  obtain ⟨W4, hW4⟩ : ∃ W4, (((w.alloc (Obj.cells #[Value.int IntKind.i64 0] 3)).alloc (Obj.cells #[Value.slice none 0 0] 43)).alloc (Obj.cells #[Value.slice none 0 0] 43)).alloc (Obj.cells #[Value.int IntKind.i64 0] 44) = W4 := ⟨_, rfl⟩
  have f4 : four w.heap.size (.int .i64 0) (.slice none 0 0) (.slice none 0 0) 0 W4 := by
    subst hW4
    refine ⟨?_, ?_, ?_, ?_, ?_, ?_, ?_, ?_⟩ <;> simp [go_sem]
  have hb4 : Below w.heap.size w W4 := by
    subst hW4
    exact ((((Below.refl _ _).alloc (Nat.le_refl _) _).alloc (by simp) _).alloc (by simp; omega) _).alloc (by simp; omega) _
  have hs4 : w.heap.size + 4 = W4.heap.size := by subst hW4; simp
  have hrt4 := hrt.below hb4 (Nat.le_refl _)
  have hr4 := hr.below hb4 (Nat.le_refl _)
  rw [hN] at hr4
  have hk := Take_any vt r W4 (by omega) hrt4
  clear h4 hr hrt
  rw [hN]
  go_enter_defers Tryz.func55, Tryz.ntmps55
  go_wp2_with fail
  refine hk.mono ?_
  rintro e w5 ⟨vl, rfl, hown, hb5⟩
  have f5 := f4.below hb5 hs4
  have hb5' : Below w.heap.size w w5 := hb4.trans (hb5.mono hb4.size)
  have hr5 := hr4.below hb5 (Nat.le_refl _)
  have hc5 := (hb5'.cell (p := ⟨b, off, none⟩) h3).trans hc0
  have hT5 := hT.below hb5' (Nat.le_refl _)
  have hs5 : w.heap.size + 4 ≤ w5.heap.size := by have := hb5.size; omega
  clear hk hW4 f4 hb4 hrt4 hr4 hb5
  obtain ⟨B, hBw⟩ : ∃ B, w.heap.size = B := ⟨_, rfl⟩
  rw [hBw] at f5 hs5 hb5' ⊢
  obtain ⟨q0, q1, q2, q3, z0, z1, z2, z3⟩ := f5
  have q2 : w5.cell? ⟨B + 1 + 1, 0, none⟩ = some (.slice none 0 0) := q2
  have q3 : w5.cell? ⟨B + 1 + 1 + 1, 0, none⟩ = some (.int .i64 0) := q3
  have z2 : w5.frozen? ⟨B + 1 + 1, 0, none⟩ = false := z2
  have z3 : w5.frozen? ⟨B + 1 + 1 + 1, 0, none⟩ = false := z3
  have ho0 := owns_slice hown
  rw [hs]
  have HE := Lib.hid (nextF_big (c := c) hs hbig)
  have hbig' : (65535 : Int) < u := by omega
  obtain ⟨al, cl, rfl⟩ := ho0
  clear hs hown
  go_wp2_with fail
  refine door (B := B) (k := 0) (n := 11) (vb := .slice none 0 0) (vr := .slice none 0 0) ⟨?_, ?_, ?_, ?_, ?_, ?_, ?_, ?_⟩ rfl rfl rfl rfl ?_
  all_goals try (simp [go_sem, q0, q1, q2, q3, z0, z1, z2, z3]; done)
  intro w' hb _
  rw [NextEnd, HE.out, hBw]
  refine ⟨.slice none 0 0, .slice none 0 0, rfl, Reads.nil _ _, Reads.nil _ _, Below.trans (Below.trans hb5' ?_) hb⟩
  repeat' (first | exact Below.refl _ _ | refine Below.setCell ?_ (by first | (simp only; omega) | exact Nat.le_refl _) _ | refine Below.drew ?_)

set_option maxRecDepth 100000 in
set_option maxHeartbeats 8000000 in
theorem Next_short (v : Value) (c : UInt8) (r : List UInt8) (w : World) (hT : HalvesAt w) (hlen : (c :: r).length ≤ 200000) (hr : Reads w b8 v (c :: r)) {u k : Nat} (hs : takeF 0 0 r = (u, k, 0)) (hu' : (u : Int) ≤ 65535) (hlong : (takeRest r).length < u + 4) :
    Calls Tryz.prog 55 #[v] w (NextEnd (c :: r) w) := by
  have hmf : ∀ (fn : Fn) (first cap : Array Value) (w : World), (Instr.makeFunc fn first cap).run Tryz.prog w = .ok (.func fn first cap) w := fun _ _ _ _ => rfl
  rcases hr with ⟨h0, _⟩ | ⟨b, off, cap, rfl, h1, h2, h3, h4⟩
  · cases h0
  have hr : Reads w b8 (.slice (some ⟨b, off, none⟩) (c :: r).length cap) (c :: r) := .inr ⟨b, off, cap, rfl, h1, h2, h3, h4⟩
  obtain ⟨vt, hsl, hrt⟩ := slice_tail (P := Tryz.prog) (k := 1) Tryz.underlying43 cell_u8 hr (by simp)
  have hrt : Reads w b8 vt r := hrt
  have hc0 : w.cell? ⟨b, off, none⟩ = some (.int .u8 (c.toNat : Int)) := h4 0 (by simp)
  obtain ⟨N, hN⟩ : ∃ N, (c :: r).length = N := ⟨_, rfl⟩
  have hN1 : 1 ≤ N := by rw [← hN]; simp
  have hrl : r.length ≤ 200000 := by simp at hlen; omega
  rw [hN] at hsl h1 hlen
  have hsl1 : ∀ W : World, (Instr.slice 43 (.slice (some ⟨b, off, none⟩) N cap) (some (.int .i64 1)) none none).run Tryz.prog W = .ok vt W := hsl
  have hN0 : ((N : Int) == 0) = false := by simp; omega
  have hN1' : (1 : Int) ≤ N := by omega
  have h1' : (N : Int) ≤ cap := by omega
  have h2' : (cap : Int) ≤ 9223372036854775807 := by simp only [maxLen] at h2; omega
  clear hsl
  obtain ⟨W4, hW4⟩ : ∃ W4, (((w.alloc (Obj.cells #[Value.int IntKind.i64 0] 3)).alloc (Obj.cells #[Value.slice none 0 0] 43)).alloc (Obj.cells #[Value.slice none 0 0] 43)).alloc (Obj.cells #[Value.int IntKind.i64 0] 44) = W4 := ⟨_, rfl⟩
  have f4 : four w.heap.size (.int .i64 0) (.slice none 0 0) (.slice none 0 0) 0 W4 := by
    subst hW4
    refine ⟨?_, ?_, ?_, ?_, ?_, ?_, ?_, ?_⟩ <;> simp [go_sem]
  have hb4 : Below w.heap.size w W4 := by
    subst hW4
    exact ((((Below.refl _ _).alloc (Nat.le_refl _) _).alloc (by simp) _).alloc (by simp; omega) _).alloc (by simp; omega) _
  have hs4 : w.heap.size + 4 = W4.heap.size := by subst hW4; simp
  have hrt4 := hrt.below hb4 (Nat.le_refl _)
  have hr4 := hr.below hb4 (Nat.le_refl _)
  rw [hN] at hr4
  have hk := Take_any vt r W4 (by omega) hrt4
  clear h4 hr hrt
  rw [hN]
  go_enter_defers Tryz.func55, Tryz.ntmps55
  go_wp2_with fail
  refine hk.mono ?_
  rintro e w5 ⟨vl, rfl, hown, hb5⟩
  have f5 := f4.below hb5 hs4
  have hb5' : Below w.heap.size w w5 := hb4.trans (hb5.mono hb4.size)
  have hr5 := hr4.below hb5 (Nat.le_refl _)
  have hc5 := (hb5'.cell (p := ⟨b, off, none⟩) h3).trans hc0
  have hT5 := hT.below hb5' (Nat.le_refl _)
  have hs5 : w.heap.size + 4 ≤ w5.heap.size := by have := hb5.size; omega
  clear hk hW4 f4 hb4 hrt4 hr4 hb5
  obtain ⟨B, hBw⟩ : ∃ B, w.heap.size = B := ⟨_, rfl⟩
  rw [hBw] at f5 hs5 hb5' ⊢
  obtain ⟨q0, q1, q2, q3, z0, z1, z2, z3⟩ := f5
  have q2 : w5.cell? ⟨B + 1 + 1, 0, none⟩ = some (.slice none 0 0) := q2
  have q3 : w5.cell? ⟨B + 1 + 1 + 1, 0, none⟩ = some (.int .i64 0) := q3
  have z2 : w5.frozen? ⟨B + 1 + 1, 0, none⟩ = false := z2
  have z3 : w5.frozen? ⟨B + 1 + 1 + 1, 0, none⟩ = false := z3
  have ho0 := owns_slice hown
  rw [hs]
  have HE := Lib.hid (nextF_short (c := c) hs (by omega) hlong)
  obtain ⟨al, cl, rfl⟩ := ho0
  have hln := hown.1
  clear hs hown
  generalize (takeRest r).length = L at *
  have hlong' : (L : Int) < u + 4 := by omega
  go_wp2_with fail
  refine door (B := B) (k := 0) (n := 10) (vb := .slice none 0 0) (vr := .slice none 0 0) ⟨?_, ?_, ?_, ?_, ?_, ?_, ?_, ?_⟩ rfl rfl rfl rfl ?_
  all_goals try (simp [go_sem, q0, q1, q2, q3, z0, z1, z2, z3]; done)
  intro w' hb _
  rw [NextEnd, HE.out, hBw]
  refine ⟨.slice none 0 0, .slice none 0 0, rfl, Reads.nil _ _, Reads.nil _ _, Below.trans (Below.trans hb5' ?_) hb⟩
  repeat' (first | exact Below.refl _ _ | refine Below.setCell ?_ (by first | (simp only; omega) | exact Nat.le_refl _) _ | refine Below.drew ?_)
end Go.Proofs.YtcjbgchhalilnaaGreatDoor
