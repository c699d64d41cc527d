/- frame.Next: its three regions that leave their order open. -/
import Derived.Test.YtcjbgchhalilnaaGreatDoorEg
import Derived.Test.YtcjbgchhalilnaaGreatDoorKe
namespace Go.Proofs.YtcjbgchhalilnaaGreatDoor
open Go Go.RowKit

/-- The sum's region: what its calls have made. -/
def SumInv (W7 : World) (B0 n4 : Nat) (xs : List UInt8) (L : Nat → Bool) (a : Act) (w : World) : Prop :=
  Below B0 W7 w ∧ (L 4 = true → L 5 = false → w.ownsRow B0 5 1 (a.tmps.getD 53 undef) n4 (xs.map b8)) ∧ (L 5 = true → L 9 = false → Reads w b8 (a.tmps.getD 54 undef) (sealL xs))
theorem SumInv.pure {W7 : World} {B0 n4 : Nat} {xs : List UInt8} {L : Nat → Bool} {a : Act} {w : World} (h : SumInv W7 B0 n4 xs L a w) {i d : Nat} {v : Value} (h4 : (4 : Nat) ≠ i) (h5 : (5 : Nat) ≠ i) (h9 : (9 : Nat) ≠ i) (hd : d ≠ 53) (hd' : d ≠ 54) :
    SumInv W7 B0 n4 xs (upd L i) (a.put (some d) v) w := by
  obtain ⟨g0, g1, g2⟩ := h
  refine ⟨g0, ?_, ?_⟩
  · rw [upd_ne L h4, upd_ne L h5, put_get hd]
    exact g1
  · rw [upd_ne L h5, upd_ne L h9, put_get hd']
    exact g2

theorem reads_exact {w : World} {g o n cap u : Nat} {xs : List UInt8} (h : Reads w b8 (.slice (some ⟨g, o, none⟩) n cap) xs) (hu : u ≤ xs.length) : Reads w b8 (.slice (some ⟨g, o, none⟩) u u) (xs.take u) := by
  rcases h with ⟨rfl, _⟩ | ⟨b, off, cap', h1, h2, h3, h4, h5⟩
  · obtain rfl : u = 0 := by simpa using hu
    exact .inl ⟨rfl, some ⟨g, o, none⟩, 0, rfl, Nat.zero_le _, fun e => by cases e⟩
  · simp only [Value.slice.injEq, Option.some.injEq, Addr.mk.injEq, and_true] at h1
    obtain ⟨⟨rfl, rfl⟩, rfl, rfl⟩ := h1
    refine .inr ⟨g, o, u, by rw [List.length_take, Nat.min_eq_left hu], by rw [List.length_take]; omega, by omega, h4, fun i hi => ?_⟩
    rw [List.length_take] at hi
    rw [h5 i (by omega), List.getElem_take]

set_option maxRecDepth 100000 in
theorem sum_region {Q : Exit → Act → World → Prop} {a0 : Act} {W7 : World} {b off N cap n4 nn B0 : Nat} {xs : List UInt8} (hsz0 : a0.tmps.size = 65) (hT : HalvesAt W7) (hr : Reads W7 b8 (.slice (some ⟨b, off, none⟩) N cap) xs) (hN : xs.length = N) (hnn : nn = n4 + 4) (hle : nn ≤ N) (_hcap : (cap : Int) ≤ 9223372036854775807) (hn4L : n4 ≤ 200000)
    (hB0 : W7.heap.size = B0) (t0 : a0.tmps.getD 0 undef = .slice (some ⟨b, off, none⟩) N cap) (t8 : a0.tmps.getD 8 undef = .int .i64 (nn : Int))
    (hQ : ∀ a w8, Below B0 W7 w8 → a.tmps.getD 59 undef = .bool (!(sealL (xs.take n4) == xs.take nn)) → (∀ t, isDst (opsOf Tryz.f55 14) t = false → a.tmps.getD t undef = a0.tmps.getD t undef) → a.tmps.size = 65 → a.defers = a0.defers → Q .normal a w8) :
    (Code.region 14 (opsOf Tryz.f55 14) true).wp Tryz.prog Q a0 W7 := by
  have hlc := hr.len_cap
  have hnr : Reads W7 b8 (.slice (some ⟨b, off, none⟩) nn cap) (xs.take nn) := hr.head _ (by omega)
  have hnr4 : Reads W7 b8 (.slice (some ⟨b, off, none⟩) n4 cap) (xs.take n4) := hr.head _ (by omega)
  have hl4 : (xs.take n4).length = n4 := by rw [List.length_take, hN]; omega
  have hcapN : (nn : Int) ≤ cap := by omega
  have hn4cap : (n4 : Int) ≤ cap := by omega
  have hsub : (nn : Int) - 4 = n4 := by omega
  have hw4 : IntKind.i64.wrap (n4 : Int) = n4 := IntWalk.i64_in _ (by omega)
  clear hr hnn
  refine region_open (by kernel_rfl) (fun i => ([fun v => v = .slice (some ⟨b, off, none⟩) N cap, fun v => v = .int .i64 (nn : Int), fun v => v = .int .i64 (n4 : Int), fun v => v = .slice (some ⟨b, off, none⟩) n4 cap, fun _ => True, fun _ => True,
      fun v => v = .slice (some ⟨b, off, none⟩) N cap, fun v => v = .int .i64 (nn : Int), fun v => v = .slice (some ⟨b, off, none⟩) nn cap, fun v => v = .bool (sealL (xs.take n4) == xs.take nn), fun v => v = .bool (!(sealL (xs.take n4) == xs.take nn))] : List (Value → Prop)).getD i fun _ => True)
    (SumInv W7 B0 n4 (xs.take n4)) (by rw [hsz0]; kernel_rfl) ⟨(by rw [← hB0]; exact (Below.refl _ _).drew), by simp, by simp⟩ (ops_all ?_) ?_
  · refine ⟨?_, ?_, ?_, ?_, ?_, ?_, ?_, ?_, ?_, ?_, ?_, trivial⟩
    · intro ho L a w hG hsz hLi hw hd hold
      have x0 : a.tmps.getD 0 undef = .slice (some ⟨b, off, none⟩) N cap := (hold 0 rfl).trans t0
      exact op_val ho (met_none rfl) (run_move _ rfl x0) rfl (hG.pure (by decide) (by decide) (by decide) (by decide) (by decide))
    · intro ho L a w hG hsz hLi hw hd hold
      have x8 : a.tmps.getD 8 undef = .int .i64 (nn : Int) := (hold 8 rfl).trans t8
      exact op_val ho (met_none rfl) (run_move _ rfl x8) rfl (hG.pure (by decide) (by decide) (by decide) (by decide) (by decide))
    · intro ho L a w hG hsz hLi hw hd hold
      have x50 : a.tmps.getD 50 undef = .int .i64 (nn : Int) := hd 1 rfl rfl
      exact op_val ho (met_none rfl) (by go_simp) rfl (hG.pure (by decide) (by decide) (by decide) (by decide) (by decide))
    · intro ho L a w hG hsz hLi hw hd hold
      have x49 : a.tmps.getD 49 undef = .slice (some ⟨b, off, none⟩) N cap := hd 0 rfl rfl
      have x51 : a.tmps.getD 51 undef = .int .i64 (n4 : Int) := hd 2 rfl rfl
      exact op_val ho (met_none rfl) (by go_simp) rfl (hG.pure (by decide) (by decide) (by decide) (by decide) (by decide))
    · intro ho L a w ⟨hb, g1, g2⟩ hsz hLi hw hd hold
      have x52 : a.tmps.getD 52 undef = .slice (some ⟨b, off, none⟩) n4 cap := hd 3 rfl rfl
      refine op_call (args := #[.slice (some ⟨b, off, none⟩) n4 cap]) ho (met_none rfl) (run_callf Tryz.func53 (by kernel_rfl) rfl rfl (by simpa [Act.eval] using x52)) ?_
      refine (clone_any _ _ _ (by rw [hl4]; omega) (hnr4.below hb (by omega))).mono ?_
      rintro e w2 ⟨v2, rfl, hown2, hb2⟩
      have hsz2 := hb.size
      rw [hl4] at hown2
      have e53 : (a.put (some 53) v2).tmps.getD 53 undef = v2 := put_get_same (by rw [hsz, hsz0]; decide)
      refine ⟨v2, rfl, trivial, hb.trans (hb2.mono (by omega)), fun _ _ => ?_, fun h5 h9 => ?_⟩
      · show w2.ownsRow B0 5 1 ((a.put (some 53) v2).tmps.getD 53 undef) n4 _
        rw [e53]
        exact hown2.mono (by omega)
      · have h5' : L 5 = true := h5
        have h9' : L 9 = false := h9
        have := (g2 h5' h9').below hb2 (Nat.le_refl _)
        show Reads w2 b8 ((a.put (some 53) v2).tmps.getD 54 undef) _
        rw [put_get (by decide)]
        exact this
    · intro ho L a w ⟨hb, g1, g2⟩ hsz hLi hw hd hold
      have o53 := g1 (hw 4 rfl) hLi
      generalize hv53 : a.tmps.getD 53 undef = v53 at o53
      refine op_call (args := #[v53]) ho (met_none rfl) (run_callf Tryz.func54 (by kernel_rfl) rfl rfl (by simpa [Act.eval] using hv53)) ?_
      have o53' : w.ownsRow B0 5 1 v53 (xs.take n4).length ((xs.take n4).map b8) := by rw [hl4]; exact o53
      refine (seal_any B0 v53 _ w (hT.below hb (by omega)) (by rw [hl4]; exact hn4L) (by have := hb.size; omega) o53').mono ?_
      rintro e w2 ⟨v2, rfl, hown2, hb2⟩
      have e54 : (a.put (some 54) v2).tmps.getD 54 undef = v2 := put_get_same (by rw [hsz, hsz0]; decide)
      refine ⟨v2, rfl, trivial, hb.trans hb2, ⟨fun _ h => (by have h' : true = false := h; cases h'), fun _ _ => ?_⟩⟩
      show Reads w2 b8 ((a.put (some 54) v2).tmps.getD 54 undef) _
      rw [e54]
      exact Reads.of_owns hown2
    · intro ho L a w hG hsz hLi hw hd hold
      have x0 : a.tmps.getD 0 undef = .slice (some ⟨b, off, none⟩) N cap := (hold 0 rfl).trans t0
      exact op_val ho (met_none rfl) (run_move _ rfl x0) rfl (hG.pure (by decide) (by decide) (by decide) (by decide) (by decide))
    · intro ho L a w hG hsz hLi hw hd hold
      have x8 : a.tmps.getD 8 undef = .int .i64 (nn : Int) := (hold 8 rfl).trans t8
      exact op_val ho (met_none rfl) (run_move _ rfl x8) rfl (hG.pure (by decide) (by decide) (by decide) (by decide) (by decide))
    · intro ho L a w hG hsz hLi hw hd hold
      have x55 : a.tmps.getD 55 undef = .slice (some ⟨b, off, none⟩) N cap := hd 6 rfl rfl
      have x56 : a.tmps.getD 56 undef = .int .i64 (nn : Int) := hd 7 rfl rfl
      exact op_val ho (met_none rfl) (by go_simp) rfl (hG.pure (by decide) (by decide) (by decide) (by decide) (by decide))
    · intro ho L a w ⟨hb, g1, g2⟩ hsz hLi hw hd hold
      have x57 : a.tmps.getD 57 undef = .slice (some ⟨b, off, none⟩) nn cap := hd 8 rfl rfl
      have r54 := g2 (hw 5 rfl) hLi
      generalize hv54 : a.tmps.getD 54 undef = v54 at r54
      refine op_call (args := #[v54, .slice (some ⟨b, off, none⟩) nn cap]) ho (met_none rfl) (run_callf Tryz.func70 (by kernel_rfl) rfl rfl (by simp [Act.eval]; exact ⟨by simpa using hv54, by simpa using x57⟩)) ?_
      refine (Equal_any v54 _ _ _ w r54 (hnr.below hb (by omega))).mono ?_
      rintro e w2 ⟨rfl, hb2⟩
      have h5 := hw 5 rfl
      refine ⟨_, rfl, rfl, hb.trans (hb2.mono (by have := hb.size; omega)), fun _ h => ?_, fun _ h => (by have h' : true = false := h; cases h')⟩
      have h' : L 5 = false := h
      rw [h5] at h'
      cases h'
    · intro ho L a w hG hsz hLi hw hd hold
      have x58 : a.tmps.getD 58 undef = .bool (sealL (xs.take n4) == xs.take nn) := hd 9 rfl rfl
      exact op_val ho (met_none rfl) (by go_simp) rfl (hG.pure (by decide) (by decide) (by decide) (by decide) (by decide))
  · intro L a w8 hall hG hS hold hsz hdf
    exact hQ a w8 hG.1 (hS 10 _ rfl rfl) hold (hsz.trans hsz0) hdf

theorem four.setB {B : Nat} {vk vb vr : Value} {n : Int} {w : World} (h : four B vk vb vr n w) (x : Value) : four B vk x vr n (w.setCell ⟨B + 1, 0, none⟩ x) := by
  obtain ⟨h1, h2, h3, h4, z1, z2, z3, z4⟩ := h
  refine ⟨?_, ?_, ?_, ?_, ?_, ?_, ?_, ?_⟩ <;> simp [go_sem, *]
theorem four.setR {B : Nat} {vk vb vr : Value} {n : Int} {w : World} (h : four B vk vb vr n w) (x : Value) : four B vk vb x n (w.setCell ⟨B + 2, 0, none⟩ x) := by
  obtain ⟨h1, h2, h3, h4, z1, z2, z3, z4⟩ := h
  refine ⟨?_, ?_, ?_, ?_, ?_, ?_, ?_, ?_⟩ <;> simp [go_sem, *]
theorem four.setK {B : Nat} {vk vb vr : Value} {n : Int} {w : World} (h : four B vk vb vr n w) (x : Value) : four B x vb vr n (w.setCell ⟨B, 0, none⟩ x) := by
  obtain ⟨h1, h2, h3, h4, z1, z2, z3, z4⟩ := h
  refine ⟨?_, ?_, ?_, ?_, ?_, ?_, ?_, ?_⟩ <;> simp [go_sem, *]
theorem four.setE {B : Nat} {vk vb vr : Value} {n : Int} {w : World} (h : four B vk vb vr n w) (x : Int) : four B vk vb vr x (w.setCell ⟨B + 3, 0, none⟩ (.int .i64 x)) := by
  obtain ⟨h1, h2, h3, h4, z1, z2, z3, z4⟩ := h
  refine ⟨?_, ?_, ?_, ?_, ?_, ?_, ?_, ?_⟩ <;> simp [go_sem, *]

/-- The region that lays body and rest. -/
def CutInv (W : World) (B : Nat) (vk v0 vb vr vl : Value) (LL : Nat) (ys : List UInt8) (L : Nat → Bool) (_ : Act) (w : World) : Prop :=
  four B vk (if L 9 = true then vb else v0) (if L 10 = true then vr else v0) 0 w ∧ Below B W w ∧ w.ownsRow (B + 4) 5 1 vl LL (ys.map b8)
theorem CutInv.pure {W : World} {B : Nat} {vk v0 vb vr vl : Value} {LL : Nat} {ys : List UInt8} {L : Nat → Bool} {a a' : Act} {w : World} (h : CutInv W B vk v0 vb vr vl LL ys L a w) {i : Nat} (h9 : (9 : Nat) ≠ i) (h10 : (10 : Nat) ≠ i) :
    CutInv W B vk v0 vb vr vl LL ys (upd L i) a' w := by
  unfold CutInv at h ⊢
  rw [upd_ne L h9, upd_ne L h10]
  exact h

set_option maxRecDepth 100000 in
theorem cut_region {Q : Exit → Act → World → Prop} {a0 : Act} {W : World} {B g u LL cl M cr : Nat} {ar : Option Addr} {vk v0 : Value} {ys : List UInt8} (hsz0 : a0.tmps.size = 65) (h4 : four B vk v0 v0 0 W) (hown : W.ownsRow (B + 4) 5 1 (.slice (some ⟨g, 0, none⟩) LL cl) LL (ys.map b8))
    (hsl : ∀ W : World, (Instr.slice 43 (.slice (some ⟨g, 0, none⟩) LL cl) (some (.int .i64 ((u : Int) + 4))) none none).run Tryz.prog W = .ok (.slice ar M cr) W) (hu : u ≤ cl) (hu' : (u : Int) ≤ 65535) (_hcl : (cl : Int) ≤ 9223372036854775807)
    (t7 : a0.tmps.getD 7 undef = .slice (some ⟨g, 0, none⟩) LL cl) (t6 : a0.tmps.getD 6 undef = .int .u64 (u : Int)) (t3 : a0.tmps.getD 3 undef = .pointer (some ⟨B + 1, 0, none⟩)) (t4 : a0.tmps.getD 4 undef = .pointer (some ⟨B + 2, 0, none⟩))
    (hQ : ∀ a w8, four B vk (.slice (some ⟨g, 0, none⟩) u u) (.slice ar M cr) 0 w8 → Below B W w8 → w8.ownsRow (B + 4) 5 1 (.slice (some ⟨g, 0, none⟩) LL cl) LL (ys.map b8) → (∀ t, isDst (opsOf Tryz.f55 11) t = false → a.tmps.getD t undef = a0.tmps.getD t undef) → a.tmps.size = 65 → a.defers = a0.defers → Q .normal a w8) :
    (Code.region 11 (opsOf Tryz.f55 11) true).wp Tryz.prog Q a0 W := by
  have hucl : (u : Int) ≤ cl := by omega
  have hw4 : IntKind.i64.wrap ((u : Int) + 4) = (u : Int) + 4 := IntWalk.i64_in _ (by omega)
  have hwu : IntKind.i64.wrap (u : Int) = u := IntWalk.i64_in _ (by omega)
  refine region_open (by kernel_rfl) (fun i => ([fun v => v = .slice (some ⟨g, 0, none⟩) LL cl, fun v => v = .int .u64 (u : Int), fun v => v = .int .u64 (u : Int), fun v => v = .slice (some ⟨g, 0, none⟩) u u, fun v => v = .slice (some ⟨g, 0, none⟩) LL cl, fun v => v = .int .u64 (u : Int), fun v => v = .int .i64 (u : Int), fun v => v = .int .i64 ((u : Int) + 4), fun v => v = .slice ar M cr] : List (Value → Prop)).getD i fun _ => True)
    (CutInv W B vk v0 (.slice (some ⟨g, 0, none⟩) u u) (.slice ar M cr) (.slice (some ⟨g, 0, none⟩) LL cl) LL ys) (by rw [hsz0]; kernel_rfl) ⟨h4, (Below.refl _ _).drew, owns_below hown (Below.refl _ _).drew⟩ (ops_all ?_) ?_
  · refine ⟨?_, ?_, ?_, ?_, ?_, ?_, ?_, ?_, ?_, ?_, ?_, trivial⟩
    · intro ho L a w hG hsz hLi hw hd hold
      exact op_val ho (met_none rfl) (run_move _ rfl ((hold 7 rfl).trans t7)) rfl (hG.pure (by decide) (by decide))
    · intro ho L a w hG hsz hLi hw hd hold
      exact op_val ho (met_none rfl) (run_move _ rfl ((hold 6 rfl).trans t6)) rfl (hG.pure (by decide) (by decide))
    · intro ho L a w hG hsz hLi hw hd hold
      exact op_val ho (met_none rfl) (run_move _ rfl ((hold 6 rfl).trans t6)) rfl (hG.pure (by decide) (by decide))
    · intro ho L a w hG hsz hLi hw hd hold
      have x31 : a.tmps.getD 31 undef = .slice (some ⟨g, 0, none⟩) LL cl := hd 0 rfl rfl
      have x32 : a.tmps.getD 32 undef = .int .u64 (u : Int) := hd 1 rfl rfl
      have x33 : a.tmps.getD 33 undef = .int .u64 (u : Int) := hd 2 rfl rfl
      clear hsl
      exact op_val ho (met_none rfl) (by go_simp) rfl (hG.pure (by decide) (by decide))
    · intro ho L a w hG hsz hLi hw hd hold
      exact op_val ho (met_none rfl) (run_move _ rfl ((hold 7 rfl).trans t7)) rfl (hG.pure (by decide) (by decide))
    · intro ho L a w hG hsz hLi hw hd hold
      exact op_val ho (met_none rfl) (run_move _ rfl ((hold 6 rfl).trans t6)) rfl (hG.pure (by decide) (by decide))
    · intro ho L a w hG hsz hLi hw hd hold
      have x36 : a.tmps.getD 36 undef = .int .u64 (u : Int) := hd 5 rfl rfl
      exact op_val ho (met_none rfl) (by go_simp) rfl (hG.pure (by decide) (by decide))
    · intro ho L a w hG hsz hLi hw hd hold
      have x37 : a.tmps.getD 37 undef = .int .i64 (u : Int) := hd 6 rfl rfl
      exact op_val ho (met_none rfl) (by go_simp) rfl (hG.pure (by decide) (by decide))
    · intro ho L a w hG hsz hLi hw hd hold
      have x35 : a.tmps.getD 35 undef = .slice (some ⟨g, 0, none⟩) LL cl := hd 4 rfl rfl
      have x38 : a.tmps.getD 38 undef = .int .i64 ((u : Int) + 4) := hd 7 rfl rfl
      exact op_val ho (met_none rfl) (run_sliceLo rfl x35 x38 (by simp [Instr.sliceAt, run_underlying Tryz.underlying43, hsl w])) rfl (hG.pure (by decide) (by decide))
    · intro ho L a w ⟨f, hb, ow⟩ hsz hLi hw hd hold
      have x3 := (hold 3 rfl).trans t3
      have x34 : a.tmps.getD 34 undef = .slice (some ⟨g, 0, none⟩) u u := hd 3 rfl rfl
      have hc := f.2.1
      have hz := f.2.2.2.2.2.1
      refine op_skip (w' := w.setCell ⟨B + 1, 0, none⟩ (.slice (some ⟨g, 0, none⟩) u u)) ho (met_none rfl) rfl (by go_simp) ⟨?_, hb.setCell (p := ⟨B + 1, 0, none⟩) (by simp only; omega) _, ownsRow_setCell_below ow (by simp only; omega) _⟩
      rw [upd_same, if_pos rfl, upd_ne L (by decide)]
      exact f.setB _
    · intro ho L a w ⟨f, hb, ow⟩ hsz hLi hw hd hold
      have x4 := (hold 4 rfl).trans t4
      have x39 : a.tmps.getD 39 undef = .slice ar M cr := hd 8 rfl rfl
      have hc := f.2.2.1
      have hz := f.2.2.2.2.2.2.1
      clear hsl
      refine op_skip (w' := w.setCell ⟨B + 2, 0, none⟩ (.slice ar M cr)) ho (met_none rfl) rfl (by go_simp) ⟨?_, hb.setCell (p := ⟨B + 2, 0, none⟩) (by simp only; omega) _, ownsRow_setCell_below ow (by simp only; omega) _⟩
      rw [upd_same, if_pos rfl, upd_ne L (by decide)]
      exact f.setR _
  · intro L a w8 hall hG hS hold hsz hdf
    obtain ⟨f, hb, ow⟩ := hG
    rw [if_pos (hall 9 (of_decide_eq_true (by kernel_rfl))), if_pos (hall 10 (of_decide_eq_true (by kernel_rfl)))] at f
    exact hQ a w8 f hb ow hold (hsz.trans hsz0) hdf

theorem tail_reads {w : World} {base g LL cl M cr k : Nat} {ar : Option Addr} {ys : List UInt8} (hown : w.ownsRow base 5 1 (.slice (some ⟨g, 0, none⟩) LL cl) LL (ys.map b8)) (hL : ys.length = LL) (hk : k ≤ LL)
    (hsl : ∀ W : World, (Instr.slice 43 (.slice (some ⟨g, 0, none⟩) LL cl) (some (.int .i64 (k : Int))) none none).run Tryz.prog W = .ok (.slice ar M cr) W) : Reads w b8 (.slice ar M cr) (ys.drop k) := by
  subst hL
  obtain ⟨v', h1, h2⟩ := slice_tail (P := Tryz.prog) (k := k) Tryz.underlying43 cell_u8 (Reads.of_owns hown) hk
  have := (h1 w).symm.trans (hsl w)
  injection this with e1
  rw [← e1]
  exact h2

def RestInv (W : World) (B : Nat) (vk vb vr0 vl : Value) (e : Int) (n LL : Nat) (rest ys : List UInt8) (L : Nat → Bool) (a : Act) (w : World) : Prop :=
  Below B W w ∧ w.ownsRow (B + 4) 5 1 vl LL (ys.map b8) ∧ (L 3 = true → w.ownsRow (B + 4) 5 1 (a.tmps.getD 63 undef) n (rest.map b8)) ∧ four B vk vb (if L 7 = true then a.tmps.getD 63 undef else vr0) e w ∧ (L 7 = true → L 2 = true ∧ L 3 = true)
theorem upd_mono {L : Nat → Bool} {i j : Nat} (h : L j = true) : upd L i j = true := by
  unfold upd
  split
  · rfl
  · exact h
theorem RestInv.pure {W : World} {B : Nat} {vk vb vr0 vl : Value} {e : Int} {n LL : Nat} {rest ys : List UInt8} {L : Nat → Bool} {a : Act} {w : World} (h : RestInv W B vk vb vr0 vl e n LL rest ys L a w) {i d : Nat} {v : Value} (h3 : (3 : Nat) ≠ i) (h7 : (7 : Nat) ≠ i) (hd : d ≠ 63) :
    RestInv W B vk vb vr0 vl e n LL rest ys (upd L i) (a.put (some d) v) w := by
  obtain ⟨g0, g1, g2, g3, g4⟩ := h
  refine ⟨g0, g1, ?_, ?_, ?_⟩
  · rw [upd_ne L h3, put_get hd]
    exact g2
  · rw [upd_ne L h7, put_get hd]
    exact g3
  · rw [upd_ne L h7]
    exact fun h => ⟨upd_mono (g4 h).1, upd_mono (g4 h).2⟩

set_option maxRecDepth 100000 in
theorem rest_region {Q : Exit → Act → World → Prop} {a0 : Act} {W : World} {B LL M cr n : Nat} {ar : Option Addr} {vl : Value} {ab : Option Addr} {k e : Int} {nb cb : Nat} {ys rest : List UInt8} (hsz0 : a0.tmps.size = 65) (h4 : four B (.int .i64 k) (.slice ab nb cb) (.slice ar M cr) e W) (hsB : B + 4 ≤ W.heap.size) (hown : W.ownsRow (B + 4) 5 1 vl LL (ys.map b8))
    (hrest : ∀ w : World, w.ownsRow (B + 4) 5 1 vl LL (ys.map b8) → Reads w b8 (.slice ar M cr) rest) (hn : rest.length = n) (hn2 : n ≤ 200000)
    (t2 : a0.tmps.getD 2 undef = .pointer (some ⟨B, 0, none⟩)) (t3 : a0.tmps.getD 3 undef = .pointer (some ⟨B + 1, 0, none⟩)) (t4 : a0.tmps.getD 4 undef = .pointer (some ⟨B + 2, 0, none⟩)) (t5 : a0.tmps.getD 5 undef = .pointer (some ⟨B + 3, 0, none⟩))
    (hQ : ∀ a w8 vr', four B (.int .i64 k) (.slice ab nb cb) vr' e w8 → Below B W w8 → w8.ownsRow (B + 4) 5 1 vl LL (ys.map b8) → Reads w8 b8 vr' rest → (∀ t, isDst (opsOf Tryz.f55 16) t = false → a.tmps.getD t undef = a0.tmps.getD t undef) → a.tmps.size = 65 → a.defers = a0.defers → Q .normal a w8) :
    (Code.region 16 (opsOf Tryz.f55 16) true).wp Tryz.prog Q a0 W := by
  refine region_open (by kernel_rfl) (fun i => ([fun v => v = .int .i64 k, fun v => v = .slice ab nb cb, fun v => v = .slice ar M cr, fun _ => True, fun v => v = .int .i64 e] : List (Value → Prop)).getD i fun _ => True)
    (RestInv W B (.int .i64 k) (.slice ab nb cb) (.slice ar M cr) vl e n LL rest ys) (by rw [hsz0]; kernel_rfl) ⟨(Below.refl _ _).drew, owns_below hown (Below.refl _ _).drew, by simp, h4, by simp⟩ (ops_all ?_) ?_
  · refine ⟨?_, ?_, ?_, ?_, ?_, ?_, ?_, ?_, ?_, trivial⟩
    · intro ho L a w hG hsz hLi hw hd hold
      have x2 := (hold 2 rfl).trans t2
      have hc := hG.2.2.2.1.1
      exact op_val ho (met_none rfl) (by go_simp) rfl (hG.pure (by decide) (by decide) (by decide))
    · intro ho L a w hG hsz hLi hw hd hold
      have x3 := (hold 3 rfl).trans t3
      have hc := hG.2.2.2.1.2.1
      exact op_val ho (met_none rfl) (by go_simp) rfl (hG.pure (by decide) (by decide) (by decide))
    · intro ho L a w hG hsz hLi hw hd hold
      have x4 := (hold 4 rfl).trans t4
      have hc := hG.2.2.2.1.2.2.1
      have h7 : L 7 = false := by
        cases h : L 7 with
        | false => rfl
        | true => exact absurd (hG.2.2.2.2 h).1 (by rw [show L 2 = false from hLi]; decide)
      rw [if_neg (by rw [h7]; decide)] at hc
      exact op_val ho (met_none rfl) (by go_simp) rfl (hG.pure (by decide) (by decide) (by decide))
    · intro ho L a w ⟨hb, ow, o63, f, f7⟩ hsz hLi hw hd hold
      have x62 : a.tmps.getD 62 undef = .slice ar M cr := hd 2 rfl rfl
      refine op_call (args := #[.slice ar M cr]) ho (met_none rfl) (run_callf Tryz.func53 (by kernel_rfl) rfl rfl (by simpa [Act.eval] using x62)) ?_
      have hs := hb.size
      refine (clone_any _ _ _ (by rw [hn]; omega) (hrest w ow)).mono ?_
      rintro e' w2 ⟨v2, rfl, hown2, hb2⟩
      rw [hn] at hown2
      have e63 : (a.put (some 63) v2).tmps.getD 63 undef = v2 := put_get_same (by rw [hsz, hsz0]; decide)
      have h7 : L 7 = false := by
        cases h : L 7 with
        | false => rfl
        | true => exact absurd (f7 h).2 (by rw [show L 3 = false from hLi]; decide)
      rw [if_neg (by rw [h7]; decide)] at f
      refine ⟨v2, rfl, trivial, hb.trans (hb2.mono (by omega)), owns_below ow hb2, fun _ => ?_, ?_⟩
      · show w2.ownsRow (B + 4) 5 1 ((a.put (some 63) v2).tmps.getD 63 undef) n _
        rw [e63]
        exact hown2.mono (by omega)
      · rw [upd_ne L (by decide), if_neg (by rw [h7]; decide)]
        refine ⟨?_, fun h => by rw [h7] at h; cases h⟩
        obtain ⟨h1, h2, h3, h4, z1, z2, z3, z4⟩ := f
        have hsw : B + 4 ≤ w.heap.size := by omega
        exact ⟨(hb2.cell (p := ⟨B, 0, none⟩) (by show B < _; omega)).trans h1, (hb2.cell (p := ⟨B + 1, 0, none⟩) (by show B + 1 < _; omega)).trans h2, (hb2.cell (p := ⟨B + 2, 0, none⟩) (by show B + 2 < _; omega)).trans h3, (hb2.cell (p := ⟨B + 3, 0, none⟩) (by show B + 3 < _; omega)).trans h4,
          (hb2.frozen (p := ⟨B, 0, none⟩) (by show B < _; omega)).trans z1, (hb2.frozen (p := ⟨B + 1, 0, none⟩) (by show B + 1 < _; omega)).trans z2, (hb2.frozen (p := ⟨B + 2, 0, none⟩) (by show B + 2 < _; omega)).trans z3, (hb2.frozen (p := ⟨B + 3, 0, none⟩) (by show B + 3 < _; omega)).trans z4⟩
    · intro ho L a w hG hsz hLi hw hd hold
      have x5 := (hold 5 rfl).trans t5
      have hc := hG.2.2.2.1.2.2.2.1
      exact op_val ho (met_none rfl) (by go_simp) rfl (hG.pure (by decide) (by decide) (by decide))
    · intro ho L a w ⟨hb, ow, o63, f, f7⟩ hsz hLi hw hd hold
      have x2 := (hold 2 rfl).trans t2
      have x60 : a.tmps.getD 60 undef = .int .i64 k := hd 0 rfl rfl
      have hc := f.1
      have hz := f.2.2.2.2.1
      refine op_skip (w' := w.setCell ⟨B, 0, none⟩ (.int .i64 k)) ho (met_none rfl) rfl (by go_simp) ⟨hb.setCell (p := ⟨B, 0, none⟩) (Nat.le_refl _) _, ownsRow_setCell_below ow (by simp only; omega) _, fun h => ownsRow_setCell_below (o63 (by rwa [upd_ne L (by decide)] at h)) (by simp only; omega) _, ?_⟩
      rw [upd_ne L (by decide)]
      exact ⟨f.setK _, fun h => ⟨upd_mono (f7 h).1, upd_mono (f7 h).2⟩⟩
    · intro ho L a w ⟨hb, ow, o63, f, f7⟩ hsz hLi hw hd hold
      have x3 := (hold 3 rfl).trans t3
      have x61 : a.tmps.getD 61 undef = .slice ab nb cb := hd 1 rfl rfl
      have hc := f.2.1
      have hz := f.2.2.2.2.2.1
      refine op_skip (w' := w.setCell ⟨B + 1, 0, none⟩ (.slice ab nb cb)) ho (met_none rfl) rfl (by go_simp) ⟨hb.setCell (p := ⟨B + 1, 0, none⟩) (by simp only; omega) _, ownsRow_setCell_below ow (by simp only; omega) _, fun h => ownsRow_setCell_below (o63 (by rwa [upd_ne L (by decide)] at h)) (by simp only; omega) _, ?_⟩
      rw [upd_ne L (by decide)]
      exact ⟨f.setB _, fun h => ⟨upd_mono (f7 h).1, upd_mono (f7 h).2⟩⟩
    · intro ho L a w ⟨hb, ow, o63, f, f7⟩ hsz hLi hw hd hold
      have x4 := (hold 4 rfl).trans t4
      have hc := f.2.2.1
      have hz := f.2.2.2.2.2.2.1
      have h7 : L 7 = false := hLi
      rw [h7, if_neg (by decide)] at hc f
      obtain ⟨a63, c63, e63⟩ := owns_slice (o63 (hw 3 rfl))
      refine op_skip (w' := w.setCell ⟨B + 2, 0, none⟩ (a.tmps.getD 63 undef)) ho (met_none rfl) rfl (run_store rfl x4 rfl (by rw [e63]; go_simp)) ⟨hb.setCell (p := ⟨B + 2, 0, none⟩) (by simp only; omega) _, ownsRow_setCell_below ow (by simp only; omega) _, fun h => ownsRow_setCell_below (o63 (by rwa [upd_ne L (by decide)] at h)) (by simp only; omega) _, ?_⟩
      rw [upd_same, if_pos rfl]
      exact ⟨f.setR _, fun _ => ⟨upd_mono (hw 2 rfl), upd_mono (hw 3 rfl)⟩⟩
    · intro ho L a w ⟨hb, ow, o63, f, f7⟩ hsz hLi hw hd hold
      have x5 := (hold 5 rfl).trans t5
      have x64 : a.tmps.getD 64 undef = .int .i64 e := hd 4 rfl rfl
      have hc := f.2.2.2.1
      have hz := f.2.2.2.2.2.2.2
      refine op_skip (w' := w.setCell ⟨B + 3, 0, none⟩ (.int .i64 e)) ho (met_none rfl) rfl (by go_simp) ⟨hb.setCell (p := ⟨B + 3, 0, none⟩) (by simp only; omega) _, ownsRow_setCell_below ow (by simp only; omega) _, fun h => ownsRow_setCell_below (o63 (by rwa [upd_ne L (by decide)] at h)) (by simp only; omega) _, ?_⟩
      rw [upd_ne L (by decide)]
      exact ⟨f.setE _, fun h => ⟨upd_mono (f7 h).1, upd_mono (f7 h).2⟩⟩
  · intro L a w8 hall ⟨hb, ow, o63, f, f7⟩ hS hold hsz hdf
    rw [if_pos (hall 7 (of_decide_eq_true (by kernel_rfl)))] at f
    have o := o63 (hall 3 (of_decide_eq_true (by kernel_rfl)))
    rw [← hn] at o
    exact hQ a w8 _ f hb ow (Reads.of_owns o) hold (hsz.trans hsz0) hdf
end Go.Proofs.YtcjbgchhalilnaaGreatDoor
