/- varint.numbers: the iterator over the numbers of bytes: what it tells, and its contract. -/
import Derived.Test.YtgegbfhjophdfaaVd
import Derived.Test.YtgegbfhjophdfaaVc
import Derived.RangeFuncNested
import Derived.RangeFuncBound
import Derived.RangeFuncCalls
import Derived.RangeFuncLeaves
import Derived.Shelf.Abstract
import Derived.Shelf.RegionOpen
import Derived.OwnWalkIn
import Derived.TacticsInMore
import Derived.LoopNIn
import Derived.LoopIn
namespace Go.Proofs.Ytgegbfhjophdfaa
open Go Go.RowKit Go.Shelf

attribute [local go_sem] Oper.semAt_some

/-- What the iterator tells of the bytes r, of which 'at' lie ahead: each number, and where it ends; at last an error, below 0. -/
def seqF : Nat → List UInt8 → Nat → List (Int × Int)
  | 0, _, _ => []
  | fuel + 1, r, k => if (takeF 0 0 r).2.2 = 0 then (zag (takeF 0 0 r).1, ((k + (takeF 0 0 r).2.1 : Nat) : Int)) :: seqF fuel (r.drop (takeF 0 0 r).2.1) (k + (takeF 0 0 r).2.1) else [(0, -((takeF 0 0 r).2.2 : Int))]

def NOk (N : Nat) (x : Int × Int) : Prop := (x.2 = -10 ∨ x.2 = -11) ∨ (0 ≤ x.2 ∧ x.2 ≤ N ∧ I64 x.1)
abbrev Num (N : Nat) : Type := { x : Int × Int // NOk N x }
def Num.enc {N : Nat} (x : Num N) : Array Value := #[.int .i64 x.1.1, .int .i64 x.1.2]
def plainNums {N : Nat} (l : List (Num N)) : List (Int × Int) := l.map fun x => x.1

theorem cell_u8 (W : World) : (sizeOf 5).run Try.prog W = .ok 1 W := by kernel_rfl

/-- What a round keeps: whatever lay below n₀, and the box at Bs. -/
structure KeepB (n₀ Bs : Nat) (W W' : World) : Prop where
  below : Below n₀ W W'
  box : W'.heap[Bs]? = W.heap[Bs]?
theorem KeepB.refl (n₀ Bs : Nat) (W : World) : KeepB n₀ Bs W W := ⟨Below.refl _ _, rfl⟩
theorem KeepB.trans {n₀ Bs : Nat} {A B C : World} (h : KeepB n₀ Bs A B) (k : KeepB n₀ Bs B C) : KeepB n₀ Bs A C := ⟨h.below.trans k.below, k.box.trans h.box⟩

def NumsRel (N : Nat) (l : List UInt8) (n₀ Bs : Nat) (J : List (Num N) → World → Prop) (W : World) (x : Value) (wr : World) : Prop :=
  ∃ (pre : List (Num N)) (k : Nat), x = .int .i64 (k : Int) ∧ k ≤ l.length ∧ pre.length ≤ k ∧ J pre wr ∧ KeepB n₀ Bs W wr ∧ plainNums pre ++ seqF (l.length + 1 - pre.length) (l.drop k) k = seqF (l.length + 1) l 0

theorem seqF_last {fuel : Nat} {r : List UInt8} {k e : Nat} (h : takeF 0 0 r = (0, 0, e)) (he : e ≠ 0) (hf : fuel ≠ 0) : seqF fuel r k = [(0, -(e : Int))] := by
  cases fuel with
  | zero => exact absurd rfl hf
  | succ fuel => simp [seqF, h, he]
theorem seqF_more {fuel : Nat} {r : List UInt8} {k u n : Nat} (h : takeF 0 0 r = (u, n, 0)) (hf : fuel ≠ 0) : seqF fuel r k = (zag u, ((k + n : Nat) : Int)) :: seqF (fuel - 1) (r.drop n) (k + n) := by
  cases fuel with
  | zero => exact absurd rfl hf
  | succ fuel => simp [seqF, h]

set_option maxRecDepth 100000 in
set_option maxHeartbeats 2000000 in
theorem numbers1_in (F : Fence) (n : Nat) (hF : F = Fence.wide) (h24 : F.fn 41) (hro : F.round = none) (hn : 1 ≤ n) (l Bs n₀ : Nat) (v : Value) (bs : List UInt8) (hbl : bs.length ≤ 70368744177664) (J Jx : List (Num bs.length) → World → Prop)
    (hY : ∀ pre x W, J pre W → pre.length < bs.length + 1 → YieldAt F (n - 1) Try.prog l (Num.enc x) W fun e W' =>
      (e = .returned (.bool true) ∧ J (pre ++ [x]) W' ∧ KeepB n₀ Bs W W') ∨ (e = .returned (.bool false) ∧ Jx (pre ++ [x]) W'))
    (W : World) (hBs : W.cell? ⟨Bs, 0, none⟩ = some v) (hrn : ∀ W', Below n₀ W W' → Reads W' b8 v bs) (h0 : J [] W) :
    CallsIn F n Try.prog 41 #[.func (.yield l) #[] #[], .pointer (some ⟨Bs, 0, none⟩)] W fun e W' => (∃ v, e = .returned v) ∧
      ((∃ ys, plainNums ys = seqF (bs.length + 1) bs 0 ∧ J ys W') ∨ (∃ pre, plainNums pre <+: seqF (bs.length + 1) bs 0 ∧ Jx pre W')) := by
  subst hF
  refine callsIn_of_wp Try.func41 rfl h24 ?_ hro
  simp only [Try.ntmps41, List.size_toArray, List.length_cons, List.length_nil, Nat.reduceAdd, Nat.reduceSub, Array.replicate_succ, Array.replicate_zero, List.push_toArray, List.append_toArray, List.nil_append, List.cons_append]
  gi_wp2
  gi_loopw [3] (fun x wr => NumsRel bs.length bs n₀ Bs J W x wr) (fun x _ => bs.length - (intOf x).toNat)
  case atStart => exact ⟨[], 0, rfl, Nat.zero_le _, Nat.le_refl _, h0, KeepB.refl _ _ _, rfl⟩
  case round =>
    obtain ⟨pre, k, rfl, hk, hpk, hJ, hbel, hseq⟩ := hrel
    have HS := Lib.hid hseq
    clear hseq
    obtain ⟨v', hsl, hr'⟩ := slice_tail (P := Try.prog) Try.underlying24 cell_u8 (hrn wr hbel.below) hk
    have hcell : wr.cell? ⟨Bs, 0, none⟩ = some v := (World.cell?_of_block (w := W) (a := ⟨Bs, 0, none⟩) hbel.box).trans hBs
    have hsp := take_spec (bs.drop k)
    have err : ∀ (e : Nat) (z : Int), (e = 10 ∨ e = 11) → z = -(e : Int) → takeF 0 0 (bs.drop k) = (0, 0, e) → ∃ x : Num bs.length, Num.enc x = #[.int .i64 0, .int .i64 z] ∧ plainNums (pre ++ [x]) = seqF (bs.length + 1) bs 0 := by
      intro e z he hz ht
      subst hz
      refine ⟨⟨(0, -(e : Int)), .inl (by rcases he with rfl | rfl <;> simp)⟩, rfl, ?_⟩
      rw [← HS.out, seqF_last ht (by omega) (by omega)]
      simp [plainNums]
    rcases hsp with hs | hs | ⟨u, j, hs, hu, hj1, hj2, hj3⟩
    · obtain ⟨x, hx, hpl⟩ := err 10 (-10) (.inl rfl) rfl hs
      obtain ⟨fn, tmps, assign, body, hy, hR⟩ := hY pre x wr hJ (by omega)
      rw [hx] at hy
      have HT := Lib.hid hs
      have HP := Lib.hid hpl
      clear hs hpl hx err hY
      gi_wp2_with fail
      refine ⟨trivial, (callsIn_wide.2 (take_any v' _ wr hr')).mono ?_⟩
      rintro e w1 ⟨rfl, rfl⟩
      rw [HT.out, takeV]
      gi_wp2_with fail
      refine hR.mono ?_
      rintro e W3 (⟨rfl, hJ3, hk3⟩ | ⟨rfl, hJx3⟩)
      · gi_wp2
        refine bodyPost_ret (results_none rfl _ _ _) rfl ?_
        exact ⟨⟨_, rfl⟩, .inl ⟨_, HP.out, hJ3⟩⟩
      · gi_wp2
        refine bodyPost_ret (results_none rfl _ _ _) rfl ?_
        exact ⟨⟨_, rfl⟩, .inr ⟨_, by rw [HP.out]; exact List.prefix_refl _, hJx3⟩⟩
    · obtain ⟨x, hx, hpl⟩ := err 11 (-11) (.inr rfl) rfl hs
      obtain ⟨fn, tmps, assign, body, hy, hR⟩ := hY pre x wr hJ (by omega)
      rw [hx] at hy
      have HT := Lib.hid hs
      have HP := Lib.hid hpl
      clear hs hpl hx err hY
      gi_wp2_with fail
      refine ⟨trivial, (callsIn_wide.2 (take_any v' _ wr hr')).mono ?_⟩
      rintro e w1 ⟨rfl, rfl⟩
      rw [HT.out, takeV]
      gi_wp2_with fail
      refine hR.mono ?_
      rintro e W3 (⟨rfl, hJ3, hk3⟩ | ⟨rfl, hJx3⟩)
      · gi_wp2
        refine bodyPost_ret (results_none rfl _ _ _) rfl ?_
        exact ⟨⟨_, rfl⟩, .inl ⟨_, HP.out, hJ3⟩⟩
      · gi_wp2
        refine bodyPost_ret (results_none rfl _ _ _) rfl ?_
        exact ⟨⟨_, rfl⟩, .inr ⟨_, by rw [HP.out]; exact List.prefix_refl _, hJx3⟩⟩
    · rw [List.length_drop] at hj3
      have hzr := zag_range hu
      obtain ⟨x, hx, hpl⟩ : ∃ x : Num bs.length, Num.enc x = #[.int .i64 (zag u), .int .i64 ((k : Int) + (j : Int))] ∧ plainNums (pre ++ [x]) ++ seqF (bs.length + 1 - (pre ++ [x]).length) (bs.drop (k + j)) (k + j) = seqF (bs.length + 1) bs 0 := by
        refine ⟨⟨(zag u, (k : Int) + (j : Int)), .inr ⟨by simp only; omega, by simp only; omega, hzr⟩⟩, rfl, ?_⟩
        rw [← HS.out, seqF_more hs (by omega), List.drop_drop]
        have e1 : ∀ y : Num bs.length, bs.length + 1 - (pre ++ [y]).length = bs.length + 1 - pre.length - 1 := fun y => by rw [List.length_append, List.length_singleton]; omega
        rw [e1]
        simp [plainNums]
      obtain ⟨fn, tmps, assign, body, hy, hR⟩ := hY pre x wr hJ (by omega)
      rw [hx] at hy
      have HT := Lib.hid hs
      have HP := Lib.hid hpl
      have hlx : (pre ++ [x]).length ≤ k + j := by rw [List.length_append, List.length_singleton]; omega
      clear hs hpl hx err hY hzr
      gi_wp2_with fail
      refine ⟨trivial, (callsIn_wide.2 (take_any v' _ wr hr')).mono ?_⟩
      rintro e w1 ⟨rfl, rfl⟩
      rw [HT.out, takeV]
      gi_wp2_with fail
      refine ⟨trivial, (callsIn_wide.2 (zag_any u wr hu)).mono ?_⟩
      rintro e w1 ⟨rfl, rfl⟩
      gi_wp2_with fail
      refine hR.mono ?_
      rintro e W3 (⟨rfl, hJ3, hk3⟩ | ⟨rfl, hJx3⟩)
      · gi_wp2
        go_roundw
        case rel => exact ⟨_, k + j, by go_num, by omega, hlx, hJ3, hbel.trans hk3, HP.out⟩
        case measure => simp [intOf]; omega
      · gi_wp2
        refine bodyPost_ret (results_none rfl _ _ _) rfl ?_
        exact ⟨⟨_, rfl⟩, .inr ⟨_, ⟨_, HP.out⟩, hJx3⟩⟩

/-- **numbers(b)**: b is boxed; the function value captures the box. -/
theorem numbers_in (F : Fence) (n : Nat) (h23 : F.fn 39) (hro : F.round = none) (ad : Option Addr) (len cap : Nat) (w : World) :
    CallsIn F n Try.prog 39 #[.slice ad len cap] w fun e w' => e = .returned (.func (.func 41) #[] #[.pointer (some ⟨w.heap.size, 0, none⟩)]) ∧ w' = w.alloc (.cells #[.slice ad len cap] 24) := by
  refine callsIn_of_wp Try.func39 rfl h23 ?_ hro
  simp only [Try.ntmps39, List.size_toArray, List.length_cons, List.length_nil, Nat.reduceAdd, Nat.reduceSub, Array.replicate_succ, Array.replicate_zero, List.push_toArray, List.append_toArray, List.nil_append, List.cons_append]
  gi_wp2
  go_ret
  exact ⟨rfl, rfl⟩

/-- **numbers(b) HANDS BACK A VALUE THAT TELLS ALL, or a beginning of it where a round has said 'no more'.** -/
theorem numbers_stops (n : Nat) (hn : 1 ≤ n) (Bs n₀ : Nat) (v : Value) (bs : List UInt8) (hbl : bs.length ≤ 70368744177664) (w : World) (hBs : Bs < w.heap.size) (hn₀ : n₀ ≤ w.heap.size)
    (hc : w.cell? ⟨Bs, 0, none⟩ = some v) (hr : ∀ W', Below n₀ w W' → Reads W' b8 v bs) :
    SeqStopsK Fence.wide n Try.prog 41 #[.pointer (some ⟨Bs, 0, none⟩)] (Num.enc (N := bs.length)) (KeepB n₀ Bs) (fun ys => plainNums ys = seqF (bs.length + 1) bs 0) (fun pre => plainNums pre <+: seqF (bs.length + 1) bs 0) (bs.length + 1) w := fun l J Jx W hW _ _ hY h0 =>
  numbers1_in Fence.wide n rfl trivial rfl hn l Bs n₀ v bs hbl J Jx hY W ((hW.cell (p := ⟨Bs, 0, none⟩) hBs).trans hc) (fun W' hW' => hr W' ((hW.mono hn₀).trans hW')) h0

end Go.Proofs.Ytgegbfhjophdfaa
