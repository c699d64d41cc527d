/- plain: a manifest as the reference has it: the walk. -/
import Derived.Test.YtcjbgchhalilnaaGreatDoorIa
namespace Go.Proofs.YtcjbgchhalilnaaGreatDoor
open Go Go.RowKit Go.Lib
set_option linter.unusedVariables false

theorem ret10 {a : Act} {w : World} {R : Ending → World → Prop} {n0 : Nat} {sq ev kp : Int} {vi vd : Value} (h2 : a.tmps.getD 2 undef = .pointer (some ⟨n0, 0, none⟩)) (hd : a.defers = []) (hM : MCell n0 sq ev kp vi vd w)
    (hR : R (.returned (.agg #[.int .i64 sq, .int .i64 ev, .int .i64 kp, vi, vd])) w) : bodyPost Tryz.prog Tryz.f10 R .ret a w := by
  obtain ⟨c0, c1, c2, c3, c4, z, lt⟩ := hM
  have h2' : (a.tmps[2]?).getD undef = .pointer (some ⟨n0, 0, none⟩) := by simpa using h2
  refine bodyPost_ret (v := .agg #[.int .i64 sq, .int .i64 ev, .int .i64 kp, vi, vd]) ?_ hd hR
  simp [results, Tryz.results10, go_sem, h2', c0, c1, c2, c3, c4]

def PlainEnd (m : Man) (w : World) (e : Ending) (w' : World) : Prop := ∃ v', e = .returned v' ∧ ReadsM w' v' m ∧ Below w.heap.size w w'

def PlR (W : World) (n3 : Nat) (m : Man) (vi : Value) (i : Value) (w : World) : Prop :=
  ∃ (j : Nat) (vd : Value), j ≤ m.data.length ∧ i = .int .i64 (j : Int) ∧ Below n3 W w ∧ MCell n3 m.seq m.every m.keep vi vd w ∧ w.ownsRow (n3 + 1) 56 2 vd (m.data.take j).length (flatV (m.data.take j))

set_option maxRecDepth 100000 in
theorem plain_any (v : Value) (m : Man) (w : World) (h2 : m.data.length ≤ 100000) (hr : ReadsM w v m) : Calls Tryz.prog 10 #[v] w (PlainEnd m w) := by
  obtain ⟨vi, vd, rfl, hri, hrd⟩ := hr
  obtain ⟨ai, ci, rfl⟩ := hri.slice
  obtain ⟨ad, cd, rfl⟩ := hrd.slice
  obtain ⟨n1, hn1⟩ : ∃ n1, w.heap.size = n1 := ⟨_, rfl⟩
  obtain ⟨W, hW⟩ : ∃ W, (w.alloc (.cells #[.int .i64 m.seq, .int .i64 m.every, .int .i64 m.keep, .slice ai m.index.length ci, .slice ad m.data.length cd] 25)).alloc (.cells #[.int .i64 0, .int .i64 0, .int .i64 0, .slice none 0 0, .slice none 0 0] 30) = W := ⟨_, rfl⟩
  have hA : Below n1 w W := by rw [← hW]; exact ((Below.refl _ _).alloc (by omega) _).alloc (by simp; omega) _
  have hWs : W.heap.size = n1 + 2 := by rw [← hW]; simp [hn1]
  have K : ∀ k : Nat, W.cell? ⟨n1, k, none⟩ = (#[.int .i64 m.seq, .int .i64 m.every, .int .i64 m.keep, .slice ai m.index.length ci, .slice ad m.data.length cd] : Array Value)[k]? := by
    intro k
    rw [← hW, ((Below.refl (n1 + 1) (w.alloc (.cells #[.int .i64 m.seq, .int .i64 m.every, .int .i64 m.keep, .slice ai m.index.length ci, .slice ad m.data.length cd] 25))).alloc (by simp; omega) _).cell (p := ⟨n1, k, none⟩) (by show n1 < n1 + 1; omega), ← hn1]
    exact World.cell?_alloc_new _ _ _ _
  have hM1 : MCell (n1 + 1) 0 0 0 (.slice none 0 0) (.slice none 0 0) W := by
    have e : n1 + 1 = (w.alloc (.cells #[.int .i64 m.seq, .int .i64 m.every, .int .i64 m.keep, .slice ai m.index.length ci, .slice ad m.data.length cd] 25)).heap.size := by simp [hn1]
    rw [← hW, e]
    exact ⟨World.cell?_alloc_new _ _ _ _, World.cell?_alloc_new _ _ _ _, World.cell?_alloc_new _ _ _ _, World.cell?_alloc_new _ _ _ _, World.cell?_alloc_new _ _ _ _, (fun k => World.frozen?_alloc_new _ _ _ _), by simp⟩
  obtain ⟨n3, hn3⟩ : ∃ n3, n1 + 2 = n3 := ⟨_, rfl⟩
  rw [hn3] at hWs
  have C4 : ∀ w', Below n3 W w' → w'.cell? ⟨n1, 4, none⟩ = some (.slice ad m.data.length cd) := fun w' h => (h.cell (p := ⟨n1, 4, none⟩) (by show n1 < n3; omega)).trans (K 4)
  have c0 : W.cell? ⟨n1, 0, none⟩ = some (.int .i64 m.seq) := K 0
  have c1 : W.cell? ⟨n1, 1, none⟩ = some (.int .i64 m.every) := K 1
  have c2 : W.cell? ⟨n1, 2, none⟩ = some (.int .i64 m.keep) := K 2
  have c3 : W.cell? ⟨n1, 3, none⟩ = some (.slice ai m.index.length ci) := K 3
  have hriW := hri.below hA (by omega)
  have hrdW := hrd.below hA (by omega)
  obtain ⟨W8, hW8⟩ : ∃ W8, W.alloc (.cells #[.int .i64 m.seq, .int .i64 m.every, .int .i64 m.keep, .slice ai m.index.length ci, .slice none 0 0] 30) = W8 := ⟨_, rfl⟩
  have hb8 : Below n3 W W8 := by rw [← hW8]; exact (Below.refl _ _).alloc (by omega) _
  have hM8 : MCell n3 m.seq m.every m.keep (.slice ai m.index.length ci) (.slice none 0 0) W8 := by
    rw [← hW8, ← hWs]
    exact ⟨World.cell?_alloc_new _ _ _ _, World.cell?_alloc_new _ _ _ _, World.cell?_alloc_new _ _ _ _, World.cell?_alloc_new _ _ _ _, World.cell?_alloc_new _ _ _ _, (fun k => World.frozen?_alloc_new _ _ _ _), by simp⟩
  have HW8 := Lib.hid hW8
  have HN3 := Lib.hid hn3
  have HA := Lib.hid hA
  have HRI := Lib.hid hri
  have HM1 := Lib.hid hM1
  have hn13 : n1 + 1 < n3 := by omega
  clear K hri hrd hW8 hn3 hM1 hA
  go_enter Tryz.func10, Tryz.ntmps10
  go_wp2_with fail
  rw [HW8.out]
  go_loopw [4] (fun i wr => PlR W n3 m (.slice ai m.index.length ci) i wr) (fun i _ => m.data.length - (intOf i).toNat)
  case atStart => exact ⟨0, .slice none 0 0, Nat.zero_le _, rfl, hb8, hM8, World.ownsRow_nil _ _ _ _⟩
  case round =>
    clear hb8 hM8
    obtain ⟨j, vd, hj, rfl, hb, hM, hO⟩ := hrel
    have hc4 := C4 wr hb
    have hacc : (m.data.take j).length ≤ 100000 := by simp; omega
    by_cases hlt : j < m.data.length
    · have hS : Hid (m.data.take (j + 1) = m.data.take j ++ [m.data[j]]) := List.take_succ_eq_append_getElem hlt
      obtain ⟨b, off, rfl, hbl, hcd⟩ := hrdW.elem hlt
      generalize m.data[j] = d at hS hcd
      generalize m.data.take j = acc at hS hacc hO
      have D : ∀ w', Below n3 W w' → w'.cell? ⟨b, off + j * 2, none⟩ = some (.int .i64 d.m) ∧ w'.cell? ⟨b, off + j * 2 + 1, none⟩ = some (encStr d.n) := fun w' h =>
        ⟨(h.cell (p := ⟨b, off + j * 2, none⟩) (by show b < n3; omega)).trans hcd.1, (h.cell (p := ⟨b, off + j * 2 + 1, none⟩) (by show b < n3; omega)).trans hcd.2⟩
      go_wp2_with fail
      refine plain5 (W := W) (n1 := n1) (n3 := n3) (b := b) (off := off) (cd := cd) (L := m.data.length) (j := j) (sq := m.seq) (ev := m.every) (kp := m.keep) (acc := acc) (d := d) rfl hlt h2 hacc (by omega) (by omega) rfl rfl rfl hb hM hO C4 D ?_
      intro a w8 v' hb9 hM9 hO9 hold hsz hdf
      obtain ⟨gg, hgg⟩ : ∃ gg : Nat → Value, ∀ t, a.tmps.getD t undef = gg t := ⟨_, fun _ => rfl⟩
      have hfr := frame_eq 21 39 gg hsz hdf (by decide) (of_decide_eq_true (by kernel_rfl)) (fun t ht => hold t (dst_out (lo := 21) (hi := 39) (by kernel_rfl) ht)) (fun t _ _ => hgg t)
      clear hgg hold hsz hdf
      subst hfr
      simp only [List.take_succ_cons, List.take_zero, List.drop_succ_cons, List.drop_zero, List.range', List.map_cons, List.map_nil, List.cons_append, List.nil_append, Nat.reduceAdd, Nat.reduceSub]
      go_wp2_with fail
      go_roundw
      case rel => exact ⟨j + 1, v', hlt, by go_num, hb9, hM9, by rw [hS.out]; exact hO9⟩
      case measure => simp [intOf]; omega
    · have hjl : j = m.data.length := by omega
      subst hjl
      rw [List.take_length] at hO
      have hrv := ReadsV.of_owns hO
      obtain ⟨av, cv, rfl⟩ := hrv.slice
      have HO9 := Lib.hid (store5_own (n := n1 + 1) (by omega) hO m.seq m.every m.keep (.slice ai m.index.length ci) (.slice av m.data.length cv))
      obtain ⟨a0, a1, a2, a3, a4, -, -⟩ := hM
      obtain ⟨e0, e1, e2, e3, e4, ez, -⟩ := HM1.out.below hb (by omega)
      have z0 := ez 0
      have z1 := ez 1
      have z2 := ez 2
      have z3 := ez 3
      have z4 := ez 4
      clear ez
      have HM9 := Lib.hid (store5_cell (HM1.out.below hb (by omega)) m.seq m.every m.keep (.slice ai m.index.length ci) (.slice av m.data.length cv))
      have HB9 := Lib.hid (store5_below (w := wr) (n := n1 + 1) m.seq m.every m.keep (.slice ai m.index.length ci) (.slice av m.data.length cv))
      have HR9 := Lib.hid ((HA.out.trans (hb.mono (by omega))).trans (store5_below (w := wr) (n := n1 + 1) m.seq m.every m.keep (.slice ai m.index.length ci) (.slice av m.data.length cv) |>.mono (by omega)))
      have HI9 := Lib.hid (HRI.out.below HR9.out (by omega))
      go_wp2_with fail
      refine ret10 rfl rfl HM9.out ⟨_, rfl, ⟨_, _, rfl, ?_, ?_⟩, ?_⟩
      · exact HI9.out
      · exact ReadsV.of_owns HO9.out
      · rw [hn1]; exact HR9.out
end Go.Proofs.YtcjbgchhalilnaaGreatDoor
