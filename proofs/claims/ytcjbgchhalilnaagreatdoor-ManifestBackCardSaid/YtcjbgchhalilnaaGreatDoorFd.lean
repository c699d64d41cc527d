/- manifest.Pack: its region that leaves its order open. -/
import Derived.Test.YtcjbgchhalilnaaGreatDoorPb
import Derived.Test.YtcjbgchhalilnaaGreatDoorKf
import Derived.Test.YtcjbgchhalilnaaGreatDoorKg
namespace Go.Proofs.YtcjbgchhalilnaaGreatDoor
open Go Go.RowKit Go.Lib

def vN (n : Nat) : Value := .int .i64 (n : Int)
theorem owns_to {w : World} {base : Nat} {e : TypeId} {size : Nat} {v : Value} {xs ys : List Nat} (h : w.ownsRow base e size v xs.length (xs.map vN)) (he : xs = ys) : w.ownsRow base e size v ys.length (ys.map vN) := by subst he; exact h

def PxG (W : World) (n1 nd : Nat) (vl : Value) (xs : List Nat) (d : D2) (n : Nat) (a : Act) (w : World) : Prop :=
  Below n1 W w ∧ n1 ≤ w.heap.size ∧ nd < w.heap.size ∧ (n ≤ 1 → CellsAt w nd 0 d) ∧ (n ≤ 3 → a.tmps.getD 5 undef = vl) ∧ (n ≤ 2 → w.ownsRow n1 3 1 vl xs.length (xs.map vN)) ∧ (n = 2 → Reads w vN (a.tmps.getD 60 undef) [d.m.toNat, numF d.n 100]) ∧
    (n = 3 → w.ownsRow n1 3 1 (a.tmps.getD 61 undef) (xs ++ [d.m.toNat, numF d.n 100]).length ((xs ++ [d.m.toNat, numF d.n 100]).map vN)) ∧ (n = 4 → w.ownsRow n1 3 1 (a.tmps.getD 5 undef) (xs ++ [d.m.toNat, numF d.n 100]).length ((xs ++ [d.m.toNat, numF d.n 100]).map vN))
theorem PxG.put {W : World} {n1 nd : Nat} {vl : Value} {xs : List Nat} {d : D2} {n : Nat} {a : Act} {w : World} (h : PxG W n1 nd vl xs d n a w) {t : Nat} {v : Value} (h5 : t ≠ 5) (h60 : t ≠ 60) (h61 : t ≠ 61) : PxG W n1 nd vl xs d n (a.put (some t) v) w := by
  unfold PxG at h ⊢
  rw [put_get h5, put_get h60, put_get h61]
  exact h

set_option maxRecDepth 100000 in
theorem pack14 {Q : Exit → Act → World → Prop} {a0 : Act} {W W0 : World} {n0 n1 nd : Nat} {vl : Value} {xs : List Nat} {d : D2} (hsz0 : a0.tmps.size = 78) (hT : Laid W0) (hn0 : W0.heap.size = n0) (h01 : n0 ≤ n1) (hb0 : Below n0 W0 W) (hn1 : n1 ≤ W.heap.size) (hnd : nd < W.heap.size) (hxs : xs.length ≤ 1000) (hd0 : 0 ≤ d.m)
    (t5 : a0.tmps.getD 5 undef = vl) (t9 : a0.tmps.getD 9 undef = .pointer (some ⟨nd, 0, none⟩)) (D : CellsAt W nd 0 d) (hown : W.ownsRow n1 3 1 vl xs.length (xs.map vN))
    (hQ : ∀ a w8, Below n1 W w8 → w8.ownsRow n1 3 1 (a.tmps.getD 5 undef) (xs ++ [d.m.toNat, numF d.n 100]).length ((xs ++ [d.m.toNat, numF d.n 100]).map vN) → (∀ t, isDst (opsOf Tryz.f21 14) t = false → a.tmps.getD t undef = a0.tmps.getD t undef) → a.tmps.size = 78 → a.defers = a0.defers → Q .normal a w8) :
    (Code.region 14 (opsOf Tryz.f21 14) true).wp Tryz.prog Q a0 W := by
  obtain ⟨i0, hi, hz0, hz1, hz2⟩ := info_partsS info_int
  have hlf : lineForm (opsOf Tryz.f21 14) [5, 6, 7, 8] = true := by kernel_rfl
  refine region_line (by kernel_rfl) [5, 6, 7, 8] (fun i => ([fun v => v = vl, fun v => v = .pointer (some ⟨nd, 0, none⟩), fun v => v = .int .i64 d.m, fun v => v = .pointer (some ⟨nd, 1, none⟩), fun v => v = encStr d.n, fun v => v = .int .i64 (numF d.n 100 : Int), fun _ => True, fun _ => True, fun _ => True] : List (Value → Prop)).getD i fun _ => True)
    (PxG W.drew n1 nd vl xs d) (by rw [hsz0]; kernel_rfl) hlf ⟨Below.refl _ _, hn1, hnd, fun _ => D, fun _ => t5, fun _ => owns_below hown (Below.refl _ _).drew, (fun h => by cases h), (fun h => by cases h), fun h => by cases h⟩ (ops_all ?_) ?_
  · refine ⟨?_, ?_, ?_, ?_, ?_, ?_, ?_, ?_, ?_, trivial⟩
    · refine line_pure (by decide) fun ho n a w hG hn hbd hsz hd hold => ?_
      have h3 : n ≤ 3 := hbd 3 (by decide) (by kernel_rfl)
      exact op_val ho (met_none rfl) (run_move _ rfl (hG.2.2.2.2.1 h3)) rfl (hG.put (by decide) (by decide) (by decide))
    · refine line_pure (by decide) fun ho n a w hG hn hbd hsz hd hold => ?_
      have x9 : a.tmps.getD 9 undef = _ := (hold 9 rfl).trans t9
      exact op_val ho (met_none rfl) (by go_simp) rfl (hG.put (by decide) (by decide) (by decide))
    · refine line_pure (by decide) fun ho n a w hG hn hbd hsz hd hold => ?_
      have x55 : a.tmps.getD 55 undef = .pointer (some ⟨nd, 0, none⟩) := hd 1 rfl rfl
      have h1 : n ≤ 1 := hbd 1 (by decide) (by kernel_rfl)
      have hc := (hG.2.2.2.1 h1).1
      exact op_val ho (met_none rfl) (by go_simp) rfl (hG.put (by decide) (by decide) (by decide))
    · refine line_pure (by decide) fun ho n a w hG hn hbd hsz hd hold => ?_
      have x9 : a.tmps.getD 9 undef = _ := (hold 9 rfl).trans t9
      exact op_val ho (met_none rfl) (by go_simp) rfl (hG.put (by decide) (by decide) (by decide))
    · refine line_pure (by decide) fun ho n a w hG hn hbd hsz hd hold => ?_
      have x57 : a.tmps.getD 57 undef = .pointer (some ⟨nd, 1, none⟩) := hd 3 rfl rfl
      have h1 : n ≤ 0 := hbd 0 (by decide) (by kernel_rfl)
      have hc : w.cell? ⟨nd, 1, none⟩ = some (encStr d.n) := (hG.2.2.2.1 (by omega)).2
      exact op_val ho (met_none rfl) (by go_simp) rfl (hG.put (by decide) (by decide) (by decide))
    · refine line_key hlf 0 rfl fun ho a w hG hsz hd hold => ?_
      have x58 : a.tmps.getD 58 undef = encStr d.n := hd 4 rfl rfl
      obtain ⟨g1, g2, g3, g4, g5, g6, -⟩ := hG
      refine op_call (args := #[encStr d.n, .int .u8 100]) ho (met_none rfl) (run_callf Tryz.func32 (by kernel_rfl) rfl rfl (by simp only [List.map_toArray, List.map_cons, List.map_nil, Act.eval, x58])) ?_
      refine (number_any d.n 100 w (hT.below ((hb0.drew).trans (g1.mono h01)) (by omega)) (by decide)).mono ?_
      rintro e w' ⟨rfl, q⟩
      have hs := q.size
      have c4 := g4 (by decide)
      exact ⟨_, rfl, rfl, g1.trans (q.mono g2), by omega, by omega, fun _ => c4.below q g3, fun _ => by rw [put_get (by decide)]; exact g5 (by decide), fun _ => owns_below (g6 (by decide)) q, (fun h => by cases h), (fun h => by cases h), fun h => by cases h⟩
    · refine line_key hlf 1 rfl fun ho a w hG hsz hd hold => ?_
      have x56 : a.tmps.getD 56 undef = .int .i64 d.m := hd 2 rfl rfl
      have x59 : a.tmps.getD 59 undef = .int .i64 (numF d.n 100 : Int) := hd 5 rfl rfl
      have HS := Lib.hid (hsz.trans hsz0)
      clear hsz
      have x56' : (a.tmps[56]?).getD undef = .int .i64 d.m := by simpa using x56
      have x59' : (a.tmps[59]?).getD undef = .int .i64 (numF d.n 100 : Int) := by simpa using x59
      obtain ⟨g1, g2, g3, g4, g5, g6, -⟩ := hG
      have q : Below w.heap.size w (w.alloc (.cells #[.int .i64 d.m, .int .i64 (numF d.n 100 : Int)] 3)) := (Below.refl _ _).alloc (Nat.le_refl _) _
      refine op_val (v := .slice (some ⟨w.heap.size, 0, none⟩) 2 2) (w' := w.alloc (.cells #[.int .i64 d.m, .int .i64 (numF d.n 100 : Int)] 3)) ho (met_none rfl) (by go_simp) trivial ⟨g1.trans (q.mono g2), by simp; omega, by simp; omega, (fun h => by omega), fun _ => by rw [put_get (by decide)]; exact g5 (by decide), fun _ => owns_below (g6 (by decide)) q, fun _ => ?_, (fun h => by cases h), fun h => by cases h⟩
      rw [put_get_same (by rw [HS.out]; decide)]
      refine Reads.built w _ _ 2 vN [d.m.toNat, numF d.n 100] ?_ rfl (by simp [maxLen])
      simp only [List.map_cons, List.map_nil, vN]
      rw [show ((d.m.toNat : Nat) : Int) = d.m by omega]
    · refine line_key hlf 2 rfl fun ho a w hG hsz hd hold => ?_
      have x54 : a.tmps.getD 54 undef = vl := hd 0 rfl rfl
      obtain ⟨g1, g2, g3, g4, g5, g6, g7, -⟩ := hG
      have ow := g6 (by decide)
      rcases g7 rfl with ⟨h, _⟩ | ⟨b, off, cap, hv, q1, q2, q3, q4⟩
      · cases h
      refine op_wp ho (met_none rfl) (wp_append_where (.tmp 54) (.tmp 60) 38 rfl n1 3 i0 _ 1 8 Tryz.underlying38 hi hz0 hz1 hz2 rfl (by decide) vl xs.length (xs.map vN) x54 ow ⟨b, off, none⟩ 2 cap ([d.m.toNat, numF d.n 100].map vN) (by decide) hv rfl ?_ ?_ (by simp only [maxLen]; omega) (by omega) g2 ?_)
      · intro j u hu
        rw [add_off]
        simp only [List.getElem?_map, Option.map_eq_some_iff] at hu
        obtain ⟨y, hy, rfl⟩ := hu
        obtain ⟨hj, rfl⟩ := List.getElem?_eq_some_iff.1 hy
        exact q4 j hj
      · intro u hu
        obtain ⟨y, _, rfl⟩ := List.mem_map.1 hu
        rfl
      · intro v' w' own' hg hwh
        have hb : Below n1 w w' := (Below.refl _ w).grown hg g2 (fun k hk => (ow.lt k hk).1)
        have hs := hg.size
        refine ⟨v', rfl, fun _ => trivial, g1.trans hb, by omega, by omega, (fun h => by omega), fun _ => by rw [put_get (by decide)]; exact g5 (by decide), (fun h => by omega), (fun h => by cases h), fun _ => ?_, fun h => by cases h⟩
        rw [put_get_same (by rw [hsz, hsz0]; decide)]
        have e1 : (xs ++ [d.m.toNat, numF d.n 100]).length = xs.length + 2 := by simp
        have e2 : (xs ++ [d.m.toNat, numF d.n 100]).map vN = xs.map vN ++ [d.m.toNat, numF d.n 100].map vN := by simp
        rw [e1, e2]
        exact own'
    · refine line_key hlf 3 rfl fun ho a w hG hsz hd hold => ?_
      obtain ⟨g1, g2, g3, g4, g5, g6, g7, g8, -⟩ := hG
      refine op_val ho (met_none rfl) (run_assign _ rfl rfl) trivial ⟨g1, g2, g3, (fun h => by omega), (fun h => by omega), (fun h => by omega), (fun h => by cases h), (fun h => by cases h), fun _ => ?_⟩
      rw [put_get_same (by rw [hsz, hsz0]; decide)]
      exact g8 rfl
  · intro a w8 hG hS hold hsz hdf
    exact hQ a w8 ((Below.refl n1 W).drew.trans hG.1) (hG.2.2.2.2.2.2.2.2 rfl) hold (hsz.trans hsz0) hdf
end Go.Proofs.YtcjbgchhalilnaaGreatDoor
