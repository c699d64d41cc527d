/- plain: a manifest as the reference has it: the walk. -/
import Derived.Test.YtcjbgchhalilnaaGreatDoorFc
import Derived.Test.YtcjbgchhalilnaaGreatDoorFe
namespace Go.Proofs.YtcjbgchhalilnaaGreatDoor
open Go Go.RowKit Go.Lib
set_option linter.unusedVariables false

theorem info_d56 : (Tryz.prog.info? 56).map (fun i => (i.zero, i.size, i.bytes)) = some (some (.agg #[.int .i64 0, encStr []]), 2, 24) := by kernel_rfl

def PlG (W : World) (n3 : Nat) (sq ev kp : Int) (vi vd : Value) (acc : List D2) (d : D2) (n : Nat) (a : Act) (w : World) : Prop :=
  Below n3 W w ∧ MCell n3 sq ev kp vi (if n ≤ 2 then vd else a.tmps.getD 37 undef) w ∧ (n ≤ 1 → w.ownsRow (n3 + 1) 56 2 vd acc.length (flatV acc)) ∧
    (2 ≤ n → w.ownsRow (n3 + 1) 56 2 (a.tmps.getD 37 undef) (acc ++ [d]).length (flatV (acc ++ [d]))) ∧ (n = 1 → ∃ g, a.tmps.getD 36 undef = .slice (some ⟨g, 0, none⟩) 1 1 ∧ CellsAt w g 0 d)
theorem PlG.put {W : World} {n3 : Nat} {sq ev kp : Int} {vi vd : Value} {acc : List D2} {d : D2} {n : Nat} {a : Act} {w : World} (h : PlG W n3 sq ev kp vi vd acc d n a w) {t : Nat} {v : Value} (h36 : t ≠ 36) (h37 : t ≠ 37) : PlG W n3 sq ev kp vi vd acc d n (a.put (some t) v) w := by
  unfold PlG at h ⊢
  rw [put_get h36, put_get h37]
  exact h

set_option maxRecDepth 100000 in
theorem plain5 {Q : Exit → Act → World → Prop} {a0 : Act} {W W1 : World} {n1 n3 b off cd L j : Nat} {sq ev kp : Int} {vi vd : Value} {acc : List D2} {d : D2} (hsz0 : a0.tmps.size = 40) (hj : j < L) (hL : L ≤ 100000) (hacc : acc.length ≤ 100000) (hb3 : b < n3) (h13 : n1 < n3)
    (t1 : a0.tmps.getD 1 undef = .pointer (some ⟨n1, 0, none⟩)) (t3 : a0.tmps.getD 3 undef = .pointer (some ⟨n3, 0, none⟩)) (t4 : a0.tmps.getD 4 undef = .int .i64 (j : Int))
    (hb0 : Below n3 W W1) (hM : MCell n3 sq ev kp vi vd W1) (hO : W1.ownsRow (n3 + 1) 56 2 vd acc.length (flatV acc)) (C4 : ∀ w', Below n3 W w' → w'.cell? ⟨n1, 4, none⟩ = some (.slice (some ⟨b, off, none⟩) L cd))
    (D : ∀ w', Below n3 W w' → w'.cell? ⟨b, off + j * 2, none⟩ = some (.int .i64 d.m) ∧ w'.cell? ⟨b, off + j * 2 + 1, none⟩ = some (encStr d.n))
    (hQ : ∀ a w8 v', Below n3 W w8 → MCell n3 sq ev kp vi v' w8 → w8.ownsRow (n3 + 1) 56 2 v' (acc ++ [d]).length (flatV (acc ++ [d])) → (∀ t, isDst (opsOf Tryz.f10 5) t = false → a.tmps.getD t undef = a0.tmps.getD t undef) → a.tmps.size = 40 → a.defers = a0.defers → Q .normal a w8) :
    (Code.region 5 (opsOf Tryz.f10 5) true).wp Tryz.prog Q a0 W1 := by
  obtain ⟨i0, hi, hz0, hz1, hz2⟩ := info_parts2 info_d56
  have hj' : (j : Int) < L := by omega
  have hlf : lineForm (opsOf Tryz.f10 5) [15, 16, 18] = true := by kernel_rfl
  refine region_line (by kernel_rfl) [15, 16, 18] (fun i => ([fun v => v = .pointer (some ⟨n3, 4, none⟩), fun v => v = vd, fun v => v = .pointer (some ⟨n1, 4, none⟩), fun v => v = .slice (some ⟨b, off, none⟩) L cd, fun v => v = .int .i64 (j : Int), fun v => v = .pointer (some ⟨b, off + j * 2, none⟩), fun v => v = .pointer (some ⟨b, off + j * 2, none⟩), fun v => v = .int .i64 d.m, fun v => v = .pointer (some ⟨n1, 4, none⟩), fun v => v = .slice (some ⟨b, off, none⟩) L cd, fun v => v = .int .i64 (j : Int), fun v => v = .pointer (some ⟨b, off + j * 2, none⟩), fun v => v = .pointer (some ⟨b, off + j * 2 + 1, none⟩), fun v => v = encStr d.n, fun v => v = .agg #[.int .i64 d.m, encStr d.n], fun _ => True, fun _ => True, fun v => v = .pointer (some ⟨n3, 4, none⟩)] : List (Value → Prop)).getD i fun _ => True)
    (PlG W n3 sq ev kp vi vd acc d) (by rw [hsz0]; kernel_rfl) hlf ⟨hb0.drew, hM.below (Below.refl _ _).drew hM.lt, fun _ => owns_below hO (Below.refl _ _).drew, (fun h => by omega), fun h => by cases h⟩ (ops_all ?_) ?_
  · refine ⟨?_, ?_, ?_, ?_, ?_, ?_, ?_, ?_, ?_, ?_, ?_, ?_, ?_, ?_, ?_, ?_, ?_, ?_, ?_, trivial⟩
    · refine line_pure (by decide) fun ho n a w hG hn hbd hsz hd hold => ?_
      have x3 : a.tmps.getD 3 undef = _ := (hold 3 rfl).trans t3
      exact op_val ho (met_none rfl) (by go_simp) rfl (hG.put (by decide) (by decide))
    · refine line_pure (by decide) fun ho n a w hG hn hbd hsz hd hold => ?_
      have x21 : a.tmps.getD 21 undef = .pointer (some ⟨n3, 4, none⟩) := hd 0 rfl rfl
      have h1 : n ≤ 1 := hbd 1 (by decide) (by kernel_rfl)
      have hc : w.cell? ⟨n3, 4, none⟩ = some vd := by
        have := hG.2.1.c4
        rwa [if_pos (show n ≤ 2 by omega)] at this
      exact op_val ho (met_none rfl) (by go_simp) rfl (hG.put (by decide) (by decide))
    · refine line_pure (by decide) fun ho n a w hG hn hbd hsz hd hold => ?_
      have x1 : a.tmps.getD 1 undef = _ := (hold 1 rfl).trans t1
      exact op_val ho (met_none rfl) (by go_simp) rfl (hG.put (by decide) (by decide))
    · refine line_pure (by decide) fun ho n a w hG hn hbd hsz hd hold => ?_
      have x23 : a.tmps.getD 23 undef = .pointer (some ⟨n1, 4, none⟩) := hd 2 rfl rfl
      have c4 := C4 w hG.1
      exact op_val ho (met_none rfl) (by go_simp) rfl (hG.put (by decide) (by decide))
    · refine line_pure (by decide) fun ho n a w hG hn hbd hsz hd hold => ?_
      exact op_val ho (met_none rfl) (run_move _ rfl ((hold 4 rfl).trans t4)) rfl (hG.put (by decide) (by decide))
    · refine line_pure (by decide) fun ho n a w hG hn hbd hsz hd hold => ?_
      have x24 : a.tmps.getD 24 undef = .slice (some ⟨b, off, none⟩) L cd := hd 3 rfl rfl
      have x25 : a.tmps.getD 25 undef = .int .i64 (j : Int) := hd 4 rfl rfl
      exact op_val ho (met_none rfl) (by go_simp) rfl (hG.put (by decide) (by decide))
    · refine line_pure (by decide) fun ho n a w hG hn hbd hsz hd hold => ?_
      have x26 : a.tmps.getD 26 undef = .pointer (some ⟨b, off + j * 2, none⟩) := hd 5 rfl rfl
      exact op_val ho (met_none rfl) (by go_simp) rfl (hG.put (by decide) (by decide))
    · refine line_pure (by decide) fun ho n a w hG hn hbd hsz hd hold => ?_
      have x27 : a.tmps.getD 27 undef = .pointer (some ⟨b, off + j * 2, none⟩) := hd 6 rfl rfl
      have dd := (D w hG.1).1
      exact op_val ho (met_none rfl) (by go_simp) rfl (hG.put (by decide) (by decide))
    · refine line_pure (by decide) fun ho n a w hG hn hbd hsz hd hold => ?_
      have x1 : a.tmps.getD 1 undef = _ := (hold 1 rfl).trans t1
      exact op_val ho (met_none rfl) (by go_simp) rfl (hG.put (by decide) (by decide))
    · refine line_pure (by decide) fun ho n a w hG hn hbd hsz hd hold => ?_
      have x29 : a.tmps.getD 29 undef = .pointer (some ⟨n1, 4, none⟩) := hd 8 rfl rfl
      have c4 := C4 w hG.1
      exact op_val ho (met_none rfl) (by go_simp) rfl (hG.put (by decide) (by decide))
    · refine line_pure (by decide) fun ho n a w hG hn hbd hsz hd hold => ?_
      exact op_val ho (met_none rfl) (run_move _ rfl ((hold 4 rfl).trans t4)) rfl (hG.put (by decide) (by decide))
    · refine line_pure (by decide) fun ho n a w hG hn hbd hsz hd hold => ?_
      have x30 : a.tmps.getD 30 undef = .slice (some ⟨b, off, none⟩) L cd := hd 9 rfl rfl
      have x31 : a.tmps.getD 31 undef = .int .i64 (j : Int) := hd 10 rfl rfl
      exact op_val ho (met_none rfl) (by go_simp) rfl (hG.put (by decide) (by decide))
    · refine line_pure (by decide) fun ho n a w hG hn hbd hsz hd hold => ?_
      have x32 : a.tmps.getD 32 undef = .pointer (some ⟨b, off + j * 2, none⟩) := hd 11 rfl rfl
      exact op_val ho (met_none rfl) (by go_simp) rfl (hG.put (by decide) (by decide))
    · refine line_pure (by decide) fun ho n a w hG hn hbd hsz hd hold => ?_
      have x33 : a.tmps.getD 33 undef = .pointer (some ⟨b, off + j * 2 + 1, none⟩) := hd 12 rfl rfl
      have dd := (D w hG.1).2
      exact op_val ho (met_none rfl) (by go_simp) rfl (hG.put (by decide) (by decide))
    · refine line_pure (by decide) fun ho n a w hG hn hbd hsz hd hold => ?_
      have x28 : a.tmps.getD 28 undef = .int .i64 d.m := hd 7 rfl rfl
      have x34 : a.tmps.getD 34 undef = encStr d.n := hd 13 rfl rfl
      clear hsz
      have x28' : (a.tmps[28]?).getD undef = .int .i64 d.m := by simpa using x28
      have x34' : (a.tmps[34]?).getD undef = encStr d.n := by simpa using x34
      exact op_val ho (met_none rfl) (v := .agg #[.int .i64 d.m, encStr d.n]) (w' := w) (by go_simp) rfl (hG.put (by decide) (by decide))
    · refine line_key hlf 0 rfl fun ho a w hG hsz hd hold => ?_
      have x35 : a.tmps.getD 35 undef = .agg #[.int .i64 d.m, encStr d.n] := hd 14 rfl rfl
      have HS := Lib.hid (hsz.trans hsz0)
      clear hsz
      have x35' : (a.tmps[35]?).getD undef = .agg #[.int .i64 d.m, encStr d.n] := by simpa using x35
      obtain ⟨g1, g2, g3, -, -⟩ := hG
      rw [if_pos (by decide)] at g2
      have q : Below w.heap.size w (w.alloc (.cells #[.int .i64 d.m, encStr d.n] 56)) := (Below.refl _ _).alloc (Nat.le_refl _) _
      have hlt := g2.lt
      refine op_val (v := .slice (some ⟨w.heap.size, 0, none⟩) 1 1) (w' := w.alloc (.cells #[.int .i64 d.m, encStr d.n] 56)) ho (met_none rfl) (by go_simp) trivial ⟨g1.trans (q.mono (by omega)), ?_, fun _ => owns_below (g3 (by decide)) q, (fun h => by omega), fun _ => ⟨w.heap.size, ?_, ?_⟩⟩
      · rw [if_pos (by decide)]; exact g2.below q hlt
      · exact put_get_same (by rw [HS.out]; decide)
      · exact ⟨World.cell?_alloc_new _ _ _ _, World.cell?_alloc_new _ _ _ _⟩
    · refine line_key hlf 1 rfl fun ho a w hG hsz hd hold => ?_
      have x22 : a.tmps.getD 22 undef = vd := hd 1 rfl rfl
      obtain ⟨g1, g2, g3, -, g5⟩ := hG
      obtain ⟨g, x36, hcg⟩ := g5 rfl
      rw [if_pos (by decide)] at g2
      have g4 := g3 (by decide)
      have hlt := g2.lt
      refine op_wp ho (met_none rfl) (wp_append_where (.tmp 22) (.tmp 36) 28 rfl (n3 + 1) 56 i0 _ 2 24 Tryz.underlying28 hi hz0 hz1 hz2 rfl (by decide) vd acc.length (flatV acc) x22 g4 ⟨g, 0, none⟩ 1 1 (cellsV d) (by decide) x36 rfl ?_ ?_ (by simp only [maxLen]; omega) (by omega) (by omega) ?_)
      · intro i u hu
        rw [add_off]
        unfold cellsV at hu
        rcases i with _ | _ | i
        · simp at hu; subst hu; exact hcg.1
        · simp at hu; subst hu; exact hcg.2
        · simp at hu
      · intro u hu
        unfold cellsV at hu
        simp only [List.mem_cons, List.not_mem_nil, or_false] at hu
        rcases hu with rfl | rfl <;> rfl
      · intro v' w' own' hg hwh
        have hb : Below (n3 + 1) w w' := (Below.refl _ w).grown hg (by omega) (fun k hk => (g4.lt k hk).1)
        refine ⟨v', rfl, fun _ => trivial, g1.trans (hb.mono (by omega)), ?_, (fun h => by omega), fun _ => ?_, fun h => by cases h⟩
        · rw [if_pos (by decide)]; exact g2.below hb (by omega)
        · rw [put_get_same (by rw [hsz, hsz0]; decide)]
          have e1 : (acc ++ [d]).length = acc.length + 1 := by simp
          have e2 : flatV (acc ++ [d]) = flatV acc ++ cellsV d := by rw [flatV_append]; simp [flatV]
          rw [e1, e2]
          exact own'
    · refine line_pure (by decide) fun ho n a w hG hn hbd hsz hd hold => ?_
      have x3 : a.tmps.getD 3 undef = _ := (hold 3 rfl).trans t3
      exact op_val ho (met_none rfl) (by go_simp) rfl (hG.put (by decide) (by decide))
    · refine line_key hlf 2 rfl fun ho a w hG hsz hd hold => ?_
      have x38 : a.tmps.getD 38 undef = .pointer (some ⟨n3, 4, none⟩) := hd 17 rfl rfl
      obtain ⟨g1, g2, g3, g4, -⟩ := hG
      rw [if_pos (by decide)] at g2
      have g4 := g4 (by decide)
      obtain ⟨y, hy⟩ : ∃ y, a.tmps.getD 37 undef = y := ⟨_, rfl⟩
      rw [hy] at g4
      obtain ⟨ay, cy, rfl⟩ := (ReadsV.of_owns g4).slice
      have hc := g2.c4
      have hz := g2.z 4
      refine op_skip (w' := w.setCell ⟨n3, 4, none⟩ (.slice ay (acc ++ [d]).length cy)) ho (met_none rfl) rfl (by go_simp) ⟨g1.setCell (p := ⟨n3, 4, none⟩) (by simp only; omega) _, ?_, (fun h => by omega), fun _ => ?_, fun h => by cases h⟩
      · rw [if_neg (by decide), hy]; exact g2.set4 _
      · rw [hy]; exact ownsRow_setCell_below g4 (by simp only; omega) _
  · intro a w8 hG hS hold hsz hdf
    obtain ⟨g1, g2, -, g4, -⟩ := hG
    rw [if_neg (by decide)] at g2
    exact hQ a w8 _ g1 g2 (g4 (by decide)) hold (hsz.trans hsz0) hdf
end Go.Proofs.YtcjbgchhalilnaaGreatDoor
