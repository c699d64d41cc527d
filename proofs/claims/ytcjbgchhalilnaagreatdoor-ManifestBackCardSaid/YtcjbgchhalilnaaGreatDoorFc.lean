/- manifest.Unpack: its two regions that leave their order open. -/
import Derived.Test.YtcjbgchhalilnaaGreatDoorFa
import Derived.Test.YtcjbgchhalilnaaGreatDoorKf
import Derived.Test.YtcjbgchhalilnaaGreatDoorKg
namespace Go.Proofs.YtcjbgchhalilnaaGreatDoor
open Go Go.RowKit Go.Lib

theorem run_callc {P : Program} {a : Act} {w : World} {o : Oper} {f : FuncId} {fn : Func} {x : Operand} {args : Array Operand} {ts : Array TypeId} {cap : Array Value} (hf : P.funcs[f]? = some fn) (hname : (fn.name == "runtime.NumGoroutine") = false) (hbody : fn.body.isNone = false)
    (h : o.op = .call { callee := .value x, args := args, argTypes := ts }) (hx : a.eval x = .func (.func f) #[] cap) {vs : Array Value} (hvs : args.map a.eval ++ cap = vs) : (execOp a.eval o).run P w = .ok (.enter f vs) w := by
  subst hvs
  unfold execOp
  have h1 : fn.name ≠ "runtime.NumGoroutine" := by simpa using hname
  have h2 : fn.body ≠ none := by
    intro hb
    rw [hb] at hbody
    cases hbody
  simp [h, resolve, hx, Deferred.ofValue, invoke, callFunc, hf, h1, h2]

/-- The manifest's box. -/
structure MCell (n8 : Nat) (sq ev kp : Int) (vi vd : Value) (w : World) : Prop where
  c0 : w.cell? ⟨n8, 0, none⟩ = some (.int .i64 sq)
  c1 : w.cell? ⟨n8, 1, none⟩ = some (.int .i64 ev)
  c2 : w.cell? ⟨n8, 2, none⟩ = some (.int .i64 kp)
  c3 : w.cell? ⟨n8, 3, none⟩ = some vi
  c4 : w.cell? ⟨n8, 4, none⟩ = some vd
  z : ∀ k, w.frozen? ⟨n8, k, none⟩ = false
  lt : n8 < w.heap.size
theorem MCell.below {n8 B : Nat} {sq ev kp : Int} {vi vd : Value} {w w' : World} (h : MCell n8 sq ev kp vi vd w) (hb : Below B w w') (hB : n8 < B) : MCell n8 sq ev kp vi vd w' := by
  obtain ⟨c0, c1, c2, c3, c4, z, lt⟩ := h
  have q : ∀ k, w'.cell? ⟨n8, k, none⟩ = w.cell? ⟨n8, k, none⟩ := fun k => hb.cell (p := ⟨n8, k, none⟩) hB
  have r : ∀ k, w'.frozen? ⟨n8, k, none⟩ = w.frozen? ⟨n8, k, none⟩ := fun k => hb.frozen (p := ⟨n8, k, none⟩) hB
  exact ⟨(q 0).trans c0, (q 1).trans c1, (q 2).trans c2, (q 3).trans c3, (q 4).trans c4, fun k => (r k).trans (z k), Nat.lt_of_lt_of_le lt hb.size⟩
theorem MCell.step {n4 n6 n8 : Nat} {sq ev kp : Int} {vi vd : Value} {w w' : World} (h : MCell n8 sq ev kp vi vd w) (hs : Step2 n4 n6 w w') (h4 : n8 ≠ n4) (h6 : n8 ≠ n6) : MCell n8 sq ev kp vi vd w' := by
  obtain ⟨c0, c1, c2, c3, c4, z, lt⟩ := h
  have q : ∀ k, w'.cell? ⟨n8, k, none⟩ = w.cell? ⟨n8, k, none⟩ := fun k => hs.cell (q := ⟨n8, k, none⟩) lt h4 h6
  have r : ∀ k, w'.frozen? ⟨n8, k, none⟩ = w.frozen? ⟨n8, k, none⟩ := fun k => hs.frozen (q := ⟨n8, k, none⟩) lt
  exact ⟨(q 0).trans c0, (q 1).trans c1, (q 2).trans c2, (q 3).trans c3, (q 4).trans c4, fun k => (r k).trans (z k), Nat.lt_of_lt_of_le lt hs.size⟩
theorem set_off {w : World} {n k j : Nat} {u : Value} (h : k ≠ j) : (w.setCell ⟨n, k, none⟩ u).cell? ⟨n, j, none⟩ = w.cell? ⟨n, j, none⟩ := World.cell?_setCell_other w _ _ u fun e => h (by injection e)
theorem MCell.set3 {n8 : Nat} {sq ev kp : Int} {vi vd : Value} {w : World} (h : MCell n8 sq ev kp vi vd w) (u : Value) : MCell n8 sq ev kp u vd (w.setCell ⟨n8, 3, none⟩ u) := by
  obtain ⟨c0, c1, c2, c3, c4, z, lt⟩ := h
  exact ⟨(set_off (by decide)).trans c0, (set_off (by decide)).trans c1, (set_off (by decide)).trans c2, World.cell?_setCell_same _ _ _ c3, (set_off (by decide)).trans c4, (fun k => by rw [World.frozen?_setCell]; exact z k), by simpa using lt⟩
theorem MCell.set4 {n8 : Nat} {sq ev kp : Int} {vi vd : Value} {w : World} (h : MCell n8 sq ev kp vi vd w) (u : Value) : MCell n8 sq ev kp vi u (w.setCell ⟨n8, 4, none⟩ u) := by
  obtain ⟨c0, c1, c2, c3, c4, z, lt⟩ := h
  exact ⟨(set_off (by decide)).trans c0, (set_off (by decide)).trans c1, (set_off (by decide)).trans c2, (set_off (by decide)).trans c3, World.cell?_setCell_same _ _ _ c4, (fun k => by rw [World.frozen?_setCell]; exact z k), by simpa using lt⟩

/-- The block of a row. -/
def blkB (v : Value) : List Nat := v.ownBlock.toList
theorem blkB_mem {v : Value} {g : Nat} : g ∈ blkB v ↔ v.ownBlock = some g := by unfold blkB; cases v.ownBlock <;> simp [eq_comm]
/-- The boxes, behind an append to a row of the call's own that lies elsewhere. -/
theorem Boxes.grown {Y : List Nat} {n4 n6 : Nat} {s : St} {w w' : World} {v v' : Value} (h : Boxes (blkB v ++ Y) n4 n6 s w) (hg : w.grownBy w' v.ownBlock) (hv : v'.ownBlock = v.ownBlock ∨ v'.ownBlock = some w.heap.size)
    (hlt : ∀ k, v'.ownBlock = some k → k < w'.heap.size) (i4 : n4 ∈ Y) (i6 : n6 ∈ Y) (e4 : ∀ g, v.ownBlock = some g → g ≠ n4 ∧ g ≠ n6) : Boxes (blkB v' ++ Y) n4 n6 s w' := by
  have s4 := h.size n4 h.in4
  have s6 := h.size n6 h.in6
  obtain ⟨⟨u, g1, g2, g2'⟩, g3, g4, g5, _, _, ne, sz, ln⟩ := h
  have a4 : some n4 ≠ v.ownBlock := fun e => (e4 n4 e.symm).1 rfl
  have a6 : some n6 ≠ v.ownBlock := fun e => (e4 n6 e.symm).2 rfl
  refine ⟨⟨u, (World.cell?_of_block (hg.block n4 s4 a4)).trans g1, ?_, ?_⟩, (World.cell?_of_block (hg.block n6 s6 a6)).trans g3, (World.frozen?_of_block (hg.block n4 s4 a4)).trans g4, (World.frozen?_of_block (hg.block n6 s6 a6)).trans g5,
    List.mem_append_right _ i4, List.mem_append_right _ i6, ne, ?_, ln⟩
  · rcases g2 with k | ⟨b, off, cap, hu, k1, k2, k3, k4⟩
    · exact .inl k
    · by_cases hl : s.2 = []
      · rw [hl] at hu ⊢
        exact .inl ⟨rfl, some ⟨b, off, none⟩, cap, hu, k2, fun e => by cases e⟩
      · have hb : some b ≠ v.ownBlock := by
          rcases g2' b off _ cap hu with e | e
          · exact fun k => e (List.mem_append_left _ (blkB_mem.2 k.symm))
          · exact absurd e hl
        exact .inr ⟨b, off, cap, hu, k1, k2, Nat.lt_of_lt_of_le k3 hg.size, fun i hi => (World.cell?_of_block (a := ⟨b, off + i, none⟩) (hg.block b k3 hb)).trans (k4 i hi)⟩
  · intro b o n c hu
    rcases g2' b o n c hu with e | e
    · by_cases hl : s.2 = []
      · exact .inr hl
      refine .inl fun k => ?_
      rcases List.mem_append.1 k with k | k
      · rcases hv with q | q
        · rw [blkB_mem, q, ← blkB_mem] at k
          exact e (List.mem_append_left _ k)
        · rw [blkB_mem, q] at k
          injection k with k
          rcases g2 with ⟨r, _⟩ | ⟨b', off', cap', hu', _, _, r3, _⟩
          · exact hl r
          · rw [hu] at hu'
            simp only [Value.slice.injEq, Option.some.injEq, Addr.mk.injEq] at hu'
            omega
      · exact e (List.mem_append_right _ k)
    · exact .inr e
  · intro x hx
    rcases List.mem_append.1 hx with k | k
    · exact hlt x (blkB_mem.1 k)
    · exact Nat.lt_of_lt_of_le (sz x (List.mem_append_right _ k)) hg.size

/-- What stays of the region that lays an index's name. -/
def IxG (W0 : World) (n0 : Nat) (X : List Nat) (n4 n6 n8 : Nat) (s : St) (sq ev kp : Int) (vi vd : Value) (acc : List (List UInt8)) (n : Nat) (a : Act) (w : World) : Prop :=
  Below n0 W0 w ∧ Boxes (blkB (if n ≤ 3 then vi else a.tmps.getD 39 undef) ++ X) n4 n6 (if n = 0 then s else (numS s).2) w ∧ MCell n8 sq ev kp (if n ≤ 4 then vi else a.tmps.getD 39 undef) vd w ∧
    (if n ≤ 3 then w.ownsRow (n8 + 1) 9 1 vi acc.length (acc.map encStr) else w.ownsRow (n8 + 1) 9 1 (a.tmps.getD 39 undef) (acc ++ [nameL 105 (numS s).1]).length ((acc ++ [nameL 105 (numS s).1]).map encStr)) ∧
    (n = 3 → Reads w encStr (a.tmps.getD 38 undef) [nameL 105 (numS s).1])
theorem IxG.put {W0 : World} {n0 : Nat} {X : List Nat} {n4 n6 n8 : Nat} {s : St} {sq ev kp : Int} {vi vd : Value} {acc : List (List UInt8)} {n : Nat} {a : Act} {w : World} (h : IxG W0 n0 X n4 n6 n8 s sq ev kp vi vd acc n a w) {d : Nat} {v : Value} (h38 : d ≠ 38) (h39 : d ≠ 39) :
    IxG W0 n0 X n4 n6 n8 s sq ev kp vi vd acc n (a.put (some d) v) w := by
  unfold IxG at h ⊢
  rw [put_get h38, put_get h39]
  exact h

set_option maxRecDepth 100000 in
theorem unpack9 {Q : Exit → Act → World → Prop} {a0 : Act} {W0 W : World} {n0 : Nat} {X : List Nat} {n4 n6 n8 : Nat} {s : St} {sq ev kp : Int} {vi vd : Value} {acc : List (List UInt8)} (hsz0 : a0.tmps.size = 79)
    (hn0 : W0.heap.size = n0) (hT : Laid W0) (h04 : n0 ≤ n4) (h06 : n0 ≤ n6) (h48 : n4 < n8) (h68 : n6 < n8) (h4X : n4 ∈ X) (h6X : n6 ∈ X) (h8X : n8 ∈ X) (hacc : acc.length ≤ 200)
    (t7 : a0.tmps.getD 7 undef = .func (.func 37) #[] #[.pointer (some ⟨n4, 0, none⟩), .pointer (some ⟨n6, 0, none⟩)]) (t8 : a0.tmps.getD 8 undef = .pointer (some ⟨n8, 0, none⟩))
    (hb0 : Below n0 W0 W) (hB : Boxes (blkB vi ++ X) n4 n6 s W) (hM : MCell n8 sq ev kp vi vd W) (hO : W.ownsRow (n8 + 1) 9 1 vi acc.length (acc.map encStr))
    (hQ : ∀ a w8 v', Below n0 W0 w8 → Boxes (blkB v' ++ X) n4 n6 (numS s).2 w8 → MCell n8 sq ev kp v' vd w8 → w8.ownsRow (n8 + 1) 9 1 v' (acc ++ [nameL 105 (numS s).1]).length ((acc ++ [nameL 105 (numS s).1]).map encStr) →
      (∀ t, isDst (opsOf Tryz.f23 9) t = false → a.tmps.getD t undef = a0.tmps.getD t undef) → a.tmps.size = 79 → a.defers = a0.defers → Q .normal a w8) :
    (Code.region 9 (opsOf Tryz.f23 9) true).wp Tryz.prog Q a0 W := by
  obtain ⟨i0, hi, hz0, hz1, hz2⟩ := info_partsS info_str
  have hr := numS_range s
  have hlf : lineForm (opsOf Tryz.f23 9) [3, 4, 5, 6, 8] = true := by kernel_rfl
  refine region_line (by kernel_rfl) [3, 4, 5, 6, 8] (fun i => ([fun v => v = .pointer (some ⟨n8, 3, none⟩), fun v => v = vi, fun v => v = .func (.func 37) #[] #[.pointer (some ⟨n4, 0, none⟩), .pointer (some ⟨n6, 0, none⟩)], fun v => v = .int .i64 (numS s).1, fun v => v = encStr (nameL 105 (numS s).1), fun _ => True, fun _ => True, fun v => v = .pointer (some ⟨n8, 3, none⟩)] : List (Value → Prop)).getD i fun _ => True)
    (IxG W0 n0 X n4 n6 n8 s sq ev kp vi vd acc) (by rw [hsz0]; kernel_rfl) hlf ⟨hb0.drew, hB.below (Below.refl _ _).drew (Nat.le_refl _), hM.below (Below.refl _ _).drew hM.lt, owns_below hO (Below.refl _ _).drew, fun h => by cases h⟩ (ops_all ?_) ?_
  · refine ⟨?_, ?_, ?_, ?_, ?_, ?_, ?_, ?_, ?_, trivial⟩
    · refine line_pure (by decide) fun ho n a w hG hn hbd hsz hd hold => ?_
      have x8 : a.tmps.getD 8 undef = _ := (hold 8 rfl).trans t8
      exact op_val ho (met_none rfl) (by go_simp) rfl (hG.put (by decide) (by decide))
    · refine line_pure (by decide) fun ho n a w hG hn hbd hsz hd hold => ?_
      have x33 : a.tmps.getD 33 undef = .pointer (some ⟨n8, 3, none⟩) := hd 0 rfl rfl
      have h3 : n ≤ 3 := hbd 3 (by decide) (by kernel_rfl)
      have hc : w.cell? ⟨n8, 3, none⟩ = some vi := by
        have := hG.2.2.1.c3
        rwa [if_pos (show n ≤ 4 by omega)] at this
      exact op_val ho (met_none rfl) (by go_simp) rfl (hG.put (by decide) (by decide))
    · refine line_pure (by decide) fun ho n a w hG hn hbd hsz hd hold => ?_
      exact op_val ho (met_none rfl) (run_move _ rfl ((hold 7 rfl).trans t7)) rfl (hG.put (by decide) (by decide))
    · refine line_key hlf 0 rfl fun ho a w hG hsz hd hold => ?_
      have x35 : a.tmps.getD 35 undef = _ := hd 2 rfl rfl
      obtain ⟨g1, g2, g3, g4, -⟩ := hG
      rw [if_pos (by decide), if_pos rfl] at g2
      rw [if_pos (by decide)] at g3 g4
      refine op_call ho (met_none rfl) (run_callc (x := .tmp 35) Tryz.func37 (by kernel_rfl) rfl rfl x35 (vs := #[.pointer (some ⟨n4, 0, none⟩), .pointer (some ⟨n6, 0, none⟩)]) (by simp)) ?_
      refine (num_any (blkB vi ++ X) n4 n6 s w g2).mono ?_
      rintro e w' ⟨rfl, q1, q2⟩
      refine ⟨_, rfl, rfl, g1.trans (q2.below h04 h06 (by have := g3.lt; omega)), ?_, ?_, ?_, fun h => by cases h⟩
      · rw [if_pos (by decide), if_neg (by decide)]; exact q1
      · rw [if_pos (by decide)]; exact g3.step q2 (by omega) (by omega)
      · rw [if_pos (by decide)]; exact q2.own (by omega) (by omega) g4
    · refine line_key hlf 1 rfl fun ho a w hG hsz hd hold => ?_
      have x36 : a.tmps.getD 36 undef = .int .i64 (numS s).1 := hd 3 rfl rfl
      obtain ⟨g1, g2, g3, g4, -⟩ := hG
      rw [if_pos (by decide), if_neg (by decide)] at g2
      rw [if_pos (by decide)] at g3 g4
      refine op_call (args := #[.int .u8 105, .int .i64 (numS s).1]) ho (met_none rfl) (run_callf Tryz.func19 (by kernel_rfl) rfl rfl (by simp only [List.map_toArray, List.map_cons, List.map_nil, Act.eval, x36])) ?_
      refine (Name_any 105 (numS s).1 w (hT.below g1 (by omega)) (by decide) (by omega)).mono ?_
      rintro e w' ⟨rfl, q⟩
      have hlt := g3.lt
      refine ⟨_, rfl, rfl, g1.trans (q.mono (by omega)), ?_, ?_, ?_, fun h => by cases h⟩
      · rw [if_pos (by decide), if_neg (by decide)]; exact g2.below q (Nat.le_refl _)
      · rw [if_pos (by decide)]; exact g3.below q hlt
      · rw [if_pos (by decide)]; exact owns_below g4 q
    · refine line_key hlf 2 rfl fun ho a w hG hsz hd hold => ?_
      have x37 : a.tmps.getD 37 undef = encStr (nameL 105 (numS s).1) := hd 4 rfl rfl
      have HS := Lib.hid (hsz.trans hsz0)
      clear hsz
      have x37' : (a.tmps[37]?).getD undef = encStr (nameL 105 (numS s).1) := by simpa using x37
      obtain ⟨g1, g2, g3, g4, -⟩ := hG
      rw [if_pos (by decide), if_neg (by decide)] at g2
      rw [if_pos (by decide)] at g3 g4
      have hlt := g3.lt
      have q : Below w.heap.size w (w.alloc (.cells #[encStr (nameL 105 (numS s).1)] 9)) := (Below.refl _ _).alloc (Nat.le_refl _) _
      refine op_val (v := .slice (some ⟨w.heap.size, 0, none⟩) 1 1) (w' := w.alloc (.cells #[encStr (nameL 105 (numS s).1)] 9)) ho (met_none rfl) (by go_simp) trivial ⟨g1.trans (q.mono (by omega)), ?_, ?_, ?_, fun _ => ?_⟩
      · rw [if_pos (by decide), if_neg (by decide)]; exact g2.below q (Nat.le_refl _)
      · rw [if_pos (by decide)]; exact g3.below q hlt
      · rw [if_pos (by decide)]; exact owns_below g4 q
      · rw [put_get_same (by rw [HS.out]; decide)]
        exact Reads.built w _ _ 1 encStr [nameL 105 (numS s).1] rfl rfl (by simp [maxLen])
    · refine line_key hlf 3 rfl fun ho a w hG hsz hd hold => ?_
      have x34 : a.tmps.getD 34 undef = vi := hd 1 rfl rfl
      obtain ⟨g1, g2, g3, g4, g5⟩ := hG
      have g5 := g5 rfl
      rw [if_pos (by decide), if_neg (by decide)] at g2
      rw [if_pos (by decide)] at g3 g4
      have hlt := g3.lt
      rcases g5 with ⟨h, _⟩ | ⟨b, off, cap, hv, q1, q2, q3, q4⟩
      · cases h
      refine op_wp ho (met_none rfl) (wp_append_where (.tmp 34) (.tmp 38) 22 rfl (n8 + 1) 9 i0 _ 1 16 Tryz.underlying22 hi hz0 hz1 hz2 rfl (by decide) vi acc.length (acc.map encStr) x34 g4 ⟨b, off, none⟩ 1 cap [encStr (nameL 105 (numS s).1)] (by decide) hv rfl ?_ ?_ (by simp only [maxLen]; omega) (by omega) (by omega) ?_)
      · intro j u hu
        obtain ⟨hj, rfl⟩ := List.getElem?_eq_some_iff.1 hu
        simp only [List.length_cons, List.length_nil] at hj
        have hj0 : j = 0 := by omega
        subst hj0
        rw [add_off]
        exact q4 0 (by simp)
      · intro u hu
        rw [List.mem_singleton] at hu
        subst hu
        rfl
      · intro v' w' own' hg hwh
        have hb : Below (n8 + 1) w w' := (Below.refl _ w).grown hg (by omega) (fun k hk => (g4.lt k hk).1)
        refine ⟨v', rfl, fun _ => trivial, g1.trans (hb.mono (by omega)), ?_, ?_, ?_, fun h => by cases h⟩
        · rw [if_neg (by decide), if_neg (by decide), put_get_same (by rw [hsz, hsz0]; decide)]
          exact g2.grown hg hwh (fun k hk => (own'.lt k hk).2) h4X h6X (fun k hk => by have := (g4.lt k hk).1; omega)
        · rw [if_pos (by decide)]; exact g3.below hb (by omega)
        · rw [if_neg (by decide), put_get_same (by rw [hsz, hsz0]; decide)]
          have e1 : (acc ++ [nameL 105 (numS s).1]).length = acc.length + 1 := by simp
          have e2 : (acc ++ [nameL 105 (numS s).1]).map encStr = acc.map encStr ++ [encStr (nameL 105 (numS s).1)] := by simp
          rw [e1, e2]
          exact own'
    · refine line_pure (by decide) fun ho n a w hG hn hbd hsz hd hold => ?_
      have x8 : a.tmps.getD 8 undef = _ := (hold 8 rfl).trans t8
      exact op_val ho (met_none rfl) (by go_simp) rfl (hG.put (by decide) (by decide))
    · refine line_key hlf 4 rfl fun ho a w hG hsz hd hold => ?_
      have x40 : a.tmps.getD 40 undef = .pointer (some ⟨n8, 3, none⟩) := hd 7 rfl rfl
      obtain ⟨g1, g2, g3, g4, -⟩ := hG
      rw [if_neg (by decide), if_neg (by decide)] at g2
      rw [if_neg (by decide)] at g4
      rw [if_pos (by decide)] at g3
      obtain ⟨y, hy⟩ : ∃ y, a.tmps.getD 39 undef = y := ⟨_, rfl⟩
      rw [hy] at g2 g4
      obtain ⟨ay, cy, rfl⟩ := (Reads.of_owns g4).slice
      have hc := g3.c3
      have hz := g3.z 3
      refine op_skip (w' := w.setCell ⟨n8, 3, none⟩ (.slice ay (acc ++ [nameL 105 (numS s).1]).length cy)) ho (met_none rfl) rfl (by go_simp) ⟨g1.setCell (p := ⟨n8, 3, none⟩) (by simp only; omega) _, ?_, ?_, ?_, fun h => by cases h⟩
      · rw [if_neg (by decide), if_neg (by decide), hy]; exact g2.setCell (p := ⟨n8, 3, none⟩) (List.mem_append_right _ h8X) (by simp only; omega) (by simp only; omega) _
      · rw [if_neg (by decide), hy]; exact g3.set3 _
      · rw [if_neg (by decide), hy]; exact ownsRow_setCell_below g4 (by simp only; omega) _
  · intro a w8 hG hS hold hsz hdf
    obtain ⟨g1, g2, g3, g4, -⟩ := hG
    rw [if_neg (by decide), if_neg (by decide)] at g2
    rw [if_neg (by decide)] at g3 g4
    exact hQ a w8 _ g1 g2 g3 g4 hold (hsz.trans hsz0) hdf

/-- What stays of the region that lays a file. -/
def DxG (W0 : World) (n0 : Nat) (X : List Nat) (n4 n6 n8 n10 : Nat) (s : St) (sq ev kp : Int) (vi vd : Value) (idx : List (List UInt8)) (acc : List D2) (d : D2) (n : Nat) (a : Act) (w : World) : Prop :=
  Below n0 W0 w ∧ Boxes (blkB (if n ≤ 4 then vd else a.tmps.getD 57 undef) ++ X) n4 n6 (if n = 0 then s else (numS s).2) w ∧ MCell n8 sq ev kp vi (if n ≤ 5 then vd else a.tmps.getD 57 undef) w ∧
    (if n ≤ 4 then w.ownsRow n10 54 2 vd acc.length (flatV acc) else w.ownsRow n10 54 2 (a.tmps.getD 57 undef) (acc ++ [d]).length (flatV (acc ++ [d]))) ∧
    (n = 4 → ∃ g, a.tmps.getD 56 undef = .slice (some ⟨g, 0, none⟩) 1 1 ∧ CellsAt w g 0 d) ∧ w.ownsRow (n8 + 1) 9 1 vi idx.length (idx.map encStr) ∧ n10 ≤ w.heap.size
theorem DxG.put {W0 : World} {n0 : Nat} {X : List Nat} {n4 n6 n8 n10 : Nat} {s : St} {sq ev kp : Int} {vi vd : Value} {idx : List (List UInt8)} {acc : List D2} {d : D2} {n : Nat} {a : Act} {w : World} (h : DxG W0 n0 X n4 n6 n8 n10 s sq ev kp vi vd idx acc d n a w) {t : Nat} {v : Value} (h56 : t ≠ 56) (h57 : t ≠ 57) :
    DxG W0 n0 X n4 n6 n8 n10 s sq ev kp vi vd idx acc d n (a.put (some t) v) w := by
  unfold DxG at h ⊢
  rw [put_get h56, put_get h57]
  exact h

theorem info_d2 : (Tryz.prog.info? 54).map (fun i => (i.zero, i.size, i.bytes)) = some (some (.agg #[.int .i64 0, encStr []]), 2, 24) := by kernel_rfl

set_option maxRecDepth 100000 in
theorem unpack14 {Q : Exit → Act → World → Prop} {a0 : Act} {W0 W : World} {n0 : Nat} {X : List Nat} {n4 n6 n8 n10 : Nat} {s : St} {sq ev kp mo : Int} {vi vd : Value} {idx : List (List UInt8)} {acc : List D2} (hsz0 : a0.tmps.size = 79)
    (hn0 : W0.heap.size = n0) (hT : Laid W0) (h04 : n0 ≤ n4) (h06 : n0 ≤ n6) (h48 : n4 < n8) (h68 : n6 < n8) (h810 : n8 < n10) (h4X : n4 ∈ X) (h6X : n6 ∈ X) (h8X : n8 ∈ X) (hacc : acc.length ≤ 200) (hvi : ∀ g, vi.ownBlock = some g → g < n10)
    (t7 : a0.tmps.getD 7 undef = .func (.func 37) #[] #[.pointer (some ⟨n4, 0, none⟩), .pointer (some ⟨n6, 0, none⟩)]) (t8 : a0.tmps.getD 8 undef = .pointer (some ⟨n8, 0, none⟩)) (t9 : a0.tmps.getD 9 undef = .int .i64 mo)
    (hb0 : Below n0 W0 W) (hB : Boxes (blkB vd ++ X) n4 n6 s W) (hM : MCell n8 sq ev kp vi vd W) (hO : W.ownsRow n10 54 2 vd acc.length (flatV acc)) (hI : W.ownsRow (n8 + 1) 9 1 vi idx.length (idx.map encStr)) (h10 : n10 ≤ W.heap.size)
    (hQ : ∀ a w8 v', Below n0 W0 w8 → Boxes (blkB v' ++ X) n4 n6 (numS s).2 w8 → MCell n8 sq ev kp vi v' w8 → w8.ownsRow n10 54 2 v' (acc ++ [D2.mk mo (nameL 100 (numS s).1)]).length (flatV (acc ++ [D2.mk mo (nameL 100 (numS s).1)])) → w8.ownsRow (n8 + 1) 9 1 vi idx.length (idx.map encStr) → n10 ≤ w8.heap.size →
      (∀ t, isDst (opsOf Tryz.f23 14) t = false → a.tmps.getD t undef = a0.tmps.getD t undef) → a.tmps.size = 79 → a.defers = a0.defers → Q .normal a w8) :
    (Code.region 14 (opsOf Tryz.f23 14) true).wp Tryz.prog Q a0 W := by
  obtain ⟨i0, hi, hz0, hz1, hz2⟩ := info_parts2 info_d2
  have hr := numS_range s
  have hlf : lineForm (opsOf Tryz.f23 14) [4, 5, 6, 7, 8, 10] = true := by kernel_rfl
  refine region_line (by kernel_rfl) [4, 5, 6, 7, 8, 10] (fun i => ([fun v => v = .pointer (some ⟨n8, 4, none⟩), fun v => v = vd, fun v => v = .int .i64 mo, fun v => v = .func (.func 37) #[] #[.pointer (some ⟨n4, 0, none⟩), .pointer (some ⟨n6, 0, none⟩)], fun v => v = .int .i64 (numS s).1, fun v => v = encStr (nameL 100 (numS s).1), fun v => v = .agg #[.int .i64 mo, encStr (nameL 100 (numS s).1)], fun _ => True, fun _ => True, fun v => v = .pointer (some ⟨n8, 4, none⟩)] : List (Value → Prop)).getD i fun _ => True)
    (DxG W0 n0 X n4 n6 n8 n10 s sq ev kp vi vd idx acc ⟨mo, nameL 100 (numS s).1⟩) (by rw [hsz0]; kernel_rfl) hlf ⟨hb0.drew, hB.below (Below.refl _ _).drew (Nat.le_refl _), hM.below (Below.refl _ _).drew hM.lt, owns_below hO (Below.refl _ _).drew, (fun h => by cases h), owns_below hI (Below.refl _ _).drew, h10⟩ (ops_all ?_) ?_
  · refine ⟨?_, ?_, ?_, ?_, ?_, ?_, ?_, ?_, ?_, ?_, ?_, trivial⟩
    · refine line_pure (by decide) fun ho n a w hG hn hbd hsz hd hold => ?_
      have x8 : a.tmps.getD 8 undef = _ := (hold 8 rfl).trans t8
      exact op_val ho (met_none rfl) (by go_simp) rfl (hG.put (by decide) (by decide))
    · refine line_pure (by decide) fun ho n a w hG hn hbd hsz hd hold => ?_
      have x49 : a.tmps.getD 49 undef = .pointer (some ⟨n8, 4, none⟩) := hd 0 rfl rfl
      have h3 : n ≤ 4 := hbd 4 (by decide) (by kernel_rfl)
      have hc : w.cell? ⟨n8, 4, none⟩ = some vd := by
        have := hG.2.2.1.c4
        rwa [if_pos (show n ≤ 5 by omega)] at this
      exact op_val ho (met_none rfl) (by go_simp) rfl (hG.put (by decide) (by decide))
    · refine line_pure (by decide) fun ho n a w hG hn hbd hsz hd hold => ?_
      exact op_val ho (met_none rfl) (run_move _ rfl ((hold 9 rfl).trans t9)) rfl (hG.put (by decide) (by decide))
    · refine line_pure (by decide) fun ho n a w hG hn hbd hsz hd hold => ?_
      exact op_val ho (met_none rfl) (run_move _ rfl ((hold 7 rfl).trans t7)) rfl (hG.put (by decide) (by decide))
    · refine line_key hlf 0 rfl fun ho a w hG hsz hd hold => ?_
      have x52 : a.tmps.getD 52 undef = _ := hd 3 rfl rfl
      obtain ⟨g1, g2, g3, g4, -, g6, g7⟩ := hG
      rw [if_pos (by decide), if_pos rfl] at g2
      rw [if_pos (by decide)] at g3 g4
      refine op_call ho (met_none rfl) (run_callc (x := .tmp 52) Tryz.func37 (by kernel_rfl) rfl rfl x52 (vs := #[.pointer (some ⟨n4, 0, none⟩), .pointer (some ⟨n6, 0, none⟩)]) (by simp)) ?_
      refine (num_any (blkB vd ++ X) n4 n6 s w g2).mono ?_
      rintro e w' ⟨rfl, q1, q2⟩
      have hs := q2.size
      refine ⟨_, rfl, rfl, g1.trans (q2.below h04 h06 (by have := g3.lt; omega)), ?_, ?_, ?_, (fun h => by cases h), q2.own (by omega) (by omega) g6, by omega⟩
      · rw [if_pos (by decide), if_neg (by decide)]; exact q1
      · rw [if_pos (by decide)]; exact g3.step q2 (by omega) (by omega)
      · rw [if_pos (by decide)]; exact q2.own (by omega) (by omega) g4
    · refine line_key hlf 1 rfl fun ho a w hG hsz hd hold => ?_
      have x53 : a.tmps.getD 53 undef = .int .i64 (numS s).1 := hd 4 rfl rfl
      obtain ⟨g1, g2, g3, g4, -, g6, g7⟩ := hG
      rw [if_pos (by decide), if_neg (by decide)] at g2
      rw [if_pos (by decide)] at g3 g4
      refine op_call (args := #[.int .u8 100, .int .i64 (numS s).1]) ho (met_none rfl) (run_callf Tryz.func19 (by kernel_rfl) rfl rfl (by simp only [List.map_toArray, List.map_cons, List.map_nil, Act.eval, x53])) ?_
      refine (Name_any 100 (numS s).1 w (hT.below g1 (by omega)) (by decide) (by omega)).mono ?_
      rintro e w' ⟨rfl, q⟩
      have hlt := g3.lt
      have hs := q.size
      refine ⟨_, rfl, rfl, g1.trans (q.mono (by omega)), ?_, ?_, ?_, (fun h => by cases h), owns_below g6 q, by omega⟩
      · rw [if_pos (by decide), if_neg (by decide)]; exact g2.below q (Nat.le_refl _)
      · rw [if_pos (by decide)]; exact g3.below q hlt
      · rw [if_pos (by decide)]; exact owns_below g4 q
    · refine line_key hlf 2 rfl fun ho a w hG hsz hd hold => ?_
      have x51 : a.tmps.getD 51 undef = .int .i64 mo := hd 2 rfl rfl
      have x54 : a.tmps.getD 54 undef = encStr (nameL 100 (numS s).1) := hd 5 rfl rfl
      clear hsz
      have x51' : (a.tmps[51]?).getD undef = .int .i64 mo := by simpa using x51
      have x54' : (a.tmps[54]?).getD undef = encStr (nameL 100 (numS s).1) := by simpa using x54
      refine op_val ho (met_none rfl) (v := .agg #[.int .i64 mo, encStr (nameL 100 (numS s).1)]) (w' := w) (by go_simp) rfl ?_
      have h2 : DxG W0 n0 X n4 n6 n8 n10 s sq ev kp vi vd idx acc ⟨mo, nameL 100 (numS s).1⟩ 2 (a.put (some 55) (.agg #[.int .i64 mo, encStr (nameL 100 (numS s).1)])) w := hG.put (by decide) (by decide)
      obtain ⟨g1, g2, g3, g4, -, g6, g7⟩ := h2
      exact ⟨g1, g2, g3, g4, (fun h => by cases h), g6, g7⟩
    · refine line_key hlf 3 rfl fun ho a w hG hsz hd hold => ?_
      have x55 : a.tmps.getD 55 undef = .agg #[.int .i64 mo, encStr (nameL 100 (numS s).1)] := hd 6 rfl rfl
      have HS := Lib.hid (hsz.trans hsz0)
      clear hsz
      have x55' : (a.tmps[55]?).getD undef = .agg #[.int .i64 mo, encStr (nameL 100 (numS s).1)] := by simpa using x55
      obtain ⟨g1, g2, g3, g4, -, g6, g7⟩ := hG
      rw [if_pos (by decide), if_neg (by decide)] at g2
      rw [if_pos (by decide)] at g3 g4
      have hlt := g3.lt
      have q : Below w.heap.size w (w.alloc (.cells #[.int .i64 mo, encStr (nameL 100 (numS s).1)] 54)) := (Below.refl _ _).alloc (Nat.le_refl _) _
      refine op_val (v := .slice (some ⟨w.heap.size, 0, none⟩) 1 1) (w' := w.alloc (.cells #[.int .i64 mo, encStr (nameL 100 (numS s).1)] 54)) ho (met_none rfl) (by go_simp) trivial ⟨g1.trans (q.mono (by omega)), ?_, ?_, ?_, (fun _ => ⟨w.heap.size, ?_, ?_⟩), owns_below g6 q, by simp; omega⟩
      · rw [if_pos (by decide), if_neg (by decide)]; exact g2.below q (Nat.le_refl _)
      · rw [if_pos (by decide)]; exact g3.below q hlt
      · rw [if_pos (by decide)]; exact owns_below g4 q
      · exact put_get_same (by rw [HS.out]; decide)
      · exact ⟨World.cell?_alloc_new _ _ _ _, World.cell?_alloc_new _ _ _ _⟩
    · refine line_key hlf 4 rfl fun ho a w hG hsz hd hold => ?_
      have x50 : a.tmps.getD 50 undef = vd := hd 1 rfl rfl
      obtain ⟨g1, g2, g3, g4, g5, g6, g7⟩ := hG
      obtain ⟨g, x56, hcg⟩ := g5 rfl
      rw [if_pos (by decide), if_neg (by decide)] at g2
      rw [if_pos (by decide)] at g3 g4
      have hlt := g3.lt
      refine op_wp ho (met_none rfl) (wp_append_where (.tmp 50) (.tmp 56) 23 rfl n10 54 i0 _ 2 24 Tryz.underlying23 hi hz0 hz1 hz2 rfl (by decide) vd acc.length (flatV acc) x50 g4 ⟨g, 0, none⟩ 1 1 (cellsV ⟨mo, nameL 100 (numS s).1⟩) (by decide) x56 rfl ?_ ?_ (by simp only [maxLen]; omega) (by omega) g7 ?_)
      · intro j u hu
        rw [add_off]
        unfold cellsV at hu
        rcases j with _ | _ | j
        · simp at hu; subst hu; exact hcg.1
        · simp at hu; subst hu; exact hcg.2
        · simp at hu
      · intro u hu
        unfold cellsV at hu
        simp only [List.mem_cons, List.not_mem_nil, or_false] at hu
        rcases hu with rfl | rfl <;> rfl
      · intro v' w' own' hg hwh
        have hb : Below n10 w w' := (Below.refl _ w).grown hg g7 (fun k hk => (g4.lt k hk).1)
        have hs := hg.size
        refine ⟨v', rfl, fun _ => trivial, g1.trans (hb.mono (by omega)), ?_, ?_, ?_, (fun h => by cases h), ?_, by omega⟩
        · rw [if_neg (by decide), if_neg (by decide), put_get_same (by rw [hsz, hsz0]; decide)]
          exact g2.grown hg hwh (fun k hk => (own'.lt k hk).2) h4X h6X (fun k hk => by have := (g4.lt k hk).1; omega)
        · rw [if_pos (by decide)]; exact g3.below hb (by omega)
        · rw [if_neg (by decide), put_get_same (by rw [hsz, hsz0]; decide)]
          have e1 : (acc ++ [(⟨mo, nameL 100 (numS s).1⟩ : D2)]).length = acc.length + 1 := by simp
          have e2 : flatV (acc ++ [(⟨mo, nameL 100 (numS s).1⟩ : D2)]) = flatV acc ++ cellsV ⟨mo, nameL 100 (numS s).1⟩ := by rw [flatV_append]; simp [flatV]
          rw [e1, e2]
          exact own'
        · refine g6.kept hg ?_
          cases hv : vi.ownBlock with
          | none => exact .inl rfl
          | some k =>
            refine .inr fun e => ?_
            have h1 := hvi k hv
            have h2 := (g4.lt k e.symm).1
            omega
    · refine line_pure (by decide) fun ho n a w hG hn hbd hsz hd hold => ?_
      have x8 : a.tmps.getD 8 undef = _ := (hold 8 rfl).trans t8
      exact op_val ho (met_none rfl) (by go_simp) rfl (hG.put (by decide) (by decide))
    · refine line_key hlf 5 rfl fun ho a w hG hsz hd hold => ?_
      have x58 : a.tmps.getD 58 undef = .pointer (some ⟨n8, 4, none⟩) := hd 9 rfl rfl
      obtain ⟨g1, g2, g3, g4, -, g6, g7⟩ := hG
      rw [if_neg (by decide), if_neg (by decide)] at g2
      rw [if_neg (by decide)] at g4
      rw [if_pos (by decide)] at g3
      obtain ⟨y, hy⟩ : ∃ y, a.tmps.getD 57 undef = y := ⟨_, rfl⟩
      rw [hy] at g2 g4
      obtain ⟨ay, cy, rfl⟩ := (ReadsV.of_owns g4).slice
      have hc := g3.c4
      have hz := g3.z 4
      refine op_skip (w' := w.setCell ⟨n8, 4, none⟩ (.slice ay (acc ++ [D2.mk mo (nameL 100 (numS s).1)]).length cy)) ho (met_none rfl) rfl (by go_simp) ⟨g1.setCell (p := ⟨n8, 4, none⟩) (by simp only; omega) _, ?_, ?_, ?_, (fun h => by cases h), ownsRow_setCell_below g6 (by simp only; omega) _, by simpa using g7⟩
      · rw [if_neg (by decide), if_neg (by decide), hy]; exact g2.setCell (p := ⟨n8, 4, none⟩) (List.mem_append_right _ h8X) (by simp only; omega) (by simp only; omega) _
      · rw [if_neg (by decide), hy]; exact g3.set4 _
      · rw [if_neg (by decide), hy]; exact ownsRow_setCell_below g4 (by simp only; omega) _
  · intro a w8 hG hS hold hsz hdf
    obtain ⟨g1, g2, g3, g4, -, g6, g7⟩ := hG
    rw [if_neg (by decide), if_neg (by decide)] at g2
    rw [if_neg (by decide)] at g3 g4
    exact hQ a w8 _ g1 g2 g3 g4 g6 g7 hold (hsz.trans hsz0) hdf
end Go.Proofs.YtcjbgchhalilnaaGreatDoor
