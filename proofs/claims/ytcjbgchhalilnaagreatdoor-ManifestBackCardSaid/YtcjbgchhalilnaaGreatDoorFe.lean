/- manifest.Unpack: the walk. -/
import Derived.Test.YtcjbgchhalilnaaGreatDoorFc
import Derived.Test.YtcjbgchhalilnaaGreatDoorFb
namespace Go.Proofs.YtcjbgchhalilnaaGreatDoor
open Go Go.RowKit Go.Lib
set_option linter.unusedVariables false

def UnpackEnd (l : List UInt8) (w : World) (e : Ending) (w' : World) : Prop :=
  ∃ vm, e = .returned (.tuple #[vm, .int .i64 (unpackF l).1]) ∧ ReadsM w' vm (unpackF l).2 ∧ Below w.heap.size w w'

/-- A manifest whose rows are of the call's own. -/
def OwnsM (B : Nat) (w : World) (v : Value) (m : Man) : Prop :=
  ∃ vi vd, v = .agg #[.int .i64 m.seq, .int .i64 m.every, .int .i64 m.keep, vi, vd] ∧ w.ownsRow B 9 1 vi m.index.length (m.index.map encStr) ∧ w.ownsRow B 54 2 vd m.data.length (flatV m.data)
theorem OwnsM.reads {B : Nat} {w : World} {v : Value} {m : Man} (h : OwnsM B w v m) : ReadsM w v m := by
  obtain ⟨vi, vd, e, h1, h2⟩ := h
  exact ⟨vi, vd, e, Reads.of_owns h1, ReadsV.of_owns h2⟩
def UnpackOwn (l : List UInt8) (w : World) (e : Ending) (w' : World) : Prop :=
  ∃ vm, e = .returned (.tuple #[vm, .int .i64 (unpackF l).1]) ∧ OwnsM w.heap.size w' vm (unpackF l).2 ∧ Below w.heap.size w w'

/-- A struct of five cells stored whole. -/
def store5 (w : World) (n : Nat) (sq ev kp : Int) (vi vd : Value) : World := ((((w.setCell ⟨n, 0, none⟩ (.int .i64 sq)).setCell ⟨n, 1, none⟩ (.int .i64 ev)).setCell ⟨n, 2, none⟩ (.int .i64 kp)).setCell ⟨n, 3, none⟩ vi).setCell ⟨n, 4, none⟩ vd
theorem store5_cell {w : World} {n : Nat} {a b c : Int} {d e : Value} (h : MCell n a b c d e w) (sq ev kp : Int) (vi vd : Value) : MCell n sq ev kp vi vd (store5 w n sq ev kp vi vd) := by
  obtain ⟨c0, c1, c2, c3, c4, z, lt⟩ := h
  unfold store5
  refine ⟨?_, ?_, ?_, ?_, ?_, ?_, ?_⟩
  · rw [set_off (by decide), set_off (by decide), set_off (by decide), set_off (by decide)]; exact World.cell?_setCell_same _ _ _ c0
  · rw [set_off (by decide), set_off (by decide), set_off (by decide)]; exact World.cell?_setCell_same _ _ _ ((set_off (by decide)).trans c1)
  · rw [set_off (by decide), set_off (by decide)]; exact World.cell?_setCell_same _ _ _ ((set_off (by decide)).trans ((set_off (by decide)).trans c2))
  · rw [set_off (by decide)]; exact World.cell?_setCell_same _ _ _ ((set_off (by decide)).trans ((set_off (by decide)).trans ((set_off (by decide)).trans c3)))
  · exact World.cell?_setCell_same _ _ _ ((set_off (by decide)).trans ((set_off (by decide)).trans ((set_off (by decide)).trans ((set_off (by decide)).trans c4))))
  · intro k; simp only [World.frozen?_setCell]; exact z k
  · simpa using lt
theorem store5_below {w : World} {n : Nat} (sq ev kp : Int) (vi vd : Value) : Below n w (store5 w n sq ev kp vi vd) :=
  (((((Below.refl n w).setCell (p := ⟨n, 0, none⟩) (Nat.le_refl _) _).setCell (p := ⟨n, 1, none⟩) (Nat.le_refl _) _).setCell (p := ⟨n, 2, none⟩) (Nat.le_refl _) _).setCell (p := ⟨n, 3, none⟩) (Nat.le_refl _) _).setCell (p := ⟨n, 4, none⟩) (Nat.le_refl _) _
theorem store5_own {w : World} {n base : Nat} (h : n < base) {e : TypeId} {size : Nat} {v : Value} {k : Nat} {xs : List Value} (ow : w.ownsRow base e size v k xs) (sq ev kp : Int) (vi vd : Value) : (store5 w n sq ev kp vi vd).ownsRow base e size v k xs :=
  ownsRow_setCell_below (ownsRow_setCell_below (ownsRow_setCell_below (ownsRow_setCell_below (ownsRow_setCell_below ow (by exact h) _) (by exact h) _) (by exact h) _) (by exact h) _) (by exact h) _
theorem ret23 {a : Act} {w : World} {R : Ending → World → Prop} {n0 : Nat} {sq ev kp er : Int} {vi vd : Value} (h2 : a.tmps.getD 2 undef = .pointer (some ⟨n0, 0, none⟩)) (h3 : a.tmps.getD 3 undef = .int .i64 er) (hd : a.defers = []) (hM : MCell n0 sq ev kp vi vd w)
    (hR : R (.returned (.tuple #[.agg #[.int .i64 sq, .int .i64 ev, .int .i64 kp, vi, vd], .int .i64 er])) w) : bodyPost Tryz.prog Tryz.f23 R .ret a w := by
  obtain ⟨c0, c1, c2, c3, c4, z, lt⟩ := hM
  have h2' : (a.tmps[2]?).getD undef = .pointer (some ⟨n0, 0, none⟩) := by simpa using h2
  have h3' : (a.tmps[3]?).getD undef = .int .i64 er := by simpa using h3
  refine bodyPost_ret (v := .tuple #[.agg #[.int .i64 sq, .int .i64 ev, .int .i64 kp, vi, vd], .int .i64 er]) ?_ hd hR
  simp [results, Tryz.results23, go_sem, h2', h3', c0, c1, c2, c3, c4]

set_option maxRecDepth 100000 in
set_option maxHeartbeats 4000000 in
theorem Unpack_err (v : Value) (l : List UInt8) (w : World) (hT : Laid w) (hlen : l.length ≤ 200000) (hr : Reads w b8 v l) (he : (onlyF l).1 ≠ 0) : Calls Tryz.prog 23 #[v] w (UnpackOwn l w) := by
  have hmf : ∀ (fn : Fn) (first cap : Array Value) (w : World), (Instr.makeFunc fn first cap).run Tryz.prog w = .ok (.func fn first cap) w := fun _ _ _ _ => rfl
  obtain ⟨n0, hn0⟩ : ∃ n0, w.heap.size = n0 := ⟨_, rfl⟩
  obtain ⟨W, hW⟩ : ∃ W, w.alloc (.cells #[.int .i64 0, .int .i64 0, .int .i64 0, .slice none 0 0, .slice none 0 0] 25) = W := ⟨_, rfl⟩
  have hA : Below n0 w W := by rw [← hW]; exact (Below.refl _ _).alloc (by omega) _
  have hWs : W.heap.size = n0 + 1 := by rw [← hW]; simp [hn0]
  have K : ∀ k : Nat, W.cell? ⟨n0, k, none⟩ = (#[.int .i64 0, .int .i64 0, .int .i64 0, .slice none 0 0, .slice none 0 0] : Array Value)[k]? := by
    intro k
    rw [← hW, ← hn0]
    exact World.cell?_alloc_new _ _ _ _
  have Z : ∀ k : Nat, W.frozen? ⟨n0, k, none⟩ = false := by
    intro k
    rw [← hW, ← hn0]
    exact World.frozen?_alloc_new _ _ _ _
  have hO := Only_any v l W (hT.below hA (by omega)).1 hlen (hr.below hA (by omega))
  have HU : Hid (unpackF l = ((onlyF l).1, zeroM)) := by rw [Hid, unpackF, if_pos he]
  unfold OnlyEnd at hO
  generalize (onlyF l).1 = er at he hO HU
  obtain ⟨av, cv, rfl⟩ := hr.slice
  go_enter Tryz.func23, Tryz.ntmps23
  go_wp2_with fail
  refine hO.mono ?_
  rintro e w2 ⟨vb, rfl, hrb, hb⟩
  obtain ⟨ab, cb, rfl⟩ := hrb.slice
  have hb' : Below (n0 + 1) W w2 := hb.mono (by omega)
  have hsz := hb'.size
  have hb3 : Below (n0 + 1) W (w2.alloc (.cells #[.slice ab (onlyF l).2.length cb] 43)) := hb'.alloc (by omega) _
  have q : ∀ k, (w2.alloc (.cells #[.slice ab (onlyF l).2.length cb] 43)).cell? ⟨n0, k, none⟩ = W.cell? ⟨n0, k, none⟩ := fun k => hb3.cell (p := ⟨n0, k, none⟩) (by show n0 < n0 + 1; omega)
  have z : ∀ k, (w2.alloc (.cells #[.slice ab (onlyF l).2.length cb] 43)).frozen? ⟨n0, k, none⟩ = W.frozen? ⟨n0, k, none⟩ := fun k => hb3.frozen (p := ⟨n0, k, none⟩) (by show n0 < n0 + 1; omega)
  have q0 := (q 0).trans (K 0)
  have q1 := (q 1).trans (K 1)
  have q2 := (q 2).trans (K 2)
  have q3 := (q 3).trans (K 3)
  have q4 := (q 4).trans (K 4)
  have z0 := (z 0).trans (Z 0)
  have z1 := (z 1).trans (Z 1)
  have z2 := (z 2).trans (Z 2)
  have z3 := (z 3).trans (Z 3)
  have z4 := (z 4).trans (Z 4)
  clear q K hW hO
  simp only [List.getElem?_toArray, List.getElem?_cons_zero, List.getElem?_cons_succ] at q0 q1 q2 q3 q4
  have hM3 : MCell n0 0 0 0 (.slice none 0 0) (.slice none 0 0) (w2.alloc (.cells #[.slice ab (onlyF l).2.length cb] 43)) := ⟨q0, q1, q2, q3, q4, fun k => (z k).trans (Z k), by simp; omega⟩
  have HM := Lib.hid (store5_cell hM3 0 0 0 (.slice none 0 0) (.slice none 0 0))
  clear hM3 z Z
  go_wp2_with fail
  refine ret23 rfl rfl rfl HM.out ⟨_, by rw [HU.out], ?_, ?_⟩
  · rw [HU.out]
    exact ⟨_, _, rfl, World.ownsRow_nil _ _ _ _, World.ownsRow_nil _ _ _ _⟩
  · rw [hn0]
    exact (hA.trans (hb3.mono (by omega))).trans (store5_below 0 0 0 (.slice none 0 0) (.slice none 0 0))
theorem only_len (l : List UInt8) : (onlyF l).2.length ≤ l.length := by
  unfold onlyF
  by_cases h1 : (nextF l).1 ≠ 0
  · rw [if_pos h1]; simp
  · rw [if_neg h1]
    by_cases h2 : (nextF l).2.2.2 ≠ [] ∨ (nextF l).2.1 ≠ 5
    · rw [if_pos h2]; simp
    · rw [if_neg h2]
      show (nextF l).2.2.1.length ≤ _
      cases l with
      | nil => exact Nat.le_refl _
      | cons c r =>
        rcases take_spec r with hs | hs | ⟨u, k, hs, hu, hk1, hk2, hk3⟩
        · rw [nextF_err (c := c) (by rw [hs]; decide)]; simp
        · rw [nextF_err (c := c) (by rw [hs]; decide)]; simp
        · by_cases hbig : 65535 < u
          · rw [nextF_big (c := c) hs hbig]; simp
          · by_cases hlong : (takeRest r).length < u + 4
            · rw [nextF_short (c := c) hs (by omega) hlong]; simp
            · have htr := takeRest_le r
              by_cases hsum : sealL ((c :: r).take ((c :: r).length - ((takeRest r).drop (u + 4)).length - 4)) = (c :: r).take ((c :: r).length - ((takeRest r).drop (u + 4)).length)
              · rw [nextF_ok (c := c) hs (by omega) (by omega) rfl hsum]
                simp only [List.length_take, List.length_cons]
                omega
              · rw [nextF_sum (c := c) hs (by omega) (by omega) rfl hsum]; simp

theorem unpackF_at {l bd : List UInt8} {m : Man} {s : St} (he : (onlyF l).1 = 0) (hb : (onlyF l).2 = bd) (hm : manS bd = m) (hs : endS bd = s) :
    (s.1 = true ∧ CheckP m ∧ packL m = l → unpackF l = (0, m)) ∧ (¬ (s.1 = true ∧ CheckP m ∧ packL m = l) → unpackF l = (180, zeroM)) := by
  subst hb hm hs
  unfold unpackF
  rw [if_neg (fun e => e he)]
  exact ⟨fun h => if_pos h, fun h => if_neg h⟩
theorem num_at {X : List Nat} {n4 n6 : Nat} {s s' : St} {x : Int} {w : World} (h : Boxes X n4 n6 s w) (hq : Hid (numS s = (x, s'))) :
    Calls Tryz.prog 37 #[.pointer (some ⟨n4, 0, none⟩), .pointer (some ⟨n6, 0, none⟩)] w fun e w' => e = .returned (.int .i64 x) ∧ Boxes X n4 n6 s' w' ∧ Step2 n4 n6 w w' := by
  have hc := num_any X n4 n6 s w h
  unfold NumEnd at hc
  rw [hq.out] at hc
  exact hc
theorem num_ex (s : St) : ∃ x s', Hid (numS s = (x, s')) ∧ 0 ≤ x ∧ x ≤ 4611686018427387904 := ⟨(numS s).1, (numS s).2, rfl, (numS_range s).1, (numS_range s).2⟩

def UnIx (W0 : World) (n0 : Nat) (X : List Nat) (n4 n6 n8 : Nat) (sq ev kp : Int) (c : Nat) (s0 : St) (i : Value) (wr : World) : Prop :=
  ∃ j vi acc s, j ≤ c ∧ i = .int .i64 (j : Int) ∧ acc.length = j ∧ (idxS c s0 = (acc ++ (idxS (c - j) s).1, (idxS (c - j) s).2)) ∧ Below n0 W0 wr ∧ Boxes (blkB vi ++ X) n4 n6 s wr ∧ MCell n8 sq ev kp vi (.slice none 0 0) wr ∧ wr.ownsRow (n8 + 1) 9 1 vi acc.length (acc.map encStr)
def UnDa (W0 : World) (n0 : Nat) (X : List Nat) (n4 n6 n8 n10 : Nat) (sq ev kp : Int) (vi : Value) (idx : List (List UInt8)) (c : Nat) (s0 : St) (i : Value) (wr : World) : Prop :=
  ∃ j vd acc s, j ≤ c ∧ i = .int .i64 (j : Int) ∧ acc.length = j ∧ (datS c s0 = (acc ++ (datS (c - j) s).1, (datS (c - j) s).2)) ∧ Below n0 W0 wr ∧ Boxes (blkB vd ++ X) n4 n6 s wr ∧ MCell n8 sq ev kp vi vd wr ∧ wr.ownsRow n10 54 2 vd acc.length (flatV acc) ∧ wr.ownsRow (n8 + 1) 9 1 vi idx.length (idx.map encStr) ∧ n10 ≤ wr.heap.size

set_option maxRecDepth 100000 in
set_option maxHeartbeats 8000000 in
theorem Unpack_body (v : Value) (l : List UInt8) (w : World) (hT : Laid w) (hlen : l.length ≤ 200000) (hr : Reads w b8 v l) (he : (onlyF l).1 = 0) : Calls Tryz.prog 23 #[v] w (UnpackOwn l w) := by
  have hmf : ∀ (fn : Fn) (first cap : Array Value) (w : World), (Instr.makeFunc fn first cap).run Tryz.prog w = .ok (.func fn first cap) w := fun _ _ _ _ => rfl
  obtain ⟨n0, hn0⟩ : ∃ n0, w.heap.size = n0 := ⟨_, rfl⟩
  obtain ⟨W, hW⟩ : ∃ W, w.alloc (.cells #[.int .i64 0, .int .i64 0, .int .i64 0, .slice none 0 0, .slice none 0 0] 25) = W := ⟨_, rfl⟩
  have hA : Below n0 w W := by rw [← hW]; exact (Below.refl _ _).alloc (by omega) _
  have hWs : W.heap.size = n0 + 1 := by rw [← hW]; simp [hn0]
  have hM0 : MCell n0 0 0 0 (.slice none 0 0) (.slice none 0 0) W := by
    rw [← hW, ← hn0]
    exact ⟨World.cell?_alloc_new _ _ _ _, World.cell?_alloc_new _ _ _ _, World.cell?_alloc_new _ _ _ _, World.cell?_alloc_new _ _ _ _, World.cell?_alloc_new _ _ _ _, (fun k => World.frozen?_alloc_new _ _ _ _), by simp⟩
  have hO := Only_any v l W (hT.below hA (by omega)).1 hlen (hr.below hA (by omega))
  have hol := only_len l
  unfold OnlyEnd at hO
  rw [he] at hO
  have HE := Lib.hid he
  have HBody : Hid ((onlyF l).2 = (onlyF l).2) := rfl
  generalize hbd : (onlyF l).2 = bd at hO hol
  have HBd := Lib.hid hbd
  clear hbd he
  obtain ⟨av, cv, rfl⟩ := hr.slice
  go_enter Tryz.func23, Tryz.ntmps23
  go_wp2_with fail
  refine hO.mono ?_
  rintro e w2 ⟨vb, rfl, hrb, hb⟩
  obtain ⟨ab, cb, rfl⟩ := hrb.slice
  have hb' : Below (n0 + 1) W w2 := hb.mono (by omega)
  have hsz := hb'.size
  clear hO hW
  obtain ⟨n4, hn4⟩ : ∃ n, w2.heap.size = n := ⟨_, rfl⟩
  obtain ⟨W6, hW6⟩ : ∃ W6, (w2.alloc (.cells #[.slice ab bd.length cb] 43)).alloc (.cells #[.bool true] 4) = W6 := ⟨_, rfl⟩
  have hb6 : Below n4 w2 W6 := by rw [← hW6]; exact ((Below.refl _ _).alloc (by omega) _).alloc (by simp; omega) _
  have hs6 : W6.heap.size = n4 + 2 := by rw [← hW6]; simp; omega
  have hB0 : Boxes [n4, n4 + 1] n4 (n4 + 1) (true, bd) W6 := by
    refine ⟨⟨.slice ab bd.length cb, ?_, hrb.below hb6 (by omega), ?_⟩, ?_, ?_, ?_, by simp, by simp, by omega, ?_, by simp only; omega⟩
    · rw [← hW6, ← hn4]; simp [go_sem]
    · intro b o n c hv
      rcases hrb with ⟨h, _⟩ | ⟨b', off, cap, hv', _, _, h3, _⟩
      · exact .inr h
      · rw [hv] at hv'
        simp only [Value.slice.injEq, Option.some.injEq, Addr.mk.injEq] at hv'
        refine .inl fun k => ?_
        simp only [List.mem_cons, List.not_mem_nil, or_false] at k
        omega
    · rw [← hW6, ← hn4]; simp [go_sem]
    · rw [← hW6, ← hn4]; simp [go_sem]
    · rw [← hW6, ← hn4]; simp [go_sem]
    · intro x hx
      simp only [List.mem_cons, List.not_mem_nil, or_false] at hx
      omega
  have hbn6 : Below (n0 + 1) W W6 := hb'.trans (hb6.mono (by omega))
  obtain ⟨sq, s1, HS1, _, _⟩ := num_ex (true, bd)
  obtain ⟨ev, s2, HS2, _, _⟩ := num_ex s1
  obtain ⟨kp, s3, HS3, _, _⟩ := num_ex s2
  obtain ⟨x4, s4, HS4, hx40, hx41⟩ := num_ex s3
  have hc1 := num_at hB0 HS1
  go_wp2_with fail
  refine hc1.mono ?_
  rintro e w3 ⟨rfl, hB1, hS1⟩
  have hbn7 : Below (n0 + 1) W w3 := hbn6.trans (hS1.below (by omega) (by omega) (by omega))
  have hc2 := num_at hB1 HS2
  have hsz3 := hS1.size
  clear hB0 hc1 hS1 hbn6
  go_wp2_with fail
  refine hc2.mono ?_
  rintro e w4 ⟨rfl, hB2, hS2⟩
  have hbn8 : Below (n0 + 1) W w4 := hbn7.trans (hS2.below (by omega) (by omega) (by omega))
  have hc3 := num_at hB2 HS3
  have hsz4 := hS2.size
  clear hB1 hc2 hS2 hbn7
  go_wp2_with fail
  refine hc3.mono ?_
  rintro e w5 ⟨rfl, hB3, hS3⟩
  have hbn9 : Below (n0 + 1) W w5 := hbn8.trans (hS3.below (by omega) (by omega) (by omega))
  have hsz5 := hS3.size
  obtain ⟨W8, hW8⟩ : ∃ W8, w5.alloc (.cells #[.int .i64 sq, .int .i64 ev, .int .i64 kp, .slice none 0 0, .slice none 0 0] 25) = W8 := ⟨_, rfl⟩
  have hb8 : Below w5.heap.size w5 W8 := by rw [← hW8]; exact (Below.refl _ _).alloc (by omega) _
  have hs8 : W8.heap.size = w5.heap.size + 1 := by rw [← hW8]; simp
  have hM8 : MCell w5.heap.size sq ev kp (.slice none 0 0) (.slice none 0 0) W8 := by
    rw [← hW8]
    exact ⟨World.cell?_alloc_new _ _ _ _, World.cell?_alloc_new _ _ _ _, World.cell?_alloc_new _ _ _ _, World.cell?_alloc_new _ _ _ _, World.cell?_alloc_new _ _ _ _, (fun k => World.frozen?_alloc_new _ _ _ _), by simp⟩
  have hB8 : Boxes [w5.heap.size, n4, n4 + 1] n4 (n4 + 1) s3 W8 := hB3.more hb8 rfl (by omega)
  have hbn10 : Below (n0 + 1) W W8 := hbn9.trans (hb8.mono (by omega))
  have hc4 := num_at hB8 HS4
  have hn48 : n4 + 1 < w5.heap.size := by omega
  have HW8 := Lib.hid hW8
  clear hB2 hc3 hS3 hbn8 hB3 hbn9 hW6 hb6 hs6 hW8
  go_wp2_with fail
  rw [HW8.out]
  refine hc4.mono ?_
  rintro e w6 ⟨rfl, hB4, hS4⟩
  have hbn11 : Below (n0 + 1) W w6 := hbn10.trans (hS4.below (by omega) (by omega) (by omega))
  have hM4 := hM8.step hS4 (by omega) (by omega)
  have hsz6 := hS4.size
  clear hc4 hS4 hB8 hM8 hbn10 hb8 hsz3 hsz4 hsz5
  obtain ⟨n8, hn8⟩ : ∃ n, w5.heap.size = n := ⟨_, rfl⟩
  rw [hn8] at hB4 hM4 hn48 hs8
  obtain ⟨c1, hc1⟩ : ∃ c : Nat, (min x4 101 : Int) = (c : Int) := ⟨(min x4 101).toNat, by omega⟩
  have HC1 : Hid (cnt x4 = c1) := by rw [Hid, cnt, hc1]; rfl
  have hc1l : (c1 : Int) ≤ 101 := by omega
  have hTW : Laid W := hT.below hA (by omega)
  have h04 : n0 + 1 ≤ n4 := by omega
  clear hn4
  go_wp2_with fail
  go_loopw [31] (fun i wr => UnIx W (n0 + 1) [n8, n4, n4 + 1] n4 (n4 + 1) n8 sq ev kp c1 s4 i wr) (fun i _ => c1 - (intOf i).toNat)
  case atStart => exact ⟨0, .slice none 0 0, [], s4, Nat.zero_le _, rfl, rfl, rfl, hbn11, hB4, hM4, World.ownsRow_nil _ _ _ _⟩
  case round =>
    obtain ⟨j, vi, acc, s, hj, rfl, hacc, hidx, hbw, hB, hM, hO⟩ := hrel
    obtain ⟨sI, rfl⟩ : ∃ sI, sI = s := ⟨_, rfl⟩
    clear hB4 hM4 hbn11 hsz6 hs8 hrb
    by_cases hlt : j < c1
    · have hidx' : Hid (idxS c1 s4 = ((acc ++ [nameL 105 (numS sI).1]) ++ (idxS (c1 - (j + 1)) (numS sI).2).1, (idxS (c1 - (j + 1)) (numS sI).2).2)) := by
        rw [Hid, hidx, show c1 - j = (c1 - (j + 1)) + 1 by omega]
        simp [idxS]
      have hal : Hid ((acc ++ [nameL 105 (numS sI).1]).length = j + 1) := by rw [Hid]; simp [hacc]
      have hacc2 : acc.length ≤ 200 := by omega
      clear hidx hacc
      go_wp2_with fail
      refine unpack9 (W0 := W) (n0 := n0 + 1) (X := [n8, n4, n4 + 1]) (n4 := n4) (n6 := n4 + 1) (n8 := n8) (s := sI) (sq := sq) (ev := ev) (kp := kp) (vi := vi) (vd := .slice none 0 0) (acc := acc) rfl hWs hTW (by omega) (by omega) (by omega) (by omega) (by simp) (by simp) (by simp) hacc2 rfl rfl hbw hB hM hO ?_
      intro a w8 v' hb8 hB8 hM8 hO8 hold hsz hdf
      obtain ⟨gg, hgg⟩ : ∃ gg : Nat → Value, ∀ t, a.tmps.getD t undef = gg t := ⟨_, fun _ => rfl⟩
      have hfr := frame_eq 33 41 gg hsz hdf (by decide) (of_decide_eq_true (by kernel_rfl)) (fun t ht => hold t (dst_out (lo := 33) (hi := 41) (by kernel_rfl) ht)) (fun t _ _ => hgg t)
      clear hgg hold hsz hdf
      subst hfr
      simp only [List.take_succ_cons, List.take_zero, List.drop_succ_cons, List.drop_zero, List.range', List.map_cons, List.map_nil, List.cons_append, List.nil_append, Nat.reduceAdd, Nat.reduceSub]
      go_wp2_with fail
      go_roundw
      case rel => exact ⟨j + 1, v', _, _, hlt, by go_num, hal.out, hidx'.out, hb8, hB8, hM8, hO8⟩
      case measure => simp [intOf]; omega
    · have hjl : j = c1 := by omega
      subst hjl
      have HI : Hid (idxS j s4 = (acc, sI)) := by
        rw [Hid, hidx, Nat.sub_self]
        simp [idxS]
      clear hidx hacc
      obtain ⟨x6, s6, HS6, hx60, hx61⟩ := num_ex sI
      have hc5 := num_at hB HS6
      go_wp2_with fail
      refine hc5.mono ?_
      rintro e w7 ⟨rfl, hB7, hS7⟩
      have hs7 := hS7.size
      have hlt7 := hM.lt
      have hb7 : Below (n0 + 1) W w7 := hbw.trans (hS7.below (by omega) (by omega) (by omega))
      have hM7 := hM.step hS7 (by omega) (by omega)
      have hO7 := hS7.own (by omega) (by omega) hO
      obtain ⟨c2, hc2⟩ : ∃ c : Nat, (min x6 101 : Int) = (c : Int) := ⟨(min x6 101).toNat, by omega⟩
      have HC2 : Hid (cnt x6 = c2) := by rw [Hid, cnt, hc2]; rfl
      have hc2l : (c2 : Int) ≤ 101 := by omega
      obtain ⟨n10, hn10⟩ : ∃ n, w7.heap.size = n := ⟨_, rfl⟩
      have hvi : ∀ g, vi.ownBlock = some g → g < n10 := fun g hg => by have := (hO7.lt g hg).2; omega
      have h810 : n8 < n10 := by omega
      have h10 : n10 ≤ w7.heap.size := by omega
      clear hB hM hO hS7 hc5 hbw hs7 hn10
      go_wp2_with fail
      go_loopw [9, 45] (fun _ i wr => UnDa W (n0 + 1) (blkB vi ++ [n8, n4, n4 + 1]) n4 (n4 + 1) n8 n10 sq ev kp vi acc c2 s6 i wr) (fun _ i _ => c2 - (intOf i).toNat)
      case atStart => exact ⟨0, .slice none 0 0, [], s6, Nat.zero_le _, rfl, rfl, rfl, hb7, hB7, hM7, World.ownsRow_nil _ _ _ _, hO7, h10⟩
      case round =>
        clear hb7 hB7 hM7 hO7 h10
        obtain ⟨j2, vd, dat, s, hj2, rfl, hdat, hidx, hbw, hB, hM, hO, hI, h10⟩ := hrel
        by_cases hlt2 : j2 < c2
        · obtain ⟨mo, sa, HSa, _, _⟩ := num_ex s
          have hc6 := num_at hB HSa
          have hidx' : Hid (datS c2 s6 = ((dat ++ [D2.mk mo (nameL 100 (numS sa).1)]) ++ (datS (c2 - (j2 + 1)) (numS sa).2).1, (datS (c2 - (j2 + 1)) (numS sa).2).2)) := by
            rw [Hid, hidx, show c2 - j2 = (c2 - (j2 + 1)) + 1 by omega]
            simp [datS, HSa.out]
          have hal : Hid ((dat ++ [D2.mk mo (nameL 100 (numS sa).1)]).length = j2 + 1) := by rw [Hid]; simp [hdat]
          have hacc2 : dat.length ≤ 200 := by omega
          clear hidx hdat
          go_wp2_with fail
          refine hc6.mono ?_
          rintro e wa ⟨rfl, hBa, hSa⟩
          have hltM := hM.lt
          have hsa := hSa.size
          have hba : Below (n0 + 1) W wa := hbw.trans (hSa.below (by omega) (by omega) (by omega))
          have hMa := hM.step hSa (by omega) (by omega)
          have hOa := hSa.own (by omega) (by omega) hO
          have hIa := hSa.own (by omega) (by omega) hI
          clear hB hM hO hI hc6 hbw hSa
          go_wp2_with fail
          refine unpack14 (W0 := W) (n0 := n0 + 1) (X := blkB vi ++ [n8, n4, n4 + 1]) (n4 := n4) (n6 := n4 + 1) (n8 := n8) (n10 := n10) (s := sa) (sq := sq) (ev := ev) (kp := kp) (mo := mo) (vi := vi) (vd := vd) (idx := acc) (acc := dat) rfl hWs hTW (by omega) (by omega) (by omega) (by omega) h810 (by simp) (by simp) (by simp) hacc2 hvi rfl rfl rfl hba hBa hMa hOa hIa (by omega) ?_
          intro a w8 v' hb8 hB8 hM8 hO8 hI8 h108 hold hsz hdf
          obtain ⟨gg, hgg⟩ : ∃ gg : Nat → Value, ∀ t, a.tmps.getD t undef = gg t := ⟨_, fun _ => rfl⟩
          have hfr := frame_eq 49 59 gg hsz hdf (by decide) (of_decide_eq_true (by kernel_rfl)) (fun t ht => hold t (dst_out (lo := 49) (hi := 59) (by kernel_rfl) ht)) (fun t _ _ => hgg t)
          clear hgg hold hsz hdf
          subst hfr
          simp only [List.take_succ_cons, List.take_zero, List.drop_succ_cons, List.drop_zero, List.range', List.map_cons, List.map_nil, List.cons_append, List.nil_append, Nat.reduceAdd, Nat.reduceSub]
          go_wp2_with fail
          go_roundw
          case rel => exact ⟨j2 + 1, v', _, _, hlt2, by go_num, hal.out, hidx'.out, hb8, hB8, hM8, hO8, hI8, h108⟩
          case measure => simp [intOf]; omega
        · have hjl : j2 = c2 := by omega
          subst hjl
          have HD : Hid (datS j2 s6 = (dat, s)) := by
            rw [Hid, hidx, Nat.sub_self]
            simp [datS]
          clear hidx hdat
          have hltr := hM.lt
          obtain ⟨k0, k1, k2, k3, k4, -, -⟩ := hM
          obtain ⟨ai, ci, rfl⟩ := (Reads.of_owns hI).slice
          obtain ⟨ad, cd, rfl⟩ := (ReadsV.of_owns hO).slice
          have hrm : ReadsM wr (.agg #[.int .i64 sq, .int .i64 ev, .int .i64 kp, .slice ai acc.length ci, .slice ad dat.length cd]) ⟨sq, ev, kp, acc, dat⟩ := ⟨_, _, rfl, Reads.of_owns hI, ReadsV.of_owns hO⟩
          have hP := Pack_any _ ⟨sq, ev, kp, acc, dat⟩ wr (hTW.below hbw (by omega)) hrm
          have HMan : Hid (manS bd = ⟨sq, ev, kp, acc, dat⟩ ∧ endS bd = s) := by
            have e1 : st1 bd = s1 := congrArg Prod.snd HS1.out
            have e2 : st2 bd = s2 := by rw [st2, e1]; exact congrArg Prod.snd HS2.out
            have e3 : st3 bd = s3 := by rw [st3, e2]; exact congrArg Prod.snd HS3.out
            have e4 : st4 bd = s4 := by rw [st4, e3]; exact congrArg Prod.snd HS4.out
            have f4 : (numS (st3 bd)).1 = x4 := by rw [e3]; exact congrArg Prod.fst HS4.out
            have g5 : idxS (cnt (numS (st3 bd)).1) (st4 bd) = (acc, sI) := by rw [f4, HC1.out, e4]; exact HI.out
            have e5 : st5 bd = sI := congrArg Prod.snd g5
            have e6 : st6 bd = s6 := by rw [st6, e5]; exact congrArg Prod.snd HS6.out
            have f6 : (numS (st5 bd)).1 = x6 := by rw [e5]; exact congrArg Prod.fst HS6.out
            have g7 : datS (cnt (numS (st5 bd)).1) (st6 bd) = (dat, s) := by rw [f6, HC2.out, e6]; exact HD.out
            refine ⟨?_, congrArg Prod.snd g7⟩
            unfold manS
            rw [e1, e2, g5, g7, show (numS (true, bd)).1 = sq from congrArg Prod.fst HS1.out, show (numS s1).1 = ev from congrArg Prod.fst HS2.out, show (numS s2).1 = kp from congrArg Prod.fst HS3.out]
          have HU := Lib.hid (unpackF_at HE.out HBd.out HMan.out.1 HMan.out.2)
          have hok := hB.ok
          have hlt6 := hB.size (n4 + 1) hB.in6
          have hrl : Reads wr b8 (.slice av l.length cv) l := hr.below (hA.trans (hbw.mono (by omega))) (by omega)
          have hM0r := hM0.below hbw (by omega)
          have hsr := hbw.size
          generalize hmm : (⟨sq, ev, kp, acc, dat⟩ : Man) = mm at hrm hP HU
          have HMM := Lib.hid hmm
          have e1 : mm.seq = sq := by rw [← hmm]
          have HI2 := Lib.hid hI
          have HO2 := Lib.hid hO
          clear hB hI hO hmm e1 hM0 HMan hr hb hb' HS1 HS2 HS3 HS4 HS6 HC1 HC2 HI HD hc1 hc2
          go_wp2_with fail
          refine hP.mono ?_
          rintro e wp ⟨vb, rfl, hown, hnil, hbp⟩
          have hM0p := hM0r.below hbp (by omega)
          have hokp : wp.cell? ⟨n4 + 1, 0, none⟩ = some (.bool s.1) := (hbp.cell (p := ⟨n4 + 1, 0, none⟩) (by show n4 + 1 < _; omega)).trans hok
          have hbwp : Below (n0 + 1) W wp := hbw.trans (hbp.mono (by omega))
          have HZ := Lib.hid (store5_cell hM0p 0 0 0 (.slice none 0 0) (.slice none 0 0))
          have HY := Lib.hid (store5_cell hM0p sq ev kp (.slice ai acc.length ci) (.slice ad dat.length cd))
          have k0p := (hbp.cell (p := ⟨n8, 0, none⟩) hltr).trans k0
          have k1p := (hbp.cell (p := ⟨n8, 1, none⟩) hltr).trans k1
          have k2p := (hbp.cell (p := ⟨n8, 2, none⟩) hltr).trans k2
          have k3p := (hbp.cell (p := ⟨n8, 3, none⟩) hltr).trans k3
          have k4p := (hbp.cell (p := ⟨n8, 4, none⟩) hltr).trans k4
          have hrmp := hrm.below hbp (Nat.le_refl _)
          have hrlp := hrl.below hbp (Nat.le_refl _)
          obtain ⟨z0, z1, z2, z3, z4, y, hltp⟩ := hM0p
          have y0 := y 0
          have y1 := y 1
          have y2 := y 2
          have y3 := y 3
          have y4 := y 4
          clear y
          have HF := Lib.hid ((hA.trans (hbwp.mono (by omega))).trans (store5_below (n := n0) 0 0 0 (.slice none 0 0) (.slice none 0 0)))
          by_cases hcp : CheckP mm
          · rw [checkN_ok hcp]
            have hrb := Reads.of_owns (hown hcp)
            have hEq := Tryz.bytes_Equal_strs vb (.slice av l.length cv) ⟨(packL mm).toArray⟩ ⟨l.toArray⟩ wp (run_string_of hrb 43 9 5 Tryz.underlying43 Tryz.underlying5 Tryz.underlying9) (run_string_of hrlp 43 9 5 Tryz.underlying43 Tryz.underlying5 Tryz.underlying9)
            rw [ByteArray.toList_eq, ByteArray.toList_eq] at hEq
            by_cases hs : s.1 = true
            · rw [hs] at hokp
              by_cases hpl : packL mm = l
              · have HUn : Hid (unpackF l = (0, mm)) := HU.out.1 ⟨hs, hcp, hpl⟩
                have hbeq : (packL mm == l) = true := by simp [hpl]
                simp only [hbeq] at hEq
                have HMMp : ReadsM wp (.agg #[.int .i64 sq, .int .i64 ev, .int .i64 kp, .slice ai acc.length ci, .slice ad dat.length cd]) mm := hrmp
                have HW5 : Below n0 wp (store5 wp n0 sq ev kp (.slice ai acc.length ci) (.slice ad dat.length cd)) := store5_below _ _ _ _ _
                go_wp2_with fail
                refine hEq.mono ?_
                rintro e wq ⟨rfl, rfl⟩
                go_wp2_with fail
                refine ret23 rfl rfl rfl HY.out ⟨_, by rw [HUn.out], ?_, ?_⟩
                · rw [HUn.out, ← HMM.out]
                  exact ⟨_, _, rfl, (store5_own (by omega) (owns_below HI2.out hbp) _ _ _ _ _).mono (by omega), (store5_own (by omega) (owns_below HO2.out hbp) _ _ _ _ _).mono (by omega)⟩
                · rw [hn0]
                  exact (hA.trans (hbwp.mono (by omega))).trans HW5
              · have HUn : Hid (unpackF l = (180, zeroM)) := HU.out.2 fun h => hpl h.2.2
                have hbeq : (packL mm == l) = false := by simp [hpl]
                simp only [hbeq] at hEq
                go_wp2_with fail
                refine hEq.mono ?_
                rintro e wq ⟨rfl, rfl⟩
                go_wp2_with fail
                refine ret23 rfl rfl rfl HZ.out ⟨_, by rw [HUn.out], ?_, ?_⟩
                · rw [HUn.out]
                  exact ⟨_, _, rfl, World.ownsRow_nil _ _ _ _, World.ownsRow_nil _ _ _ _⟩
                · rw [hn0]
                  exact HF.out
            · have HUn : Hid (unpackF l = (180, zeroM)) := HU.out.2 fun h => hs h.1
              rw [show s.1 = false by simpa using hs] at hokp
              go_wp2_with fail
              refine ret23 rfl rfl rfl HZ.out ⟨_, by rw [HUn.out], ?_, ?_⟩
              · rw [HUn.out]
                exact ⟨_, _, rfl, World.ownsRow_nil _ _ _ _, World.ownsRow_nil _ _ _ _⟩
              · rw [hn0]
                exact HF.out
          · rw [checkN_no hcp]
            have hvb := hnil hcp
            subst hvb
            have HUn : Hid (unpackF l = (180, zeroM)) := HU.out.2 fun h => hcp h.2.1
            by_cases hs : s.1 = true
            · rw [hs] at hokp
              go_wp2_with fail
              refine ret23 rfl rfl rfl HZ.out ⟨_, by rw [HUn.out], ?_, ?_⟩
              · rw [HUn.out]
                exact ⟨_, _, rfl, World.ownsRow_nil _ _ _ _, World.ownsRow_nil _ _ _ _⟩
              · rw [hn0]
                exact HF.out
            · rw [show s.1 = false by simpa using hs] at hokp
              go_wp2_with fail
              refine ret23 rfl rfl rfl HZ.out ⟨_, by rw [HUn.out], ?_, ?_⟩
              · rw [HUn.out]
                exact ⟨_, _, rfl, World.ownsRow_nil _ _ _ _, World.ownsRow_nil _ _ _ _⟩
              · rw [hn0]
                exact HF.out
theorem Unpack_own (v : Value) (l : List UInt8) (w : World) (hT : Laid w) (hlen : l.length ≤ 200000) (hr : Reads w b8 v l) : Calls Tryz.prog 23 #[v] w (UnpackOwn l w) := by
  by_cases he : (onlyF l).1 = 0
  · exact Unpack_body v l w hT hlen hr he
  · exact Unpack_err v l w hT hlen hr he
theorem Unpack_any (v : Value) (l : List UInt8) (w : World) (hT : Laid w) (hlen : l.length ≤ 200000) (hr : Reads w b8 v l) : Calls Tryz.prog 23 #[v] w (UnpackEnd l w) :=
  (Unpack_own v l w hT hlen hr).mono fun _ _ ⟨vm, h1, h2, h3⟩ => ⟨vm, h1, h2.reads, h3⟩
end Go.Proofs.YtcjbgchhalilnaaGreatDoor
