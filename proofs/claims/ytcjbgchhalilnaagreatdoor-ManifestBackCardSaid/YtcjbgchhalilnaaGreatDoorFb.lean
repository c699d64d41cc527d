/- manifest.Pack: the walk. -/
import Derived.Test.YtcjbgchhalilnaaGreatDoorEm
import Derived.Test.YtcjbgchhalilnaaGreatDoorVc
import Derived.Test.YtcjbgchhalilnaaGreatDoorFd
namespace Go.Proofs.YtcjbgchhalilnaaGreatDoor
open Go Go.RowKit Go.Lib

/-- A frame some stretch of which has been written, and one slot ahead of it. -/
theorem frame_put {a a0 : Act} (k lo hi : Nat) (y : Value) (g : Nat → Value) (hs : a.tmps.size = a0.tmps.size) (hd : a.defers = a0.defers) (hlh : lo ≤ hi) (hhi : hi ≤ a0.tmps.size) (hk : k < lo)
    (hy : a.tmps.getD k undef = y) (h : ∀ t, t ≠ k → (t < lo ∨ hi ≤ t) → a.tmps.getD t undef = a0.tmps.getD t undef) (hg : ∀ t, lo ≤ t → t < hi → a.tmps.getD t undef = g t) :
    a = ⟨⟨(a0.tmps.toList.set k y).take lo ++ ((List.range' lo (hi - lo)).map g ++ (a0.tmps.toList.set k y).drop hi)⟩, a0.defers⟩ := by
  refine frame_eq (a0 := ⟨⟨a0.tmps.toList.set k y⟩, a0.defers⟩) lo hi g (by simpa using hs) hd hlh (by simpa using hhi) (fun t ht => ?_) hg
  by_cases e : t = k
  · subst e
    rw [hy]
    have : t < a0.tmps.size := by omega
    simp [this]
  · rw [h t e ht]
    simp [List.getElem?_set_ne (Ne.symm e)]

def rangeDstK (ops : Array Oper) (k lo hi : Nat) : Bool := ops.toList.all fun o => match o.dst with | some d => decide (d = k) || decide (lo ≤ d) && decide (d < hi) | none => true
theorem dst_outK {ops : Array Oper} {k lo hi : Nat} (h : rangeDstK ops k lo hi = true) {t : Tmp} (hk : t ≠ k) (ht : t < lo ∨ hi ≤ t) : isDst ops t = false := by
  unfold isDst
  rw [List.any_eq_false]
  intro o ho
  have := List.all_eq_true.1 h o ho
  cases hd : o.dst with
  | none => simp
  | some d =>
    rw [hd] at this
    simp only [Bool.and_eq_true, Bool.or_eq_true, decide_eq_true_eq] at this
    have h1 : d ≠ t := by
      intro e
      subst e
      rcases this with e | ⟨e1, e2⟩
      · exact hk e
      · rcases ht with h | h
        · exact absurd (Nat.lt_of_lt_of_le h e1) (Nat.lt_irrefl _)
        · exact absurd (Nat.lt_of_lt_of_le e2 h) (Nat.lt_irrefl _)
    simpa using h1

/-- The head of a manifest's numbers. -/
def headN (m : Man) : List Nat := [m.seq.toNat, m.every.toNat, m.keep.toNat, m.index.length]
def rowA (m : Man) (j : Nat) : List Nat := headN m ++ (m.index.take j).map (fun s => numF s 105)
def rowB (m : Man) (j : Nat) : List Nat := (headN m ++ m.index.map (fun s => numF s 105)) ++ [m.data.length] ++ (m.data.take j).flatMap datN
theorem rowA_succ (m : Man) {j : Nat} (h : j < m.index.length) : rowA m (j + 1) = rowA m j ++ [numF m.index[j] 105] := by
  unfold rowA
  rw [List.take_succ_eq_append_getElem h, List.map_append, List.append_assoc]
  rfl
theorem rowB_succ (m : Man) {j : Nat} (h : j < m.data.length) : rowB m (j + 1) = rowB m j ++ [m.data[j].m.toNat, numF m.data[j].n 100] := by
  unfold rowB
  rw [List.take_succ_eq_append_getElem h, List.flatMap_append, ← List.append_assoc]
  rfl
theorem rowA_all (m : Man) : rowB m 0 = rowA m m.index.length ++ [m.data.length] := by
  unfold rowB rowA
  rw [List.take_zero, List.take_length]
  simp
theorem rowB_all (m : Man) : rowB m m.data.length = bodyN m := by
  unfold rowB bodyN headN
  rw [List.take_length]
theorem rowA_len (m : Man) (j : Nat) : (rowA m j).length ≤ 4 + m.index.length := by
  simp only [rowA, headN, List.length_append, List.length_map, List.length_take, List.length_cons, List.length_nil]
  omega
theorem rowB_len (m : Man) (j : Nat) : (rowB m j).length ≤ 5 + m.index.length + 2 * m.data.length := by
  have h : ∀ l : List D2, (l.flatMap datN).length = 2 * l.length := by
    intro l
    induction l with
    | nil => rfl
    | cons d l ih => simp only [List.flatMap_cons, List.length_append, ih, List.length_cons, datN, List.length_nil]; omega
  simp only [rowB, headN, List.length_append, List.length_map, h, List.length_take, List.length_cons, List.length_nil]
  omega

def PackEnd (m : Man) (w : World) (e : Ending) (w' : World) : Prop :=
  ∃ vb, e = .returned (.tuple #[vb, .int .i64 (checkN m)]) ∧ (CheckP m → w'.ownsRow w.heap.size 5 1 vb (packL m).length ((packL m).map b8)) ∧ (¬ CheckP m → vb = .slice none 0 0) ∧ Below w.heap.size w w'

set_option maxRecDepth 100000 in
theorem Pack_no (v : Value) (m : Man) (w : World) (hT : Laid w) (hr : ReadsM w v m) (hno : ¬ CheckP m) : Calls Tryz.prog 21 #[v] w (PackEnd m w) := by
  have hrm := hr
  obtain ⟨vi, vd, rfl, hri, hrd⟩ := hr
  have hA : Below w.heap.size w (w.alloc (.cells #[.int .i64 m.seq, .int .i64 m.every, .int .i64 m.keep, vi, vd] 25)) := (Below.refl _ _).alloc (Nat.le_refl _) _
  have hC := Check_any _ m (w.alloc (.cells #[.int .i64 m.seq, .int .i64 m.every, .int .i64 m.keep, vi, vd] 25)) (hT.below hA (Nat.le_refl _)) (hrm.below hA (Nat.le_refl _))
  rw [checkN_no hno] at hC
  go_enter Tryz.func21, Tryz.ntmps21
  go_wp2_with fail
  refine hC.mono ?_
  rintro e w1 ⟨rfl, hb1⟩
  have hb1' : Below w.heap.size w w1 := hA.trans (hb1.mono hA.size)
  go_wp2_with fail
  go_ret2
  exact ⟨.slice none 0 0, by rw [checkN_no hno]; rfl, fun h => absurd h hno, fun _ => rfl, hb1'⟩

def PackA (m : Man) (n1 : Nat) (W : World) (vl i : Value) (wr : World) : Prop :=
  ∃ j : Nat, j ≤ m.index.length ∧ i = .int .i64 (j : Int) ∧ wr.ownsRow n1 3 1 vl (rowA m j).length ((rowA m j).map vN) ∧ Below n1 W wr
def PackB (m : Man) (n1 : Nat) (W : World) (vl i : Value) (wr : World) : Prop :=
  ∃ j : Nat, j ≤ m.data.length ∧ i = .int .i64 (j : Int) ∧ wr.ownsRow n1 3 1 vl (rowB m j).length ((rowB m j).map vN) ∧ Below n1 W wr
def PackC (l : List Nat) (W : World) (vb i : Value) (wr : World) : Prop :=
  ∃ j : Nat, j ≤ l.length ∧ i = .int .i64 (j : Int) ∧ wr.ownsRow W.heap.size 5 1 vb (putN (l.take j)).length ((putN (l.take j)).map b8) ∧ Below W.heap.size W wr

set_option maxRecDepth 100000 in
set_option maxHeartbeats 4000000 in
theorem Pack_yes (v : Value) (m : Man) (w : World) (hT : Laid w) (hr : ReadsM w v m) (hok : CheckP m) : Calls Tryz.prog 21 #[v] w (PackEnd m w) := by
  obtain ⟨i0, hi, hz0, hz1, hz2⟩ := info_partsS info_int
  have hrm := hr
  obtain ⟨vi, vd, rfl, hri, hrd⟩ := hr
  obtain ⟨ai, ci, rfl⟩ := hri.slice
  obtain ⟨ad, cd, rfl⟩ := hrd.slice
  have HOK := Lib.hid hok
  obtain ⟨g1, g2, g3, g4, g5, -, -, g8⟩ := hok
  have g4' : (m.index.length : Int) ≤ 100 := by omega
  have g5' : (m.data.length : Int) ≤ 100 := by omega
  obtain ⟨n0, hn0⟩ : ∃ n0, w.heap.size = n0 := ⟨_, rfl⟩
  obtain ⟨W, hW⟩ : ∃ W, w.alloc (.cells #[.int .i64 m.seq, .int .i64 m.every, .int .i64 m.keep, .slice ai m.index.length ci, .slice ad m.data.length cd] 25) = W := ⟨_, rfl⟩
  have hA : Below n0 w W := by rw [← hW]; exact (Below.refl _ _).alloc (by omega) _
  have hWs : W.heap.size = n0 + 1 := by rw [← hW]; simp [hn0]
  have K : ∀ k : Nat, W.cell? ⟨n0, k, none⟩ = (#[.int .i64 m.seq, .int .i64 m.every, .int .i64 m.keep, .slice ai m.index.length ci, .slice ad m.data.length cd] : Array Value)[k]? := by
    intro k
    rw [← hW, ← hn0]
    exact World.cell?_alloc_new _ _ _ _
  have C0 : ∀ w', Below (n0 + 1) W w' → w'.cell? ⟨n0, 0, none⟩ = some (.int .i64 m.seq) := fun w' h => (h.cell (p := ⟨n0, 0, none⟩) (by show n0 < n0 + 1; omega)).trans (K 0)
  have C1 : ∀ w', Below (n0 + 1) W w' → w'.cell? ⟨n0, 1, none⟩ = some (.int .i64 m.every) := fun w' h => (h.cell (p := ⟨n0, 1, none⟩) (by show n0 < n0 + 1; omega)).trans (K 1)
  have C2 : ∀ w', Below (n0 + 1) W w' → w'.cell? ⟨n0, 2, none⟩ = some (.int .i64 m.keep) := fun w' h => (h.cell (p := ⟨n0, 2, none⟩) (by show n0 < n0 + 1; omega)).trans (K 2)
  have C3 : ∀ w', Below (n0 + 1) W w' → w'.cell? ⟨n0, 3, none⟩ = some (.slice ai m.index.length ci) := fun w' h => (h.cell (p := ⟨n0, 3, none⟩) (by show n0 < n0 + 1; omega)).trans (K 3)
  have C4 : ∀ w', Below (n0 + 1) W w' → w'.cell? ⟨n0, 4, none⟩ = some (.slice ad m.data.length cd) := fun w' h => (h.cell (p := ⟨n0, 4, none⟩) (by show n0 < n0 + 1; omega)).trans (K 4)
  clear K
  have hTW : Laid W := hT.below hA (by omega)
  have hriW := hri.below hA (by omega)
  have hrdW := hrd.below hA (by omega)
  have hC := Check_any _ m W hTW (hrm.below hA (by omega))
  rw [checkN_ok HOK.out] at hC
  clear hri hrd hrm
  have c0 := C0 W (Below.refl _ _)
  have c1 := C1 W (Below.refl _ _)
  have c2 := C2 W (Below.refl _ _)
  have c3 := C3 W (Below.refl _ _)
  have c4 := C4 W (Below.refl _ _)
  go_enter Tryz.func21, Tryz.ntmps21
  go_wp2_with fail
  refine hC.mono ?_
  rintro e w1 ⟨rfl, hb1⟩
  have hb1' : Below (n0 + 1) W w1 := hb1.mono (by omega)
  clear c0 c1 c2 c3 c4
  have c0 := C0 w1 hb1'
  have c1 := C1 w1 hb1'
  have c2 := C2 w1 hb1'
  have c3 := C3 w1 hb1'
  have c4 := C4 w1 hb1'
  have hsz1 := hb1'.size
  have ow1 := World.ownsRow_lit (base := n0 + 1) (e := 3) (size := 1) w1 #[.int .i64 m.seq, .int .i64 m.every, .int .i64 m.keep, .int .i64 (m.index.length : Int)] 4 (by omega) (by simp [maxLen]) rfl
  have hbA : Below (n0 + 1) W (w1.alloc (.cells #[.int .i64 m.seq, .int .i64 m.every, .int .i64 m.keep, .int .i64 (m.index.length : Int)] 3)) := hb1'.alloc (by omega) _
  have c3' := C3 _ hbA
  have hcs : (#[.int .i64 m.seq, .int .i64 m.every, .int .i64 m.keep, .int .i64 (m.index.length : Int)] : Array Value).toList = (headN m).map vN := by
    simp only [headN, List.map_cons, List.map_nil, vN]
    rw [show ((m.seq.toNat : Nat) : Int) = m.seq by omega, show ((m.every.toNat : Nat) : Int) = m.every by omega, show ((m.keep.toNat : Nat) : Int) = m.keep by omega]
  rw [hcs] at ow1
  have ow1' : (w1.alloc (.cells #[.int .i64 m.seq, .int .i64 m.every, .int .i64 m.keep, .int .i64 (m.index.length : Int)] 3)).ownsRow (n0 + 1) 3 1 (.slice (some ⟨w1.heap.size, 0, none⟩) 4 4) (rowA m 0).length ((rowA m 0).map vN) := by
    have : rowA m 0 = headN m := by simp [rowA]
    rw [this]
    exact ow1
  clear hC hcs ow1
  go_wp2_with fail
  go_loopw [5, 7, 31] (fun vl _ i wr => PackA m (n0 + 1) W vl i wr) (fun _ _ i _ => m.index.length - (intOf i).toNat)
  case atStart => exact ⟨0, Nat.zero_le _, rfl, ow1', hbA⟩
  case round =>
    obtain ⟨j, hj, rfl, hown, hb⟩ := hrel
    clear c0 c1 c2 c3 c4 c3' ow1' hbA
    by_cases hlt : j < m.index.length
    · have hrd' := hriW.below hb (by omega)
      obtain ⟨b, off, rfl, hc⟩ := hrd'.elem hlt
      have HX : Hid (rowA m (j + 1) = rowA m j ++ [numF m.index[j] 105]) := Lib.hid (rowA_succ m hlt)
      have hxl := rowA_len m j
      generalize m.index[j] = s at hc HX
      generalize rowA m j = xs at hown hxl HX
      have hnum := number_any s 105 wr (hTW.below hb (by omega)) (by decide)
      have hbs : n0 + 1 ≤ wr.heap.size := by have := hb.size; omega
      clear hrd'
      go_wp2_with fail
      refine hnum.mono ?_
      rintro e w2 ⟨rfl, hb2⟩
      have hb2' : Below (n0 + 1) W w2 := hb.trans (hb2.mono hbs)
      have hown2 := owns_below hown hb2
      have hbs2 : n0 + 1 ≤ w2.heap.size := by have := hb2'.size; omega
      clear hnum hc
      go_wp2_with (at_builtin; refine wpList_push rfl (.tmp 35) (.tmp 38) 38 rfl (n0 + 1) 3 i0 _ 8 Tryz.underlying38 hi hz0 hz1 hz2 rfl vN xs (numF s 105) _ _ rfl rfl rfl hown2 rfl (by simp only [maxLen]; omega) (by omega) hbs2 ?_; intro v' w' hown' hb' _)
      go_roundw
      case rel => exact ⟨j + 1, hlt, by go_num, owns_to hown' HX.out.symm, hb2'.trans hb'⟩
      case measure => simp [intOf]; omega
    · have hjl : j = m.index.length := by omega
      subst hjl
      have c4 := C4 wr hb
      have hbs : n0 + 1 ≤ wr.heap.size := by have := hb.size; omega
      have hxl := rowA_len m m.index.length
      have HX : Hid (rowB m 0 = rowA m m.index.length ++ [m.data.length]) := Lib.hid (rowA_all m)
      generalize rowA m m.index.length = xs at hown hxl HX
      go_wp2_with (at_builtin; refine wpList_push rfl (.tmp 41) (.tmp 45) 38 rfl (n0 + 1) 3 i0 _ 8 Tryz.underlying38 hi hz0 hz1 hz2 rfl vN xs m.data.length _ _ rfl rfl rfl hown rfl (by simp only [maxLen]; omega) (by omega) hbs ?_; intro v5 w5 hown5 hb5 _; have hb5' : Below (n0 + 1) W w5 := hb.trans hb5; have c4' := C4 w5 hb5')
      have hownB := owns_to hown5 HX.out.symm
      clear c4 hown hown5 hb5 hb
      go_loopw [5, 9, 50] (fun vl _ i wr => PackB m (n0 + 1) W vl i wr) (fun _ _ i _ => m.data.length - (intOf i).toNat)
      case atStart => exact ⟨0, Nat.zero_le _, rfl, hownB, hb5'⟩
      case round =>
        obtain ⟨j, hj, rfl, hown, hb⟩ := hrel
        clear c4' hownB hb5'
        by_cases hlt : j < m.data.length
        · have hrd' := hrdW.below hb (by omega)
          obtain ⟨b, off, rfl, hbl, hc1, hc2⟩ := hrd'.elem hlt
          have HX : Hid (rowB m (j + 1) = rowB m j ++ [m.data[j].m.toNat, numF m.data[j].n 100]) := Lib.hid (rowB_succ m hlt)
          have hxl := rowB_len m j
          have h0 := (g8 m.data[j] (List.getElem_mem hlt)).2.1
          generalize m.data[j] = d at hc1 hc2 HX h0
          generalize rowB m j = xs at hown hxl HX
          have hbs : n0 + 1 ≤ wr.heap.size := by have := hb.size; omega
          have hTr : Laid wr := hTW.below hb (by omega)
          clear hrd'
          go_wp2_with fail
          refine pack14 (W0 := w) (n0 := n0) (n1 := n0 + 1) (nd := wr.heap.size) (d := d) (xs := xs) rfl hT hn0 (by omega) ((hA.trans (hb.mono (by omega))).alloc (by omega) _) (by simp; omega) (by simp) (by omega) h0 rfl rfl ⟨World.cell?_alloc_new _ _ _ _, World.cell?_alloc_new _ _ _ _⟩ (hown.alloc _) ?_
          intro a w8 hb8 own8 hold hsz hdf
          obtain ⟨y, hy⟩ : ∃ y, a.tmps.getD 5 undef = y := ⟨_, rfl⟩
          obtain ⟨gg, hgg⟩ : ∃ gg : Nat → Value, ∀ t, a.tmps.getD t undef = gg t := ⟨_, fun _ => rfl⟩
          have hfr := frame_put 5 54 62 y gg hsz hdf (by decide) (of_decide_eq_true (by kernel_rfl)) (by decide) hy (fun t h5 ht => hold t (dst_outK (k := 5) (lo := 54) (hi := 62) (by kernel_rfl) h5 ht)) (fun t _ _ => hgg t)
          rw [hy] at own8
          clear hgg hold hsz hdf hy
          subst hfr
          simp only [List.set_cons_succ, List.set_cons_zero, List.take_succ_cons, List.take_zero, List.drop_succ_cons, List.drop_zero, List.range', List.map_cons, List.map_nil, List.cons_append, List.nil_append, Nat.reduceAdd, Nat.reduceSub]
          go_wp2_with fail
          go_roundw
          case rel => exact ⟨j + 1, hlt, by go_num, owns_to own8 HX.out.symm, (hb.alloc hbs _).trans hb8⟩
          case measure => simp [intOf]; omega
        · have hjl : j = m.data.length := by omega
          subst hjl
          obtain ⟨W3, rfl⟩ : ∃ W3, W3 = wr := ⟨_, rfl⟩
          have hNl := bodyN_length m
          have HU : Hid (∀ n ∈ bodyN m, n ≤ 4611686018427387904) := bodyN_u64 HOK.out
          have HP : Hid (frameL 5 (putN (bodyN m)) = packL m) := rfl
          have hPl : (putN (bodyN m)).length ≤ 3050 := bodyL_length HOK.out
          rw [rowB_all] at hown
          generalize bodyN m = N at hown hNl HU HP hPl
          obtain ⟨g, cl, rfl, hgB, _⟩ := owns_some hown (by omega)
          have hr3 := Reads.of_owns hown
          have hbs : n0 + 1 ≤ W3.heap.size := by have := hb.size; omega
          have hNl' : (N.length : Int) ≤ 305 := by omega
          clear hNl
          go_wp2_with fail
          go_loopw [10, 12, 65] (fun vb _ i w3 => PackC N W3 vb i w3) (fun _ _ i _ => N.length - (intOf i).toNat)
          case atStart => exact ⟨0, Nat.zero_le _, rfl, World.ownsRow_nil _ _ _ _, Below.refl _ _⟩
          case round =>
            obtain ⟨j, hj, rfl, hownb, hbb⟩ := hrel
            have hbn : Below n0 w wr := (hA.trans (hb.mono (by omega))).trans (hbb.mono (by omega))
            have hpl := putN_length (N.take j) (fun n hn => by have := HU.out n (List.mem_of_mem_take hn); unfold U64; omega)
            rw [List.length_take] at hpl
            have hrb := Reads.of_owns hownb
            by_cases hlt : j < N.length
            · obtain ⟨b, off, he, hc⟩ := (hr3.below hbb (Nat.le_refl _)).elem hlt
              simp only [Option.some.injEq, Addr.mk.injEq, and_true] at he
              obtain ⟨rfl, rfl⟩ := he
              have hu := HU.out N[j] (List.getElem_mem hlt)
              have HX : Hid (putN (N.take (j + 1)) = putN (N.take j) ++ Lib.uvarint N[j]) := by
                rw [Hid, List.take_succ_eq_append_getElem hlt]
                unfold putN
                rw [List.flatMap_append, List.flatMap_cons, List.flatMap_nil, List.append_nil]
              generalize N[j] = n at hc hu HX
              have hc' : wr.cell? ⟨g, j, none⟩ = some (.int .i64 (n : Int)) := by simpa [vN] using hc
              have hc'' : wr.cell? ⟨g, 0 + j, none⟩ = some (.int .i64 (n : Int)) := by simpa using hc'
              have hu' : (n : Int) ≤ 4611686018427387904 := by omega
              have hput := Put_any _ (putN (N.take j)) n wr (by unfold U64; omega) (by omega) hrb
              have hBs := hbb.size
              clear hc
              go_wp2_with fail
              refine hput.mono ?_
              rintro e w2 ⟨v2, rfl, hown2, hb2⟩
              go_wp2_with fail
              go_roundw
              case rel => exact ⟨j + 1, hlt, by go_num, by rw [HX.out]; exact hown2.mono hBs, hbb.trans (hb2.mono hBs)⟩
              case measure => simp [intOf]; omega
            · have hjl : j = N.length := by omega
              subst hjl
              rw [List.take_length] at hownb hrb
              have hM := Make_any _ (putN N) wr ((hT.below hbn (by omega)).1) (by omega) hrb
              rw [HP.out] at hM
              go_wp2_with fail
              refine hM.mono ?_
              rintro e w4 ⟨v4, rfl, hown4, hb4⟩
              have hBs := hbb.size
              go_wp2_with fail
              go_ret2
              exact ⟨v4, by rw [checkN_ok HOK.out]; rfl, fun _ => hown4.mono (by omega), fun h => absurd HOK.out h, by rw [hn0]; exact hbn.trans (hb4.mono (by omega))⟩

theorem Pack_any (v : Value) (m : Man) (w : World) (hT : Laid w) (hr : ReadsM w v m) : Calls Tryz.prog 21 #[v] w (PackEnd m w) := by
  by_cases h : CheckP m
  · exact Pack_yes v m w hT hr h
  · exact Pack_no v m w hT hr h
end Go.Proofs.YtcjbgchhalilnaaGreatDoor
