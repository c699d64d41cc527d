/- manifest.Names, Of, Months: the walks. -/
import Derived.Test.YtcjbgchhalilnaaGreatDoorEi
import Derived.Test.YtcjbgchhalilnaaGreatDoorSh
import Derived.Lib.OwnBridge
import Derived.Deep.Onto
import Derived.BigQuiet
namespace Go.Proofs.YtcjbgchhalilnaaGreatDoor
open Go Go.RowKit Go.Lib

/-- A manifest. -/
structure Man where
  seq : Int
  every : Int
  keep : Int
  index : List (List UInt8)
  data : List D2
def ReadsM (w : World) (v : Value) (m : Man) : Prop :=
  ∃ vi vd, v = .agg #[.int .i64 m.seq, .int .i64 m.every, .int .i64 m.keep, vi, vd] ∧ Reads w encStr vi m.index ∧ ReadsV w vd m.data
theorem ReadsM.below {w w' : World} {B : Nat} {v : Value} {m : Man} (h : ReadsM w v m) (hb : Below B w w') (hB : w.heap.size ≤ B) : ReadsM w' v m := by
  obtain ⟨vi, vd, e, h1, h2⟩ := h
  exact ⟨vi, vd, e, h1.below hb hB, h2.below hb hB⟩

def risingS (l : List (List UInt8)) : List (List UInt8) := Lib.compact (l.mergeSort fun x y => decide (x ≤ y))
def risingI (l : List Int) : List Int := Lib.compact (l.mergeSort fun x y => decide (x ≤ y))
def namesL (m : Man) : List (List UInt8) := risingS (m.index ++ m.data.map (·.n))
def ofL (m : Man) (mo : Int) : List (List UInt8) := (m.data.filter fun d => d.m == mo).map (·.n)
def monthsL (m : Man) : List Int := risingI (m.data.map (·.m))

theorem below_growN (w : World) (os : Array Obj) : Below w.heap.size w (Sort.grow w os) :=
  ⟨rfl, rfl, rfl, by simp [Sort.grow], fun i hi => Sort.heap_grow_old w os hi⟩

theorem sort_own {α : Type} [Inhabited α] [DecidableEq α] (enc : α → Value) (base : Nat) (e : TypeId) (v : Value) (l : List α) (w : World) (hbase : base ≤ w.heap.size) (hlen : l.length ≤ 1000000) (own : w.ownsRow base e 1 v l.length (l.map enc)) (le : α → α → Bool) (fs fc : FuncId) (z : α)
    (hs0 : ∀ (p : Option Addr) (cap : Nat) (w : World), Calls Tryz.prog fs #[.slice p 0 cap] w fun e w' => e = .returned (.tuple #[]) ∧ w' = w)
    (hs : ∀ (blk off cap : Nat) (zs : List α) (w : World), Sort.Holds enc w blk off zs.toArray → blk < w.heap.size → zs.length < 4611686018427387904 → Calls Tryz.prog fs #[.slice (some ⟨blk, off, none⟩) zs.length cap] w fun e w' => e = .returned (.tuple #[]) ∧ ∃ n os, w' = Sort.grow (Sort.putRow enc (Sort.ahead w n) blk off (zs.mergeSort le).toArray) os)
    (hc0 : ∀ (a : Option Addr) (cap : Nat) (w : World), Calls Tryz.prog fc #[.slice a 0 cap] w fun e w' => e = .returned (.slice a 0 cap) ∧ w' = w)
    (hc : ∀ (blk off cap : Nat) (zs : List α) (w : World), Sort.Holds enc w blk off zs.toArray → zs.length ≤ 9223372036854775807 → zs.length ≤ cap → Calls Tryz.prog fc #[.slice (some ⟨blk, off, none⟩) zs.length cap] w fun e w' => e = .returned (.slice (some ⟨blk, off, none⟩) (Lib.compact zs).length cap) ∧ ∃ q, w' = Sort.putRow enc (Sort.ahead w q) blk off (Lib.compact zs ++ List.replicate (zs.length - (Lib.compact zs).length) z).toArray) :
    Calls Tryz.prog fs #[v] w fun e1 w1 => e1 = .returned (.tuple #[]) ∧ Below base w w1 ∧
      Calls Tryz.prog fc #[v] w1 fun e2 w2 => ∃ v', e2 = .returned v' ∧ Reads w2 enc v' (Lib.compact (l.mergeSort le)) ∧ Below base w1 w2 := by
  by_cases hv : v = .slice none 0 0
  · subst hv
    have hl : l = [] := by
      rcases own.2 with ⟨_, h⟩ | ⟨g, cap, cur, h, _⟩
      · exact List.eq_nil_of_length_eq_zero h
      · cases h
    subst hl
    refine (hs0 none 0 w).mono ?_
    rintro e1 w1 ⟨rfl, rfl⟩
    refine ⟨rfl, Below.refl _ _, (hc0 none 0 w1).mono ?_⟩
    rintro e2 w2 ⟨rfl, rfl⟩
    have e0 : Lib.compact (([] : List α).mergeSort le) = [] := by rw [List.mergeSort_nil]; rfl
    rw [e0]
    exact ⟨_, rfl, Reads.nil _ _, Below.refl _ _⟩
  · obtain ⟨g, cap, rfl, hb, hlt, hn, hm, _, hH⟩ := holds_of_ownsRow own hv
    have hm' : cap ≤ 9223372036854775807 := by simp only [maxLen] at hm; omega
    have hms : (l.mergeSort le).length = l.length := List.length_mergeSort _
    have hsz : l.length < 4611686018427387904 := by omega
    refine (hs g 0 cap l w hH hlt hsz).mono ?_
    rintro e1 w1 ⟨rfl, n, os, rfl⟩
    have own1 := ownsRow_putRow (q := n) (k := l.length) own hms (Nat.le_refl _)
    rw [List.take_of_length_le (by omega)] at own1
    have own2 := owns_below own1 (below_growN _ os)
    have hb1 : Below base w (Sort.grow (Sort.putRow enc (Sort.ahead w n) g 0 (l.mergeSort le).toArray) os) :=
      (below_putRow (Below.refl base w) hb).trans ((below_growN _ os).mono (by simp [Sort.putRow, Sort.mapBlock, Sort.ahead]; omega))
    refine ⟨rfl, hb1, ?_⟩
    generalize Sort.grow (Sort.putRow enc (Sort.ahead w n) g 0 (l.mergeSort le).toArray) os = w1 at *
    obtain ⟨g2, cap2, e2, _, hlt2, _, _, _, hH2⟩ := holds_of_ownsRow own2 (by simp)
    simp only [Value.slice.injEq, Option.some.injEq, Addr.mk.injEq, and_true, true_and] at e2
    obtain ⟨rfl, rfl⟩ := e2
    have hC := hc g 0 cap (l.mergeSort le) w1 hH2 (by omega) (by omega)
    rw [hms] at hC
    refine hC.mono ?_
    rintro e2 w2 ⟨rfl, q, rfl⟩
    have hcl := compact_length_le (l.mergeSort le)
    have own3 := ownsRow_putRow (q := q) (k := (Lib.compact (l.mergeSort le)).length) (ys := Lib.compact (l.mergeSort le) ++ List.replicate (l.length - (Lib.compact (l.mergeSort le)).length) z) own2 (by simp; omega) (by omega)
    rw [List.take_left] at own3
    exact ⟨_, rfl, Reads.of_owns own3, below_putRow (Below.refl base w1) hb⟩

theorem risingS_any (base : Nat) (v : Value) (l : List (List UInt8)) (w : World) (hbase : base ≤ w.heap.size) (hlen : l.length ≤ 1000000) (own : w.ownsRow base 9 1 v l.length (l.map encStr)) :
    Calls Tryz.prog 26 #[v] w fun e w' => ∃ v', e = .returned v' ∧ Reads w' encStr v' (risingS l) ∧ Below base w w' := by
  have h := sort_own encStr base 9 v l w hbase hlen own (fun x y => decide (x ≤ y)) 40 41 [] Tryz.slices_Sort_string_none Tryz.slices_Sort_string Tryz.slices_Compact_string_empty Tryz.slices_Compact_string
  go_enter Tryz.func26, Tryz.ntmps26
  go_wp2_with fail
  refine h.mono ?_
  rintro e w1 ⟨rfl, hb1, h2⟩
  go_wp2_with fail
  refine h2.mono ?_
  rintro e w2 ⟨v', rfl, hr, hb2⟩
  go_wp2_with fail
  go_ret
  exact ⟨v', rfl, hr, hb1.trans hb2⟩
theorem risingI_any (base : Nat) (v : Value) (l : List Int) (w : World) (hbase : base ≤ w.heap.size) (hlen : l.length ≤ 1000000) (own : w.ownsRow base 3 1 v l.length (l.map (Value.int .i64))) :
    Calls Tryz.prog 28 #[v] w fun e w' => ∃ v', e = .returned v' ∧ Reads w' (Value.int .i64) v' (risingI l) ∧ Below base w w' := by
  have h := sort_own (Value.int .i64) base 3 v l w hbase hlen own (fun x y => decide (x ≤ y)) 42 43 0 Tryz.slices_Sort_int_none Tryz.slices_Sort_int Tryz.slices_Compact_int_empty Tryz.slices_Compact_int
  go_enter Tryz.func28, Tryz.ntmps28
  go_wp2_with fail
  refine h.mono ?_
  rintro e w1 ⟨rfl, hb1, h2⟩
  go_wp2_with fail
  refine h2.mono ?_
  rintro e w2 ⟨v', rfl, hr, hb2⟩
  go_wp2_with fail
  go_ret
  exact ⟨v', rfl, hr, hb1.trans hb2⟩

theorem cloneS_any (v : Value) (l : List (List UInt8)) (w : World) (hlen : l.length ≤ 100000) (hr : Reads w encStr v l) :
    Calls Tryz.prog 25 #[v] w fun e w' => ∃ v', e = .returned v' ∧ w'.ownsRow w.heap.size 9 1 v' l.length (l.map encStr) ∧ Below w.heap.size w w' := by
  rcases hr with ⟨rfl, a, cap, rfl, _, hn⟩ | ⟨b, off, cap, rfl, h1, h2, h3, h4⟩
  · cases a with
    | none =>
      refine (Tryz.slices_Clone_string_nil 0 cap w).mono ?_
      rintro e w' ⟨rfl, rfl⟩
      exact ⟨_, rfl, World.ownsRow_nil _ _ _ _, Below.refl _ _⟩
    | some a =>
      refine (Tryz.slices_Clone_string_zero a cap w).mono ?_
      rintro e w' ⟨v', rfl, hown, _, hb⟩
      exact ⟨v', rfl, hown, hb⟩
  · refine (Tryz.slices_Clone_string b off l.length cap (l.map fun s => ⟨s.toArray⟩) w (by simp) (by omega) (fun j hj => ?_)).mono ?_
    · have hj' : j < l.length := by simpa using hj
      rw [h4 j hj']
      simp [List.getD, hj']
    rintro e w' ⟨v', rfl, hown, _, hb⟩
    refine ⟨v', rfl, ?_, hb⟩
    rw [List.take_of_length_le (by simp), List.map_map] at hown
    exact hown

theorem info_str : (Tryz.prog.info? 9).map (fun i => (i.zero, i.size, i.bytes)) = some (some (encStr []), 1, 16) := by kernel_rfl
theorem info_partsS {e : TypeId} {z : Value} {n : Nat} (h : (Tryz.prog.info? e).map (fun i => (i.zero, i.size, i.bytes)) = some (some z, 1, n)) : ∃ i, Tryz.prog.info? e = some i ∧ i.zero = some z ∧ i.size = 1 ∧ i.bytes = n := by
  cases hi : Tryz.prog.info? e with
  | none => rw [hi] at h; cases h
  | some i =>
    rw [hi] at h
    simp only [Option.map_some, Option.some.injEq, Prod.mk.injEq] at h
    exact ⟨i, rfl, h.1, h.2.1, h.2.2⟩

def NamesRel (m : Man) (n0 : Nat) (w : World) (vo i : Value) (wr : World) : Prop :=
  ∃ j : Nat, j ≤ m.data.length ∧ i = .int .i64 (j : Int) ∧ wr.ownsRow n0 9 1 vo (m.index ++ (m.data.take j).map (·.n)).length ((m.index ++ (m.data.take j).map (·.n)).map encStr) ∧ Below n0 w wr
set_option maxRecDepth 100000 in
theorem Names_any (v : Value) (m : Man) (w : World) (h1 : m.index.length ≤ 10000) (h2 : m.data.length ≤ 10000) (hr : ReadsM w v m) :
    Calls Tryz.prog 12 #[v] w fun e w' => ∃ v', e = .returned v' ∧ Reads w' encStr v' (namesL m) ∧ Below w.heap.size w w' := by
  obtain ⟨i0, hi, hz0, hz1, hz2⟩ := info_partsS info_str
  obtain ⟨vi, vd, rfl, hri, hrd⟩ := hr
  have hA : Below w.heap.size w (w.alloc (.cells #[.int .i64 m.seq, .int .i64 m.every, .int .i64 m.keep, vi, vd] 25)) := (Below.refl _ _).alloc (Nat.le_refl _) _
  have hcl := cloneS_any vi m.index (w.alloc (.cells #[.int .i64 m.seq, .int .i64 m.every, .int .i64 m.keep, vi, vd] 25)) (by omega) (hri.below hA (Nat.le_refl _))
  obtain ⟨ad, cd, rfl⟩ := hrd.slice
  obtain ⟨n0, hn0⟩ : ∃ n0, w.heap.size = n0 := ⟨_, rfl⟩
  go_enter Tryz.func12, Tryz.ntmps12
  go_wp2_with fail
  refine hcl.mono ?_
  rintro e w1 ⟨v1, rfl, hown1, hb1⟩
  have hb1' : Below w.heap.size w w1 := hA.trans (hb1.mono hA.size)
  have hcell : w1.cell? ⟨w.heap.size, 4, none⟩ = some (.slice ad m.data.length cd) := (hb1.cell (p := ⟨w.heap.size, 4, none⟩) (by simp)).trans (by simp [go_sem])
  have hown1' := hown1.mono hA.size
  have hrd1 := hrd.below hb1' (Nat.le_refl _)
  clear hA hcl hri hown1 hb1
  rw [hn0] at hcell hown1' hb1'
  have hml := hrd.len_cap
  have hlen63 : (m.data.length : Int) ≤ 10000 := by omega
  go_wp2_with fail
  go_loopw [3, 5, 12] (fun vo _ i wr => NamesRel m n0 w vo i wr) (fun _ _ i _ => m.data.length - (intOf i).toNat)
  case atStart => exact ⟨0, Nat.zero_le _, rfl, by simpa using hown1', hb1'⟩
  case round =>
    obtain ⟨j, hj, rfl, hown, hb⟩ := hrel
    by_cases hlt : j < m.data.length
    · have hrd' := hrd.below hb (by omega)
      obtain ⟨b, off, rfl, hbl, hc1, hc2⟩ := hrd'.elem hlt
      have HD : Hid (m.data.take (j + 1) = m.data.take j ++ [m.data[j]]) := Lib.hid (List.take_succ_eq_append_getElem hlt)
      generalize m.data[j] = d at hc1 hc2 HD
      have hxl : (m.index ++ (m.data.take j).map (·.n)).length ≤ 20000 := by rw [List.length_append, List.length_map, List.length_take]; omega
      have HX : Hid (m.index ++ (m.data.take (j + 1)).map (·.n) = (m.index ++ (m.data.take j).map (·.n)) ++ [d.n]) := by rw [Hid, HD.out, List.map_append, List.append_assoc]; rfl
      generalize m.index ++ (m.data.take j).map (·.n) = xs at hown hxl HX
      have hbs : n0 ≤ wr.heap.size := by have := hb.size; omega
      clear HD hrd'
      go_wp2_with (at_builtin; refine wpList_push rfl (.tmp 16) (.tmp 19) 22 rfl n0 9 i0 _ 16 Tryz.underlying22 hi hz0 hz1 hz2 rfl encStr xs d.n _ _ rfl rfl rfl (hown.alloc _) (congrArg (fun n => Value.slice (some ⟨n, 0, none⟩) 1 1) (by simp)) (by simp only [maxLen]; omega) (by omega) (by simp; omega) ?_; intro v' w' hown' hb' _)
      go_roundw
      case rel => exact ⟨j + 1, hlt, by go_num, by rw [HX.out]; exact hown', (hb.alloc hbs _).trans hb'⟩
      case measure => simp [intOf]; omega
    · have hjl : j = m.data.length := by omega
      subst hjl
      rw [List.take_length] at hown
      have hfin := risingS_any n0 _ (m.index ++ m.data.map (·.n)) wr (by have := hb.size; omega) (by simp only [List.length_append, List.length_map]; omega) hown
      go_wp2_with fail
      refine hfin.mono ?_
      rintro e w2 ⟨v2, rfl, hr2, hb2⟩
      go_wp2_with fail
      go_ret
      exact ⟨v2, rfl, hr2, by rw [hn0]; exact hb.trans hb2⟩

def OfRel (m : Man) (mo : Int) (n0 : Nat) (w : World) (vo i : Value) (wr : World) : Prop :=
  ∃ j : Nat, j ≤ m.data.length ∧ i = .int .i64 (j : Int) ∧ wr.ownsRow n0 9 1 vo (((m.data.take j).filter fun d => d.m == mo).map (·.n)).length ((((m.data.take j).filter fun d => d.m == mo).map (·.n)).map encStr) ∧ Below n0 w wr
set_option maxRecDepth 100000 in
theorem Of_any (v : Value) (m : Man) (mo : Int) (w : World) (h2 : m.data.length ≤ 10000) (hr : ReadsM w v m) :
    Calls Tryz.prog 14 #[v, .int .i64 mo] w fun e w' => ∃ v', e = .returned v' ∧ w'.ownsRow w.heap.size 9 1 v' (ofL m mo).length ((ofL m mo).map encStr) ∧ Below w.heap.size w w' := by
  obtain ⟨i0, hi, hz0, hz1, hz2⟩ := info_partsS info_str
  obtain ⟨vi, vd, rfl, hri, hrd⟩ := hr
  have hA : Below w.heap.size w (w.alloc (.cells #[.int .i64 m.seq, .int .i64 m.every, .int .i64 m.keep, vi, vd] 25)) := (Below.refl _ _).alloc (Nat.le_refl _) _
  obtain ⟨ad, cd, rfl⟩ := hrd.slice
  obtain ⟨n0, hn0⟩ : ∃ n0, w.heap.size = n0 := ⟨_, rfl⟩
  have hml := hrd.len_cap
  have hlen63 : (m.data.length : Int) ≤ 10000 := by omega
  rw [hn0] at hA
  go_enter Tryz.func14, Tryz.ntmps14
  go_wp2_with fail
  go_loopw [5, 7, 11] (fun vo _ i wr => OfRel m mo n0 w vo i wr) (fun _ _ i _ => m.data.length - (intOf i).toNat)
  case atStart => exact ⟨0, Nat.zero_le _, rfl, World.ownsRow_nil _ _ _ _, hA⟩
  case round =>
    obtain ⟨j, hj, rfl, hown, hb⟩ := hrel
    by_cases hlt : j < m.data.length
    · have hrd' := hrd.below hb (by omega)
      obtain ⟨b, off, rfl, hbl, hc1, hc2⟩ := hrd'.elem hlt
      have HD : Hid (m.data.take (j + 1) = m.data.take j ++ [m.data[j]]) := Lib.hid (List.take_succ_eq_append_getElem hlt)
      generalize m.data[j] = d at hc1 hc2 HD
      have hxl : (((m.data.take j).filter fun d => d.m == mo).map (·.n)).length ≤ 20000 := by
        rw [List.length_map]
        have := List.length_filter_le (fun d : D2 => d.m == mo) (m.data.take j)
        rw [List.length_take] at this
        omega
      have HX : Hid (((m.data.take (j + 1)).filter fun d => d.m == mo).map (·.n) = (((m.data.take j).filter fun d => d.m == mo).map (·.n)) ++ (if d.m = mo then [d.n] else [])) := by
        rw [Hid, HD.out, List.filter_append, List.map_append]
        by_cases e : d.m = mo
        · simp [e]
        · simp [e]
      generalize ((m.data.take j).filter fun d => d.m == mo).map (·.n) = xs at hown hxl HX
      have hbs : n0 ≤ wr.heap.size := by have := hb.size; omega
      clear HD hrd'
      by_cases e : d.m = mo
      · rw [if_pos e] at HX
        go_wp2_with (at_builtin; refine wpList_push rfl (.tmp 19) (.tmp 22) 22 rfl n0 9 i0 _ 16 Tryz.underlying22 hi hz0 hz1 hz2 rfl encStr xs d.n _ _ rfl rfl rfl (hown.alloc _) (congrArg (fun n => Value.slice (some ⟨n, 0, none⟩) 1 1) (by simp)) (by simp only [maxLen]; omega) (by omega) (by simp; omega) ?_; intro v' w' hown' hb' _)
        go_roundw
        case rel => exact ⟨j + 1, hlt, by go_num, by rw [HX.out]; exact hown', (hb.alloc hbs _).trans hb'⟩
        case measure => simp [intOf]; omega
      · rw [if_neg e, List.append_nil] at HX
        go_wp2_with fail
        go_roundw
        case rel => exact ⟨j + 1, hlt, by go_num, by rw [HX.out]; exact hown.alloc _, hb.alloc hbs _⟩
        case measure => simp [intOf]; omega
    · have hjl : j = m.data.length := by omega
      subst hjl
      rw [List.take_length] at hown
      go_wp2_with fail
      go_ret
      exact ⟨_, rfl, hown, hb⟩

theorem info_int : (Tryz.prog.info? 3).map (fun i => (i.zero, i.size, i.bytes)) = some (some (.int .i64 0), 1, 8) := by kernel_rfl
def MonRel (m : Man) (n0 : Nat) (w : World) (vo i : Value) (wr : World) : Prop :=
  ∃ j : Nat, j ≤ m.data.length ∧ i = .int .i64 (j : Int) ∧ wr.ownsRow n0 3 1 vo ((m.data.take j).map (·.m)).length (((m.data.take j).map (·.m)).map (Value.int .i64)) ∧ Below n0 w wr
set_option maxRecDepth 100000 in
theorem Months_any (v : Value) (m : Man) (w : World) (h2 : m.data.length ≤ 10000) (hr : ReadsM w v m) :
    Calls Tryz.prog 17 #[v] w fun e w' => ∃ v', e = .returned v' ∧ Reads w' (Value.int .i64) v' (monthsL m) ∧ Below w.heap.size w w' := by
  obtain ⟨i0, hi, hz0, hz1, hz2⟩ := info_partsS info_int
  obtain ⟨vi, vd, rfl, hri, hrd⟩ := hr
  have hA : Below w.heap.size w (w.alloc (.cells #[.int .i64 m.seq, .int .i64 m.every, .int .i64 m.keep, vi, vd] 25)) := (Below.refl _ _).alloc (Nat.le_refl _) _
  obtain ⟨ad, cd, rfl⟩ := hrd.slice
  obtain ⟨n0, hn0⟩ : ∃ n0, w.heap.size = n0 := ⟨_, rfl⟩
  have hml := hrd.len_cap
  have hlen63 : (m.data.length : Int) ≤ 10000 := by omega
  rw [hn0] at hA
  go_enter Tryz.func17, Tryz.ntmps17
  go_wp2_with fail
  go_loopw [3, 5, 9] (fun vo _ i wr => MonRel m n0 w vo i wr) (fun _ _ i _ => m.data.length - (intOf i).toNat)
  case atStart => exact ⟨0, Nat.zero_le _, rfl, World.ownsRow_nil _ _ _ _, hA⟩
  case round =>
    obtain ⟨j, hj, rfl, hown, hb⟩ := hrel
    by_cases hlt : j < m.data.length
    · have hrd' := hrd.below hb (by omega)
      obtain ⟨b, off, rfl, hbl, hc1, hc2⟩ := hrd'.elem hlt
      have HD : Hid (m.data.take (j + 1) = m.data.take j ++ [m.data[j]]) := Lib.hid (List.take_succ_eq_append_getElem hlt)
      generalize m.data[j] = d at hc1 hc2 HD
      have hxl : ((m.data.take j).map (·.m)).length ≤ 20000 := by rw [List.length_map, List.length_take]; omega
      have HX : Hid ((m.data.take (j + 1)).map (·.m) = ((m.data.take j).map (·.m)) ++ [d.m]) := by rw [Hid, HD.out, List.map_append]; rfl
      generalize (m.data.take j).map (·.m) = xs at hown hxl HX
      have hbs : n0 ≤ wr.heap.size := by have := hb.size; omega
      clear HD hrd'
      go_wp2_with (at_builtin; refine wpList_push rfl (.tmp 13) (.tmp 16) 38 rfl n0 3 i0 _ 8 Tryz.underlying38 hi hz0 hz1 hz2 rfl (Value.int .i64) xs d.m _ _ rfl rfl rfl (hown.alloc _) (congrArg (fun n => Value.slice (some ⟨n, 0, none⟩) 1 1) (by simp)) (by simp only [maxLen]; omega) (by omega) (by simp; omega) ?_; intro v' w' hown' hb' _)
      go_roundw
      case rel => exact ⟨j + 1, hlt, by go_num, by rw [HX.out]; exact hown', (hb.alloc hbs _).trans hb'⟩
      case measure => simp [intOf]; omega
    · have hjl : j = m.data.length := by omega
      subst hjl
      rw [List.take_length] at hown
      have hfin := risingI_any n0 _ (m.data.map (·.m)) wr (by have := hb.size; omega) (by simp only [List.length_map]; omega) hown
      go_wp2_with fail
      refine hfin.mono ?_
      rintro e w2 ⟨v2, rfl, hr2, hb2⟩
      go_wp2_with fail
      go_ret
      exact ⟨v2, rfl, hr2, by rw [hn0]; exact hb.trans hb2⟩
end Go.Proofs.YtcjbgchhalilnaaGreatDoor
