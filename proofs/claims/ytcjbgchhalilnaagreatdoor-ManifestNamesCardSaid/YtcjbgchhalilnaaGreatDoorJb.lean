/- The reference's Names, Of, Months: the walks. -/
import Derived.Test.YtcjbgchhalilnaaGreatDoorJa
namespace Go.Proofs.YtcjbgchhalilnaaGreatDoor
open Go Go.RowKit Go.Lib
set_option linter.unusedVariables false

theorem putS_rising (l : List (List UInt8)) : putAllS leS l [] = risingS l := putAll_rise (le := leS) ordS l
theorem putI_rising (l : List Int) : putAllS leI l [] = risingI l := putAll_rise (le := leI) ordI l

def RNRel (L : List (List UInt8)) (k0 top n0 : Nat) (w : World) (vo i : Value) (wr : World) : Prop :=
  ∃ j : Nat, j ≤ top ∧ i = .int .i64 (j : Int) ∧ Reads wr encStr vo (putAllS leS (L.take (k0 + j)) []) ∧ Below n0 w wr
set_option maxRecDepth 100000 in
theorem refNames_any (v : Value) (m : Man) (w : World) (h1 : m.index.length ≤ 10000) (h2 : m.data.length ≤ 10000) (hr : ReadsM w v m) :
    Calls Tryz.prog 13 #[v] w fun e w' => ∃ v', e = .returned v' ∧ Reads w' encStr v' (namesL m) ∧ Below w.heap.size w w' := by
  obtain ⟨vi, vd, rfl, hri, hrd⟩ := hr
  obtain ⟨ai, ci, rfl⟩ := hri.slice
  obtain ⟨ad, cd, rfl⟩ := hrd.slice
  obtain ⟨n0, hn0⟩ : ∃ n0, w.heap.size = n0 := ⟨_, rfl⟩
  obtain ⟨W, hW⟩ : ∃ W, w.alloc (.cells #[.int .i64 m.seq, .int .i64 m.every, .int .i64 m.keep, .slice ai m.index.length ci, .slice ad m.data.length cd] 30) = W := ⟨_, rfl⟩
  have hA : Below n0 w W := by rw [← hW]; exact (Below.refl _ _).alloc (by omega) _
  have hWs : W.heap.size = n0 + 1 := by rw [← hW]; simp [hn0]
  have K : ∀ k : Nat, W.cell? ⟨n0, k, none⟩ = (#[.int .i64 m.seq, .int .i64 m.every, .int .i64 m.keep, .slice ai m.index.length ci, .slice ad m.data.length cd] : Array Value)[k]? := by
    intro k
    rw [← hW, ← hn0]
    exact World.cell?_alloc_new _ _ _ _
  have CC : ∀ w', Below (n0 + 1) W w' → w'.cell? ⟨n0, 3, none⟩ = some (.slice ai m.index.length ci) ∧ w'.cell? ⟨n0, 4, none⟩ = some (.slice ad m.data.length cd) := by
    intro w' h
    have q : ∀ k, w'.cell? ⟨n0, k, none⟩ = W.cell? ⟨n0, k, none⟩ := fun k => h.cell (p := ⟨n0, k, none⟩) (by show n0 < n0 + 1; omega)
    exact ⟨(q 3).trans (K 3), (q 4).trans (K 4)⟩
  clear K
  have hriW := hri.below hA (by omega)
  have hrdW := hrd.below hA (by omega)
  have h1' : (m.index.length : Int) ≤ 10000 := by omega
  have h2' : (m.data.length : Int) ≤ 10000 := by omega
  obtain ⟨L, hL⟩ : ∃ L, m.index ++ m.data.map (·.n) = L := ⟨_, rfl⟩
  have hLL : L.length = m.index.length + m.data.length := by rw [← hL]; simp
  have HL := Lib.hid hL
  clear hL
  go_enter Tryz.func13, Tryz.ntmps13
  go_wp2_with fail
  go_loopw [3, 4] (fun vo i wr => RNRel L 0 m.index.length (n0 + 1) W vo i wr) (fun _ i _ => m.index.length - (RowKit.intOf i).toNat)
  case atStart => exact ⟨0, Nat.zero_le _, rfl, Reads.nil _ _, Below.refl _ _⟩
  case round =>
    obtain ⟨j, hj, rfl, hrv, hb⟩ := hrel
    obtain ⟨c3, c4⟩ := CC wr hb
    rw [Nat.zero_add] at hrv
    by_cases hlt : j < m.index.length
    · have hri' := hriW.below hb (by omega)
      obtain ⟨b, off, rfl, hc⟩ := hri'.elem hlt
      have hbs := hb.size
      have HT := Lib.hid (show L.take (j + 1) = L.take j ++ [m.index[j]] by
        have h3 : j < L.length := by omega
        rw [List.take_succ_eq_append_getElem h3]
        congr 2
        have := HL.out
        subst this
        exact List.getElem_append_left hlt)
      generalize m.index[j] = x at hc HT
      have hacc := putAllS_length leS (L.take j) []
      have htk : (L.take j).length ≤ 20000 := by rw [List.length_take]; omega
      have hp := refPutS_any u3 (putAllS leS (L.take j) []) x wr (by simp at hacc; omega) hrv
      clear hri' hacc
      go_wp2_with fail
      refine hp.mono ?_
      rintro e w2 ⟨v2, rfl, hr2, hb2⟩
      go_wp2_with fail
      go_roundw
      case rel => exact ⟨j + 1, hlt, by go_num, by rw [Nat.zero_add, HT.out, putAllS_snoc]; exact hr2, hb.trans (hb2.mono (by omega))⟩
      case measure => simp [RowKit.intOf]; omega
    · have hjl : j = m.index.length := by omega
      subst hjl
      go_wp2_with fail
      go_loopw [3, 5] (fun vo i wr => RNRel L m.index.length m.data.length (n0 + 1) W vo i wr) (fun _ i _ => m.data.length - (RowKit.intOf i).toNat)
      case atStart => exact ⟨0, Nat.zero_le _, rfl, hrv, hb⟩
      case round =>
        clear hrv hb c3 c4
        obtain ⟨j, hj, rfl, hrv, hb⟩ := hrel
        obtain ⟨c3, c4⟩ := CC wr hb
        by_cases hlt : j < m.data.length
        · have hrd' := hrdW.below hb (by omega)
          obtain ⟨b, off, rfl, hbl, hc1, hc2⟩ := hrd'.elem hlt
          have hbs := hb.size
          have HT := Lib.hid (show L.take (m.index.length + (j + 1)) = L.take (m.index.length + j) ++ [m.data[j].n] by
            have h3 : m.index.length + j < L.length := by omega
            rw [← Nat.add_assoc, List.take_succ_eq_append_getElem h3]
            congr 2
            have := HL.out
            subst this
            rw [List.getElem_append_right (by omega), List.getElem_map]
            congr 2
            omega)
          generalize m.data[j] = d at hc1 hc2 HT
          have hacc := putAllS_length leS (L.take (m.index.length + j)) []
          have htk : (L.take (m.index.length + j)).length ≤ 20000 := by rw [List.length_take]; omega
          have hp := refPutS_any u3 (putAllS leS (L.take (m.index.length + j)) []) d.n wr (by simp at hacc; omega) hrv
          clear hrd' hacc
          go_wp2_with fail
          refine hp.mono ?_
          rintro e w2 ⟨v2, rfl, hr2, hb2⟩
          go_wp2_with fail
          go_roundw
          case rel => exact ⟨j + 1, hlt, by go_num, by rw [HT.out, putAllS_snoc]; exact hr2, hb.trans (hb2.mono (by omega))⟩
          case measure => simp [RowKit.intOf]; omega
        · have hjl : j = m.data.length := by omega
          subst hjl
          rw [← hLL, List.take_length, putS_rising] at hrv
          go_wp2_with fail
          go_ret
          refine ⟨_, rfl, ?_, ?_⟩
          · unfold namesL
            rw [HL.out]
            exact hrv
          · rw [hn0]
            exact hA.trans (hb.mono (by omega))

set_option maxRecDepth 100000 in
theorem refOf_any (v : Value) (m : Man) (mo : Int) (w : World) (h2 : m.data.length ≤ 10000) (hr : ReadsM w v m) :
    Calls Tryz.prog 15 #[v, .int .i64 mo] w fun e w' => ∃ v', e = .returned v' ∧ Reads w' encStr v' (ofL m mo) ∧ Below w.heap.size w w' := by
  obtain ⟨i0, hi, hz0, hz1, hz2⟩ := info_partsS info_str
  obtain ⟨vi, vd, rfl, hri, hrd⟩ := hr
  obtain ⟨ad, cd, rfl⟩ := hrd.slice
  obtain ⟨n0, hn0⟩ : ∃ n0, w.heap.size = n0 := ⟨_, rfl⟩
  obtain ⟨W, hW⟩ : ∃ W, w.alloc (.cells #[.int .i64 m.seq, .int .i64 m.every, .int .i64 m.keep, vi, .slice ad m.data.length cd] 30) = W := ⟨_, rfl⟩
  have hA : Below n0 w W := by rw [← hW]; exact (Below.refl _ _).alloc (by omega) _
  have hWs : W.heap.size = n0 + 1 := by rw [← hW]; simp [hn0]
  have K : W.cell? ⟨n0, 4, none⟩ = some (.slice ad m.data.length cd) := by
    rw [← hW, ← hn0]
    exact World.cell?_alloc_new _ _ _ _
  have CC : ∀ w', Below (n0 + 1) W w' → w'.cell? ⟨n0, 4, none⟩ = some (.slice ad m.data.length cd) := fun w' h => (h.cell (p := ⟨n0, 4, none⟩) (by show n0 < n0 + 1; omega)).trans K
  clear K
  have hrdW := hrd.below hA (by omega)
  have h2' : (m.data.length : Int) ≤ 10000 := by omega
  go_enter Tryz.func15, Tryz.ntmps15
  go_wp2_with fail
  go_loopw [5, 6] (fun vo i wr => OfRel m mo (n0 + 1) W vo i wr) (fun _ i _ => m.data.length - (RowKit.intOf i).toNat)
  case atStart => exact ⟨0, Nat.zero_le _, rfl, World.ownsRow_nil _ _ _ _, Below.refl _ _⟩
  case round =>
    obtain ⟨j, hj, rfl, hown, hb⟩ := hrel
    have c4 := CC wr hb
    by_cases hlt : j < m.data.length
    · have hrd' := hrdW.below hb (by omega)
      obtain ⟨b, off, rfl, hbl, hc1, hc2⟩ := hrd'.elem hlt
      have HD : Hid (m.data.take (j + 1) = m.data.take j ++ [m.data[j]]) := Lib.hid (List.take_succ_eq_append_getElem hlt)
      generalize m.data[j] = d at hc1 hc2 HD
      have hxl : (((m.data.take j).filter fun d => d.m == mo).map (·.n)).length ≤ 20000 := by
        rw [List.length_map]
        have := List.length_filter_le (fun d : D2 => d.m == mo) (m.data.take j)
        rw [List.length_take] at this
        omega
      have HX : Hid (((m.data.take (j + 1)).filter fun d => d.m == mo).map (·.n) = (((m.data.take j).filter fun d => d.m == mo).map (·.n)) ++ (if d.m = mo then [d.n] else [])) := by
        rw [Hid, HD.out, List.filter_append, List.map_append]
        by_cases e : d.m = mo
        · simp [e]
        · simp [e]
      generalize ((m.data.take j).filter fun d => d.m == mo).map (·.n) = xs at hown hxl HX
      have hbs := hb.size
      clear HD hrd'
      by_cases e : d.m = mo
      · rw [if_pos e] at HX
        go_wp2_with (at_builtin; refine wpList_push rfl (.tmp 22) (.tmp 29) 22 rfl (n0 + 1) 9 i0 _ 16 Tryz.underlying22 hi hz0 hz1 hz2 rfl encStr xs d.n _ _ rfl rfl rfl hown rfl (by simp only [maxLen]; omega) (by omega) (by omega) ?_; intro v' w' hown' hb' _)
        go_roundw
        case rel => exact ⟨j + 1, hlt, by go_num, by rw [HX.out]; exact hown', hb.trans hb'⟩
        case measure => simp [RowKit.intOf]; omega
      · rw [if_neg e, List.append_nil] at HX
        go_wp2_with fail
        go_roundw
        case rel => exact ⟨j + 1, hlt, by go_num, by rw [HX.out]; exact hown, hb⟩
        case measure => simp [RowKit.intOf]; omega
    · have hjl : j = m.data.length := by omega
      subst hjl
      rw [List.take_length] at hown
      go_wp2_with fail
      go_ret
      refine ⟨_, rfl, Reads.of_owns hown, ?_⟩
      first | exact hA.trans (hb.mono (by omega)) | (rw [hn0]; exact hA.trans (hb.mono (by omega)))

def RMRel (L : List Int) (n0 : Nat) (w : World) (vo i : Value) (wr : World) : Prop :=
  ∃ j : Nat, j ≤ L.length ∧ i = .int .i64 (j : Int) ∧ Reads wr (Value.int .i64) vo (putAllS leI (L.take j) []) ∧ Below n0 w wr
set_option maxRecDepth 100000 in
theorem refMonths_any (v : Value) (m : Man) (w : World) (h2 : m.data.length ≤ 10000) (hr : ReadsM w v m) :
    Calls Tryz.prog 18 #[v] w fun e w' => ∃ v', e = .returned v' ∧ Reads w' (Value.int .i64) v' (monthsL m) ∧ Below w.heap.size w w' := by
  obtain ⟨vi, vd, rfl, hri, hrd⟩ := hr
  obtain ⟨ad, cd, rfl⟩ := hrd.slice
  obtain ⟨n0, hn0⟩ : ∃ n0, w.heap.size = n0 := ⟨_, rfl⟩
  obtain ⟨W, hW⟩ : ∃ W, w.alloc (.cells #[.int .i64 m.seq, .int .i64 m.every, .int .i64 m.keep, vi, .slice ad m.data.length cd] 30) = W := ⟨_, rfl⟩
  have hA : Below n0 w W := by rw [← hW]; exact (Below.refl _ _).alloc (by omega) _
  have hWs : W.heap.size = n0 + 1 := by rw [← hW]; simp [hn0]
  have K : W.cell? ⟨n0, 4, none⟩ = some (.slice ad m.data.length cd) := by
    rw [← hW, ← hn0]
    exact World.cell?_alloc_new _ _ _ _
  have CC : ∀ w', Below (n0 + 1) W w' → w'.cell? ⟨n0, 4, none⟩ = some (.slice ad m.data.length cd) := fun w' h => (h.cell (p := ⟨n0, 4, none⟩) (by show n0 < n0 + 1; omega)).trans K
  clear K
  have hrdW := hrd.below hA (by omega)
  have h2' : (m.data.length : Int) ≤ 10000 := by omega
  have hml : (m.data.map (·.m)).length = m.data.length := by simp
  go_enter Tryz.func18, Tryz.ntmps18
  go_wp2_with fail
  go_loopw [3, 4] (fun vo i wr => RMRel (m.data.map (·.m)) (n0 + 1) W vo i wr) (fun _ i _ => m.data.length - (RowKit.intOf i).toNat)
  case atStart => exact ⟨0, Nat.zero_le _, rfl, Reads.nil _ _, Below.refl _ _⟩
  case round =>
    obtain ⟨j, hj, rfl, hrv, hb⟩ := hrel
    rw [hml] at hj
    have c4 := CC wr hb
    by_cases hlt : j < m.data.length
    · have hrd' := hrdW.below hb (by omega)
      obtain ⟨b, off, rfl, hbl, hc1, hc2⟩ := hrd'.elem hlt
      have hbs := hb.size
      have HT := Lib.hid (show (m.data.map (·.m)).take (j + 1) = (m.data.map (·.m)).take j ++ [m.data[j].m] by
        have h3 : j < (m.data.map (·.m)).length := by omega
        rw [List.take_succ_eq_append_getElem h3, List.getElem_map])
      generalize m.data[j] = d at hc1 hc2 HT
      have hacc := putAllS_length leI ((m.data.map (·.m)).take j) []
      have htk : ((m.data.map (·.m)).take j).length ≤ 20000 := by rw [List.length_take]; omega
      have hp := refPutI_any u3 (putAllS leI ((m.data.map (·.m)).take j) []) d.m wr (by simp only [List.length_nil, Nat.add_zero] at hacc; omega) hrv
      clear hrd' hacc
      go_wp2_with fail
      refine hp.mono ?_
      rintro e w2 ⟨v2, rfl, hr2, hb2⟩
      go_wp2_with fail
      go_roundw
      case rel => exact ⟨j + 1, by omega, by go_num, by rw [HT.out, putAllS_snoc]; exact hr2, hb.trans (hb2.mono (by omega))⟩
      case measure => simp [RowKit.intOf]; omega
    · have hjl : j = (m.data.map (·.m)).length := by omega
      rw [hjl, List.take_length, putI_rising] at hrv
      have hjl' : j = m.data.length := by omega
      clear hjl hml
      subst hjl'
      go_wp2_with fail
      go_ret
      refine ⟨_, rfl, hrv, ?_⟩
      first | exact hA.trans (hb.mono (by omega)) | (rw [hn0]; exact hA.trans (hb.mono (by omega)))
end Go.Proofs.YtcjbgchhalilnaaGreatDoor
