/- DecimalAll: the walk. -/
import Derived.Test.YtbpillbhkkjlbaaDoorDl
namespace Go.Proofs.YtbpillbhkkjlbaaDoor
open Go Go.RowKit

def AllRight (l : List V3) (w : World) (i : Value) (wr : World) : Prop :=
  ∃ j : Nat, j ≤ l.length ∧ i = .int .i64 (j : Int) ∧ (∀ a ∈ l.take j, RightV a) ∧ Below w.heap.size w wr
def lenV : Value → Nat
  | .slice _ n _ => n
  | _ => 0
def AllRel (l : List V3) (w : World) (all rest : Value) (wr : World) : Prop :=
  ∃ j : Nat, j ≤ l.length ∧ wr.ownsRow w.heap.size 36 3 all (l.take j).length (flatV (l.take j)) ∧ ReadsV w rest (l.drop j) ∧ Below w.heap.size w wr

theorem pack_pos {l : List V3} (hr : ∀ a ∈ l, RightV a) (h0 : 0 < l.length) {k : Nat} (hk : PackIs l k) : 1 ≤ k := by
  rcases Nat.eq_zero_or_pos k with h | h
  · subst h
    refine absurd ?_ (hk.2.2 h0)
    match l, h0 with
    | a :: r, _ =>
      intro b hb
      obtain rfl : b = a := by simpa using hb
      refine ⟨hr b (by simp), fun hn => ?_⟩
      have : (leastS ([b] : List V3)).1 = b.e := by simp [leastS, stepS, hn]
      rw [show (b :: r).take (0 + 1) = [b] from rfl, this]
      exact fits_self (hr b (by simp)) hn
  · exact h

theorem own_moved {w : World} {base : Nat} {v : Value} {xs ys : List V3} (h : w.ownsRow base 36 3 v xs.length (flatV xs)) (he : xs = ys) : w.ownsRow base 36 3 v ys.length (flatV ys) := by
  subst he
  exact h

set_option maxRecDepth 100000 in
set_option maxHeartbeats 2000000 in
theorem all_walk (v : Value) (l : List V3) (w : World) (hT : Tens w) (hok : ∀ a ∈ l, OkV a) (hr : ReadsV w v l) :
    Calls Tryd.prog 6 #[v] w (TrueEnd w) := by
  obtain ⟨i0, hi, hz0, hz1, hz2⟩ := info_parts info_V
  have hrv := hr
  obtain ⟨ad, cap, hv⟩ := hr.slice
  subst hv
  by_cases hbig : 60 < l.length
  · go_enter Tryd.func6, Tryd.ntmps6
    go_wp2_with fail
    refine (awake_any w hT).mono ?_
    rintro r w1 ⟨rfl, hb1⟩
    go_wp2_with fail
    go_ret
    exact ⟨rfl, hb1⟩
  go_enter Tryd.func6, Tryd.ntmps6
  go_wp2_with fail
  refine (awake_any w hT).mono ?_
  rintro r w1 ⟨rfl, hb1⟩
  go_wp2_with fail
  go_loopw [4] (fun i wr => AllRight l w i wr) (fun i _ => l.length - (intOf i).toNat)
  case atStart => exact ⟨0, Nat.zero_le _, rfl, fun a ha => by simp at ha, hb1⟩
  case round =>
    obtain ⟨j, hj, rfl, hall, hbel⟩ := hrel
    by_cases hlt : j < l.length
    · obtain ⟨b, off, rfl, hbs, hcell⟩ := (hr.below hbel (Nat.le_refl _)).elem hlt
      have hoka := hok l[j] (List.getElem_mem hlt)
      have hsn : Hid (∀ a ∈ l.take (j + 1), a ∈ l.take j ∨ a = l[j]) := Lib.hid fun a ha => by
        rw [List.take_succ_eq_append_getElem hlt, List.mem_append] at ha
        rcases ha with h | h
        · exact .inl h
        · exact .inr (by simpa using h)
      generalize l[j] = a at hcell hoka hsn
      obtain ⟨x1, x2, x3⟩ := hcell
      have hR := refRight_any a wr hoka
      unfold vv at hR
      go_wp2_with fail
      refine hR.mono ?_
      rintro r w2 ⟨t, rfl, ht, hb2⟩
      have hb02 := hbel.trans (hb2.mono hbel.size)
      clear hR x1 x2 x3
      cases t with
      | false =>
        clear ht
        go_wp2_with fail
        go_ret
        exact ⟨rfl, hb02⟩
      | true =>
        have hyes := Lib.hid (ht.1 rfl)
        clear ht
        go_wp2_with fail
        go_roundw
        case rel => exact ⟨j + 1, hlt, by go_num, fun c hc => (hsn.out c hc).elim (hall c) (fun h => h ▸ hyes.out), hb02⟩
        case measure => simp [intOf]; omega
    · have hjl : j = l.length := by omega
      subst hjl
      rw [List.take_length] at hall
      have hrw := hr.below hbel (Nat.le_refl _)
      have hTw := hT.below hbel (Nat.le_refl _)
      have hl60 : l.length ≤ 60 := by omega
      clear hb1 hr hrv
      generalize wr = W0 at *
      go_wp2_with fail
      go_loopw [5, 6] (fun all rest w' => AllRel l W0 all rest w') (fun _ rest _ => lenV rest)
      case atStart => exact ⟨0, Nat.zero_le _, World.ownsRow_nil _ _ _ _, hrw, Below.refl _ _⟩
      case round =>
        obtain ⟨j, hj, hown, hrest, hbel2⟩ := hrel
        have hdl : (l.drop j).length = l.length - j := by rw [List.length_drop]
        by_cases hlt2 : j < l.length
        · have hrr : ∀ a ∈ l.drop j, RightV a := fun a ha => hall a (List.mem_of_mem_drop ha)
          have hokr : ∀ a ∈ l.drop j, OkV a := fun a ha => hok a (List.mem_of_mem_drop ha)
          obtain ⟨ar, cr, rfl⟩ := hrest.slice
          have hrestW := hrest
          have hrest := hrestW.below hbel2 (Nat.le_refl _)
          have hTq := hTw.below hbel2 (Nat.le_refl _)
          have hP := Pack_any _ (l.drop j) _ hTq hokr (by omega) hrest
          have hpos : Hid (∀ k, PackIs (l.drop j) k → 1 ≤ k) := Lib.hid fun k hk => pack_pos hrr (by omega) (k := k) hk
          have HD := Lib.hid hdl
          have hR0 : 0 < (l.drop j).length := by omega
          have hR60 : (l.drop j).length ≤ 60 := by omega
          clear hdl hall hok
          have htd : Hid (∀ k, k ≤ (l.drop j).length → l.take (j + k) = l.take j ++ (l.drop j).take k ∧ l.drop (j + k) = (l.drop j).drop k) :=
            Lib.hid fun k _ => ⟨by rw [List.take_add], by rw [List.drop_drop]⟩
          have htj : (l.take j).length ≤ 60 := by rw [List.length_take]; omega
          generalize l.drop j = R at *
          generalize l.take j = D at *
          have hB2 := hbel2.size
          clear hrr hokr
          go_wp2_with fail
          refine hP.mono ?_
          rintro r w2 ⟨k, v2, hk, rfl, hown2, hb2⟩
          have hk1 := hpos.out k hk
          have hkl := hk.1
          have hp := hk.2.1
          have htl : (R.take k).length = k := by rw [List.length_take]; omega
          have hub := unpack_back hp
          have hmi := mantL_i64 hp
          have hml := mantL_length (R.take k)
          rw [htl] at hml
          have her := least_range (l := R.take k) fun a ha => (hp a ha).1
          have hown2' : w2.ownsRow wr.heap.size 2 1 v2 (mantL (R.take k)).length ((mantL (R.take k)).map vi64) := by rw [hml]; exact hown2
          have hr2 := Reads.of_owns hown2'
          obtain ⟨a2, c2, rfl⟩ := owns_slice hown2
          have hb02 := hbel2.trans (hb2.mono hB2)
          have hU := Unpack_any _ (mantL (R.take k)) (leastS (R.take k)).1 w2 (hTw.below hb02 (Nat.le_refl _)) hmi (by simp only [I64]; omega) (by omega) hr2
          rw [hub] at hU
          have hownD := owns_from hown hb2
          clear hown2 hown2' hr2 hb2 hub hmi hml hk hp hP hpos hown hrest hbel2
          generalize (leastS (R.take k)).1 = E at *
          go_wp2_with fail
          refine hU.mono ?_
          rintro r w3 ⟨v3, rfl, hown3, hb3⟩
          have hB02 := hb02.size
          have hb03 := hb02.trans (hb3.mono hB02)
          have hownD3 := owns_from hownD hb3
          have hr3 : ReadsV w3 v3 (R.take k) := ReadsV.of_owns hown3
          have hB03 := hb03.size
          have htk60 : (R.take k).length ≤ 60 := by omega
          clear hU hown3 hb3 hb02 hB02 hownD
          go_wp2_with (at_builtin; refine wpList_extendV rfl (.tmp 56) (.tmp 57) 22 rfl W0.heap.size 36 i0 _ 24 Tryd.underlying22 hi hz0 hz1 hz2 rfl D (R.take k) _ _ rfl hownD3 rfl hr3 (by simp only [maxLen]; omega) (by omega) hB03 ?_; intro v' w4 hown4 hb4)
          go_roundw
          case rel =>
            obtain ⟨t1, t2⟩ := htd.out k hkl
            refine ⟨j + k, by have := HD.out; omega, own_moved hown4 t1.symm, ?_, hb03.trans hb4⟩
            rw [t2]
            have := hrestW.stretch k R.length hkl (Nat.le_refl _)
            rw [List.take_length] at this
            exact this
          case measure => simp only [lenV]; omega
        · have hjl : j = l.length := by omega
          subst hjl
          rw [List.drop_length] at hrest
          rw [List.take_length] at hown
          obtain ⟨ar, cr, rfl⟩ := hrest.slice
          have hb02 := hbel.trans (hbel2.mono hbel.size)
          have hS := SameV_true _ _ l wr (ReadsV.of_owns hown) (hrw.below hbel2 (Nat.le_refl _))
          clear hown hrest hrw
          go_wp2_with fail
          refine hS.mono ?_
          rintro r w4 ⟨rfl, m, rfl⟩
          have hb04 := Below.drewN hb02 m
          clear hS
          go_wp2_with fail
          go_ret
          exact ⟨rfl, hb04⟩
end Go.Proofs.YtbpillbhkkjlbaaDoor
