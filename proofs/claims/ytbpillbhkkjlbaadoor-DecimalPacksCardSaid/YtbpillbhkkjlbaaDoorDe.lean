/- decimal.Pack: its walk. -/
import Derived.Test.YtbpillbhkkjlbaaDoorDd
import Derived.Deep.CutBlock
import Derived.WalkMore
import Derived.Test.YtbpillbhkkjlbaaDoorKd
import Derived.Deep.DeepCutAuto
namespace Go.Proofs.YtbpillbhkkjlbaaDoor
open Go Go.RowKit

abbrev vi64 (n : Int) : Value := .int .i64 n
theorem info_parts {P : Program} {t : TypeId} {z : Value} {s b : Nat} (h : (P.info? t).map (fun i => (i.zero, i.size, i.bytes)) = some (some z, s, b)) : ∃ i, P.info? t = some i ∧ i.zero = some z ∧ i.size = s ∧ i.bytes = b := by
  cases hi : P.info? t with
  | none => rw [hi] at h; cases h
  | some i => rw [hi] at h; simp only [Option.map_some, Option.some.injEq, Prod.mk.injEq] at h; exact ⟨i, rfl, h.1, h.2.1, h.2.2⟩
theorem info_i64c : (Tryd.prog.info? 2).map (fun i => (i.zero, i.size, i.bytes)) = some (some (.int .i64 0), 1, 8) := by kernel_rfl

theorem cells_alloc (w : World) (t : TypeId) (a : V3) : CellsAt (w.alloc (.cells #[.int .i64 a.m, .int .i64 a.e, .int .i64 a.s] t)) w.heap.size 0 a :=
  ⟨World.cell?_alloc_at _ _ _ _ rfl, World.cell?_alloc_at _ _ _ _ rfl, World.cell?_alloc_at _ _ _ _ rfl⟩

theorem packN_snoc {l : List V3} {k : Nat} {a : V3} (hlt : k < l.length) (hp : PackN l k) (hr : RightV a) (hn : ¬ NumV a) (hls : leastS (l.take (k + 1)) = leastS (l.take k)) (ha : l[k] = a) : PackN l (k + 1) := by
  intro b hb
  rw [hls]
  rw [List.take_succ_eq_append_getElem hlt, List.mem_append] at hb
  rcases hb with hb | hb
  · exact hp b hb
  · obtain rfl : b = l[k] := by simpa using hb
    rw [ha]
    exact ⟨hr, fun h => absurd h hn⟩

def PackR (l : List V3) (k : Nat) (_ : V3) : Prop := ∀ b ∈ l.take (k + 1), RightV b
def PackInner (l : List V3) (k : Nat) (E : Int) (w : World) (jv : Value) (wr : World) : Prop :=
  ∃ j : Nat, j ≤ k + 1 ∧ jv = .int .i64 (j : Int) ∧ (∀ i, ∀ h : i < l.length, i < j → NumV l[i] → FitsV l[i] E) ∧ Below w.heap.size w wr

def PackOut (l : List V3) (k : Nat) (E : Int) (w : World) (v i : Value) (wr : World) : Prop :=
  ∃ j : Nat, j ≤ k ∧ i = .int .i64 (j : Int) ∧ wr.ownsRow w.heap.size 2 1 v j (((l.take j).map (mantV E)).map vi64) ∧ Below w.heap.size w wr

theorem own_to {w : World} {base n : Nat} {v : Value} {xs ys : List Int} (h : w.ownsRow base 2 1 v xs.length (xs.map vi64)) (he : ys = xs) (hn : xs.length = n) : w.ownsRow base 2 1 v n (ys.map vi64) := by
  subst he
  rw [← hn]
  exact h

theorem owns_mono {w : World} {base base' : Nat} {e : TypeId} {size : Nat} {v : Value} {n : Nat} {xs : List Value} (h : w.ownsRow base e size v n xs) (hb : base' ≤ base) : w.ownsRow base' e size v n xs := by
  obtain ⟨h1, h2⟩ := h
  refine ⟨h1, ?_⟩
  rcases h2 with h2 | ⟨g, cap, cur, h2, h3, h4⟩
  · exact .inl h2
  · exact .inr ⟨g, cap, cur, h2, Nat.le_trans hb h3, h4⟩

def PackMid (l : List V3) (w : World) (le n : Value) (wc : World) : Prop :=
  ∃ k : Nat, PackIs l k ∧ le = .int .i64 (leastS (l.take k)).1 ∧ n = .int .i64 (k : Int) ∧ Below w.heap.size w wc
def PackOuter (l : List V3) (w : World) (le so n i : Value) (wr : World) : Prop :=
  ∃ k : Nat, k ≤ l.length ∧ PackN l k ∧ le = .int .i64 (leastS (l.take k)).1 ∧ so = .bool (leastS (l.take k)).2 ∧ n = .int .i64 (k : Int) ∧ i = .int .i64 (k : Int) ∧ Below w.heap.size w wr
def PackEnd (l : List V3) (w : World) (e : Ending) (w' : World) : Prop :=
  ∃ (k : Nat) (v : Value), PackIs l k ∧ e = .returned (.tuple #[v, .int .i64 (leastS (l.take k)).1, .int .i64 (k : Int)]) ∧ w'.ownsRow w.heap.size 2 1 v k ((mantL (l.take k)).map vi64) ∧ Below w.heap.size w w'

set_option maxRecDepth 100000 in
set_option maxHeartbeats 4000000 in
theorem Pack_any (v : Value) (l : List V3) (w : World) (hT : Tens w) (hok : ∀ a ∈ l, OkV a) (hlen : l.length ≤ 1000) (hr : ReadsV w v l) :
    Calls Tryd.prog 10 #[v] w (PackEnd l w) := by
  obtain ⟨i0, hi, hz0, hz1, hz2⟩ := info_parts info_i64c
  obtain ⟨ad, cap, rfl⟩ := hr.slice
  obtain ⟨hc1, hc2⟩ := hr.len_cap
  simp only [maxLen] at hc2
  go_enter Tryd.func10, Tryd.ntmps10
  go_wp2_with fail
  go_step3
  go_wp2_with fail
  go_step3
  go_upto_block 0 with fail
  go_cut [5, 7] (fun le n wc => PackMid l w le n wc)
  case first =>
    go_wp2_with fail
    go_loopw [5, 6, 7, 18] (fun le so n i wr => PackOuter l w le so n i wr) (fun _ _ _ i _ => l.length - (intOf i).toNat)
    case atStart => exact ⟨0, Nat.zero_le _, fun a ha => by simp at ha, rfl, rfl, rfl, rfl, Below.refl _ _⟩
    case round =>
      obtain ⟨k, hk, hpk, rfl, rfl, rfl, rfl, hbel⟩ := hrel
      by_cases hlt : k < l.length
      · obtain ⟨b, off, rfl, hbs, hcell⟩ := (hr.below hbel (Nat.le_refl _)).elem hlt
        have hoka := hok l[k] (List.getElem_mem hlt)
        have hsn : leastS (l.take (k + 1)) = stepS (leastS (l.take k)) l[k] := by rw [List.take_succ_eq_append_getElem hlt, leastS_snoc]
        have HSN := Lib.hid hsn
        clear hsn
        generalize ha : l[k] = a at hcell hoka HSN
        have hmem : a ∈ l.take (k + 1) := by rw [List.take_succ_eq_append_getElem hlt, ha]; simp
        have HA := Lib.hid ha
        clear ha
        have hbA : Below wr.heap.size wr (wr.alloc (.cells #[.int .i64 a.m, .int .i64 a.e, .int .i64 a.s] 36)) := (Below.refl _ _).alloc (Nat.le_refl _) _
        have hcA := cells_alloc wr 36 a
        have hszA : wr.heap.size < (wr.alloc (.cells #[.int .i64 a.m, .int .i64 a.e, .int .i64 a.s] 36)).heap.size := by simp
        obtain ⟨hq1, hq2, hq3⟩ := hcell
        have hRw := Right_any a (wr.alloc (.cells #[.int .i64 a.m, .int .i64 a.e, .int .i64 a.s] 36)) hoka
        unfold vv at hRw
        go_wp2_with fail
        refine hRw.mono ?_
        rintro e w2 ⟨t, rfl, ht, hb2⟩
        clear hRw hq1 hq2 hq3
        have hB2 := hbA.trans (hb2.mono hbA.size)
        have hBel2 := hbel.trans (hB2.mono hbel.size)
        have hc2 := hcA.below hb2 hszA
        have hsz2 : wr.heap.size < w2.heap.size := Nat.lt_of_lt_of_le hszA hb2.size
        clear hcA hbA hb2 hB2 hszA
        generalize wr.heap.size = pa at *
        obtain ⟨hp1, hp2, hp3⟩ := hc2
        rw [Nat.zero_add] at hp2 hp3
        cases t with
        | false =>
          have hno : ¬ RightV a := fun h => by have := ht.2 h; cases this
          clear ht
          go_wp2_with fail
          go_meet
          case rel => exact ⟨k, ⟨hk, hpk, fun _ h => hno (h a hmem).1⟩, rfl, rfl, hBel2⟩
        | true =>
          have hyes : Hid (RightV a) := ht.1 rfl
          clear ht
          have hNu := number_any a w2
          unfold vv at hNu
          go_wp2_with fail
          refine hNu.mono ?_
          rintro e w3 ⟨t, rfl, ht, hb3⟩
          have hBel3 := hBel2.trans (hb3.mono hBel2.size)
          have hp2' := (hb3.cell (p := ⟨pa, 1, none⟩) hsz2).trans hp2
          clear hNu hp1 hp2 hp3 hb3 hsz2 hBel2
          cases t with
          | false =>
            have hno : ¬ NumV a := fun h => by have := ht.2 h; cases this
            clear ht
            have hls : Hid (leastS (l.take (k + 1)) = leastS (l.take k)) := by rw [Hid, HSN.out, stepS, if_neg hno]
            go_wp2_with fail
            go_roundw
            case rel =>
              refine ⟨k + 1, hlt, ?_, by rw [hls.out], by rw [hls.out], by go_num, by go_num, hBel3⟩
              exact packN_snoc hlt hpk hyes.out hno hls.out HA.out
            case measure => simp [intOf]; omega
          | true =>
            have hnu : Hid (NumV a) := ht.1 rfl
            clear ht
            obtain ⟨E, hE⟩ : ∃ E, (leastS (l.take (k + 1))).1 = E := ⟨_, rfl⟩
            have HE := Lib.hid hE
            have hE2 : Hid (E = if (leastS (l.take k)).2 then min a.e (leastS (l.take k)).1 else a.e) := by rw [Hid, ← HE.out, HSN.out, stepS, if_pos hnu.out]
            have hE3 : Hid ((leastS (l.take (k + 1))).2 = true) := by rw [Hid, HSN.out, stepS, if_pos hnu.out]
            clear hE
            go_upto_if 32 with fail
            go_cut [6, 10] from 20 to 57 (fun _ e wx => e = .int .i64 E ∧ wx = w3)
            case first =>
              go_wp2_with fail
              all_goals
                go_meet
                case rel => exact ⟨congrArg _ (by rw [hE2.out]; simp_all <;> omega), rfl⟩
            case rest =>
              obtain ⟨rfl, rfl⟩ := hcut
              clear hp2' hbs
              have hr3 := hr.below hBel3 (Nat.le_refl _)
              have hT3 := hT.below hBel3 (Nat.le_refl _)
              have hrE : Hid (∀ b ∈ l.take k, RightV b) := fun b hb => (hpk b hb).1
              have hER : PackR l k a → -300 ≤ E ∧ E ≤ 290 := fun h => by
                have := least_range (l := l.take (k + 1)) h
                rw [HE.out] at this
                exact this
              have hpr : PackR l k a := fun b hb => by
                rw [List.take_succ_eq_append_getElem hlt, List.mem_append] at hb
                rcases hb with hb | hb
                · exact hrE.out b hb
                · obtain rfl : b = l[k] := by simpa using hb
                  rw [HA.out]
                  exact hyes.out
              have hEr := hER hpr
              clear hER hrE
              go_wp2_with fail
              go_loopw [41] (fun j wq => PackInner l k E wc j wq) (fun j _ => k + 1 - (intOf j).toNat)
              case atStart => exact ⟨0, by omega, rfl, fun i _ hi => absurd hi (Nat.not_lt_zero _), Below.refl _ _⟩
              case round =>
                obtain ⟨j, hj, rfl, hall, hbelq⟩ := hrel
                by_cases hjk : j < k + 1
                · have hjl : j < l.length := by omega
                  obtain ⟨b', off', he, hbs, hcell⟩ := (hr3.below hbelq (Nat.le_refl _)).elem hjl
                  injection he with he
                  injection he with he1 he2
                  subst he1 he2
                  have hokj := hok l[j] (List.getElem_mem hjl)
                  have hrj : Hid (RightV l[j]) := hpr _ (List.mem_take_iff_getElem.2 ⟨j, by omega, rfl⟩)
                  have hjm : Hid (l[j] ∈ l.take (k + 1)) := List.mem_take_iff_getElem.2 ⟨j, by omega, rfl⟩
                  generalize hc : l[j] = c at hcell hokj hrj hjm
                  have HC := Lib.hid hc
                  clear hc
                  obtain ⟨hq1, hq2, hq3⟩ := hcell
                  have hbA : Below wr.heap.size wr (wr.alloc (.cells #[.int .i64 c.m, .int .i64 c.e, .int .i64 c.s] 36)) := (Below.refl _ _).alloc (Nat.le_refl _) _
                  have hcA := cells_alloc wr 36 c
                  have hszA : wr.heap.size < (wr.alloc (.cells #[.int .i64 c.m, .int .i64 c.e, .int .i64 c.s] 36)).heap.size := by simp
                  have hNu := number_any c (wr.alloc (.cells #[.int .i64 c.m, .int .i64 c.e, .int .i64 c.s] 36))
                  unfold vv at hNu
                  go_wp2_with fail
                  refine hNu.mono ?_
                  rintro e w4 ⟨t, rfl, ht, hb4⟩
                  have hB4 := hbA.trans (hb4.mono hbA.size)
                  have hBel4 := hbelq.trans (hB4.mono hbelq.size)
                  have hc4 := hcA.below hb4 hszA
                  have hT4 := hT3.below hBel4 (Nat.le_refl _)
                  clear hNu hq1 hq2 hq3 hcA hbA hb4 hB4 hszA
                  generalize wr.heap.size = pc at *
                  obtain ⟨hp1, hp2, hp3⟩ := hc4
                  rw [Nat.zero_add] at hp2 hp3
                  cases t with
                  | false =>
                    have hno : ¬ NumV c := fun h => by have := ht.2 h; cases this
                    clear ht
                    go_wp2_with fail
                    go_roundw
                    case rel =>
                      refine ⟨j + 1, by omega, by go_num, fun i hi hij hn => ?_, hBel4⟩
                      by_cases h' : i = j
                      · subst h'; rw [HC.out] at hn; exact absurd hn hno
                      · exact hall i hi (by omega) hn
                    case measure => simp [intOf]; omega
                  | true =>
                    have hnuc : Hid (NumV c) := ht.1 rfl
                    clear ht
                    have hnb := hrj.out.num hnuc.out
                    have hFi := fits_any c E w4 hT4 ⟨hnb.1, hnb.2.1⟩ hnb.2.2 hEr
                    unfold vv at hFi
                    go_wp2_with fail
                    refine hFi.mono ?_
                    rintro e w5 ⟨t, rfl, ht, hb5⟩
                    have hBel5 := hBel4.trans (hb5.mono hBel4.size)
                    clear hFi hp1 hp2 hp3 hb5 hBel4 hT4 hnb
                    cases t with
                    | false =>
                      have hno : ¬ FitsV c E := fun h => by have := ht.2 h; cases this
                      clear ht
                      have hB05 := hBel3.trans (hBel5.mono hBel3.size)
                      go_wp2_with fail
                      go_meet
                      case rel =>
                        refine ⟨k, ⟨hk, hpk, fun _ h => hno ?_⟩, rfl, rfl, hB05⟩
                        have := (h c hjm.out).2 hnuc.out
                        rw [HE.out] at this
                        exact this
                    | true =>
                      have hyc : Hid (FitsV c E) := ht.1 rfl
                      clear ht
                      go_wp2_with fail
                      go_roundw
                      case rel =>
                        refine ⟨j + 1, by omega, by go_num, fun i hi hij hn => ?_, hBel5⟩
                        by_cases h' : i = j
                        · subst h'; rw [HC.out]; exact hyc.out
                        · exact hall i hi (by omega) hn
                      case measure => simp [intOf]; omega
                · have hB05 := hBel3.trans (hbelq.mono hBel3.size)
                  have hpk1 : PackN l (k + 1) := by
                    intro b hb
                    refine ⟨hpr b hb, fun hn => ?_⟩
                    rw [HE.out]
                    obtain ⟨i, hi, rfl⟩ := List.mem_take_iff_getElem.1 hb
                    exact hall i (by omega) (by omega) hn
                  go_wp2_with fail
                  go_roundw
                  case rel => exact ⟨k + 1, hlt, hpk1, by rw [HE.out], by rw [hE3.out], by go_num, by go_num, hB05⟩
                  case measure => simp [intOf]; omega
      · have hkl : k = l.length := by omega
        subst hkl
        go_wp2_with fail
        go_meet
        case rel => exact ⟨l.length, ⟨Nat.le_refl _, hpk, fun h => absurd h (Nat.lt_irrefl _)⟩, rfl, rfl, hbel⟩
  case rest =>
    obtain ⟨k, hpi, rfl, rfl, hbel⟩ := hcut
    have hkl := hpi.1
    have hsz := hbel.size
    obtain ⟨E, hE⟩ : ∃ E, (leastS (l.take k)).1 = E := ⟨_, rfl⟩
    have hpn : ∀ a ∈ l.take k, RightV a ∧ (NumV a → FitsV a E) := by rw [← hE]; exact hpi.2.1
    have hrc := hr.below hbel (Nat.le_refl _)
    have hTc := hT.below hbel (Nat.le_refl _)
    have HE := Lib.hid hE
    rw [hE]
    clear hE
    go_wp2_with fail
    go_loopw [13, 62] (fun v i wr => PackOut l k E wc v i wr) (fun _ i _ => k - (intOf i).toNat)
    case atStart => exact ⟨0, Nat.zero_le _, rfl, World.ownsRow_nil _ _ _ _, Below.refl _ _⟩
    case round =>
      obtain ⟨j, hj, rfl, hown, hbelq⟩ := hrel
      by_cases hlt : j < k
      · have hjl : j < l.length := by omega
        obtain ⟨b, off, rfl, hbs, hcell⟩ := (hrc.below hbelq (Nat.le_refl _)).elem hjl
        have hTq := hTc.below hbelq (Nat.le_refl _)
        have hka := hpn l[j] (List.mem_take_iff_getElem.2 ⟨j, by omega, rfl⟩)
        have htk : Hid ((l.take (j + 1)).map (mantV E) = (l.take j).map (mantV E) ++ [mantV E l[j]]) := by rw [Hid, List.take_succ_eq_append_getElem hjl, List.map_append]; rfl
        have hlen' : ((l.take j).map (mantV E)).length = j := by rw [List.length_map, List.length_take]; omega
        generalize l[j] = a at hcell hka htk
        have hi64 := mantV_i64 hka
        obtain ⟨hq1, hq2, hq3⟩ := hcell
        have hB := hbelq.size
        generalize (l.take j).map (mantV E) = xs at hown htk hlen'
        rw [← hlen'] at hown
        have HL := Lib.hid hlen'
        have hxl : xs.length ≤ 1000 := by omega
        clear hlen'
        simp only [I64] at hi64
        by_cases hs : a.s = 0
        · by_cases hm : a.m = 0
          · have hmv : mantV E a = 0 := by rw [mantV, if_pos hs, if_pos hm]
            rw [hmv] at htk
            clear hi64 hmv hka
            go_wp2_with (at_builtin; refine wpList_push rfl (.tmp 92) (.tmp 93) 24 rfl wc.heap.size 2 i0 _ 8 Tryd.underlying24 hi hz0 hz1 hz2 rfl vi64 xs (0) _ _ rfl rfl rfl (hown.alloc _) (congrArg (fun n => Value.slice (some ⟨n, 0, none⟩) 1 1) (by simp)) (by simp only [maxLen]; omega) (by omega) (by simp; omega) ?_; intro v' w' hown' hb' _)
            go_roundw
            case rel => exact ⟨j + 1, hlt, by go_num, own_to hown' htk.out (by rw [List.length_append, HL.out]; rfl), (hbelq.alloc hB _).trans hb'⟩
            case measure => simp [intOf]; omega
          · obtain ⟨hf1, hf2, hf3⟩ := hka.2 ⟨hs, hm⟩
            have hmb := mantV_num hs hka
            obtain ⟨d, hd⟩ : ∃ d : Nat, a.e - E = (d : Int) := ⟨(a.e - E).toNat, by omega⟩
            have hct := hTq.2 d (by omega)
            have hd18 : (d : Int) < 19 := by omega
            have hB00 := hTq.1
            obtain ⟨_, _, hnb3, hnb4⟩ := hka.1.num ⟨hs, hm⟩
            have hd0 : (0 : Int) ≤ d := by omega
            have hmv : mantV E a = a.m * ((10 ^ d : Nat) : Int) := by rw [mantV, if_pos hs, if_neg hm, hd, Int.toNat_natCast]
            rw [hmv] at htk hmb hi64
            generalize ((10 ^ d : Nat) : Int) = p at hct htk hmb hi64
            clear hmv hka
            go_wp2_with fail
            have hw1 : IntKind.i64.wrap (d : Int) = d := by rw [IntKind.wrap_i64]; omega
            have hw2 : IntKind.i64.wrap (a.m * p) = a.m * p := by rw [IntKind.wrap_i64]; omega
            obtain ⟨W, hW⟩ : ∃ W, W = wr.alloc (.cells #[.int .i64 a.m, .int .i64 a.e, .int .i64 0] 36) := ⟨_, rfl⟩
            have hcW := cells_alloc wr 36 a
            rw [hs, ← hW] at hcW
            have hBW : Below wc.heap.size wc W := by rw [hW]; exact hbelq.alloc hB _
            have hownW := hown.alloc (.cells #[.int .i64 a.m, .int .i64 a.e, .int .i64 0] 36)
            have htW : W.cell? ⟨0, d, none⟩ = some (.int .i64 p) := by rw [hW]; exact (((Below.refl _ wr).alloc (Nat.le_refl _) _).cell (p := ⟨0, d, none⟩) hB00).trans hct
            have hpW : wr.heap.size < W.heap.size := by rw [hW]; simp
            rw [← hW] at hownW ⊢
            clear hown hct hq1 hq2 hq3 hr hrc hf3 hW
            generalize wr.heap.size = pa at *
            obtain ⟨hc0, hc1', _⟩ := hcW
            have h0W : 0 < W.heap.size := by omega
            refine region_tail 11 (by kernel_rfl) (fun i => ([Spec.is u13, Spec.is (.pointer (some ⟨pa, 0, none⟩)), Spec.is (.int .i64 a.m), Spec.is (.pointer (some ⟨pa, 1, none⟩)), Spec.is (.int .i64 a.e), Spec.is (.int .i64 E), Spec.is (.int .i64 (d : Int)), Spec.is (.pointer (some ⟨0, d, none⟩)), Spec.is (.int .i64 p), Spec.is (.int .i64 (a.m * p)), Spec.rd vi64 [a.m * p]] : List Spec).getD i Spec.any) (by kernel_rfl) (by kernel_rfl) (opsN_all ?_) ?_
            · refine ⟨?_, ?_, ?_, ?_, ?_, ?_, ?_, ?_, ?_, ?_, ?_, trivial⟩
              · intro ho a w hb hd hold
                have x13 : a.tmps.getD 13 undef = u13 := hold 13 rfl
                exact ob_is ho (met_none rfl) (by go_simp) rfl
              · intro ho a w hb hd hold
                have x15 : a.tmps.getD 15 undef = .pointer (some ⟨pa, 0, none⟩) := hold 15 rfl
                exact ob_is ho (met_none rfl) (by go_simp) rfl
              · intro ho a' w hb hd hold
                have x67 : a'.tmps.getD 67 undef = .pointer (some ⟨pa, 0, none⟩) := hd 1 rfl
                have c0 : w.cell? ⟨pa, 0, none⟩ = some (.int .i64 a.m) := (hb.cell (p := ⟨pa, 0, none⟩) hpW).trans hc0
                exact ob_is ho (met_none rfl) (by go_simp) rfl
              · intro ho a w hb hd hold
                have x15 : a.tmps.getD 15 undef = .pointer (some ⟨pa, 0, none⟩) := hold 15 rfl
                exact ob_is ho (met_none rfl) (by go_simp) rfl
              · intro ho a' w hb hd hold
                have x69 : a'.tmps.getD 69 undef = .pointer (some ⟨pa, 1, none⟩) := hd 3 rfl
                have c0 : w.cell? ⟨pa, 1, none⟩ = some (.int .i64 a.e) := (hb.cell (p := ⟨pa, 1, none⟩) hpW).trans hc1'
                exact ob_is ho (met_none rfl) (by go_simp) rfl
              · intro ho a w hb hd hold
                have x5 : a.tmps.getD 5 undef = .int .i64 E := hold 5 rfl
                exact ob_is ho (met_none rfl) (by go_simp) rfl
              · intro ho a' w hb hdd hold
                have x70 : a'.tmps.getD 70 undef = .int .i64 a.e := hdd 4 rfl
                have x71 : a'.tmps.getD 71 undef = .int .i64 E := hdd 5 rfl
                exact ob_is ho (met_none rfl) (by go_simp) rfl
              · intro ho a' w hb hdd hold
                have x72 : a'.tmps.getD 72 undef = .int .i64 (d : Int) := hdd 6 rfl
                exact ob_is ho (met_none rfl) (by go_simp) rfl
              · intro ho a' w hb hdd hold
                have x73 : a'.tmps.getD 73 undef = .pointer (some ⟨0, d, none⟩) := hdd 7 rfl
                have c0 : w.cell? ⟨0, d, none⟩ = some (.int .i64 p) := (hb.cell (p := ⟨0, d, none⟩) h0W).trans htW
                exact ob_is ho (met_none rfl) (by go_simp) rfl
              · intro ho a' w hb hdd hold
                have x68 : a'.tmps.getD 68 undef = .int .i64 a.m := hdd 2 rfl
                have x74 : a'.tmps.getD 74 undef = .int .i64 p := hdd 8 rfl
                exact ob_is ho (met_none rfl) (by go_simp) rfl
              · intro ho a' w hb hdd hold
                have x75 : a'.tmps.getD 75 undef = .int .i64 (a.m * p) := hdd 9 rfl
                have x75' : (a'.tmps[75]?).getD undef = .int .i64 (a.m * p) := by simpa using x75
                exact ob_val (v := .slice (some ⟨w.heap.size, 0, none⟩) 1 1) (w' := w.alloc (.cells #[.int .i64 (a.m * p)] 2)) ho (met_none rfl) (by go_simp) ((Below.refl _ _).alloc (Nat.le_refl _) _) (Reads.built w _ _ 1 vi64 [a.m * p] rfl rfl (by simp [maxLen]))
            · intro a' w' hb hS hold hsz hdf
              have x66 : a'.tmps.getD 66 undef = u13 := hS 0 _ (by decide) rfl
              have x76 : Reads w' vi64 (a'.tmps.getD 76 undef) [a.m * p] := hS 10 _ (by decide) rfl
              have hown' := owns_below hownW hb
              have hBel' := hBW.trans (hb.mono hBW.size)
              have hBsz := hBel'.size
              obtain ⟨g, hg⟩ : ∃ g : Nat → Value, ∀ t, a'.tmps.getD t undef = g t := ⟨_, fun _ => rfl⟩
              have hfr := frame_eq 66 77 g hsz hdf (by decide) (of_decide_eq_true (by kernel_rfl)) (fun t ht => hold t (isDstN_out (lo := 66) (hi := 77) (by kernel_rfl) ht)) (fun t _ _ => hg t)
              rw [hg] at x66 x76
              clear hg hS hold hsz hdf hb hc0 hc1' htW hownW hBW
              subst hfr
              simp only [List.take_succ_cons, List.take_zero, List.drop_succ_cons, List.drop_zero, List.range', List.map_cons, List.map_nil, List.cons_append, List.nil_append, Nat.reduceAdd, Nat.reduceSub]
              generalize g 66 = y66 at x66
              generalize g 76 = y76 at x76
              subst x66
              go_wp2_with (at_builtin; refine wpList_extend rfl (.tmp 66) (.tmp 76) 24 rfl wc.heap.size 2 i0 _ 8 Tryd.underlying24 hi hz0 hz1 hz2 rfl vi64 xs [a.m * p] _ _ (fun _ => rfl) rfl hown' rfl x76 (by simp only [maxLen, List.length_cons, List.length_nil]; omega) (by simp only [List.length_cons, List.length_nil]; omega) hBsz ?_; intro v' w2 hown2 hb2 _)
              go_roundw
              case rel => exact ⟨j + 1, hlt, by go_num, own_to hown2 htk.out (by rw [List.length_append, HL.out]; rfl), hBel'.trans hb2⟩
              case measure => simp [intOf]; omega
        · have hmv : mantV E a = -9223372036854775808 + a.s := mantV_kind hs
          rw [hmv] at htk hi64
          clear hmv hka
          go_wp2_with (at_builtin; refine wpList_push rfl (.tmp 82) (.tmp 86) 24 rfl wc.heap.size 2 i0 _ 8 Tryd.underlying24 hi hz0 hz1 hz2 rfl vi64 xs (-9223372036854775808 + a.s) _ _ rfl rfl rfl (hown.alloc _) (congrArg (fun n => Value.slice (some ⟨n, 0, none⟩) 1 1) (by simp)) (by simp only [maxLen]; omega) (by omega) (by simp; omega) ?_; intro v' w' hown' hb' _)
          go_roundw
          case rel => exact ⟨j + 1, hlt, by go_num, own_to hown' htk.out (by rw [List.length_append, HL.out]; rfl), (hbelq.alloc hB _).trans hb'⟩
          case measure => simp [intOf]; omega
      · have hjk : j = k := by omega
        subst hjk
        have hlm : (mantL (l.take j)) = (l.take j).map (mantV E) := by rw [mantL, HE.out]
        have HM := Lib.hid hlm
        have hB0 := hbel.trans (hbelq.mono hbel.size)
        clear hlm
        go_wp2_with fail
        try rw [Exit.noGoto_ret]
        go_ret3
        exact ⟨j, _, hpi, by rw [HE.out]; rfl, by rw [HM.out]; exact owns_mono hown hsz, hB0⟩
end Go.Proofs.YtbpillbhkkjlbaaDoor
