/- CodecMoves: the walk. -/
import Derived.Test.YtgegbfhjophdfaaCk
import Derived.Test.YtgegbfhjophdfaaCi
import Derived.Test.YtgegbfhjophdfaaVh
namespace Go.Proofs.Ytgegbfhjophdfaa
open Go Go.RowKit

theorem asL_cons {kind : Int} {l t : List Int} {a : Int} (hk : kindL kind l = some (a :: t)) (hl : l.length ≤ 4096) :
    ∃ x, asL kind l = some x ∧ x.length = 1 + (Lib.uvarint l.length).length + zlen a + (allBytes t).length ∧ x.drop (1 + (Lib.uvarint l.length).length + zlen a) = allBytes t := by
  have h1 : [UInt8.ofNat kind.toNat] ++ Lib.uvarint l.length ++ allBytes (a :: t) = ([UInt8.ofNat kind.toNat] ++ Lib.uvarint l.length ++ Lib.uvarint (Lib.zigzag a)) ++ allBytes t := by
    rw [show allBytes (a :: t) = Lib.uvarint (Lib.zigzag a) ++ allBytes t from rfl]
    simp
  refine ⟨_, by rw [asL, if_neg (by omega), hk]; rfl, ?_, ?_⟩
  · show ([UInt8.ofNat kind.toNat] ++ Lib.uvarint l.length ++ allBytes (a :: t)).length = _
    rw [h1]
    simp only [List.length_append, List.length_cons, List.length_nil, zlen]
  · show ([UInt8.ofNat kind.toNat] ++ Lib.uvarint l.length ++ allBytes (a :: t)).drop _ = _
    rw [h1]
    apply List.drop_left'
    simp only [List.length_append, List.length_cons, List.length_nil, zlen]

theorem cell_kept {wr : World} {ad : Option Addr} {n cap : Nat} {xs : List Int} (h : Reads wr vi64 (.slice ad n cap) xs) (hk : 0 < xs.length) :
    ∃ b off, ad = some ⟨b, off, none⟩ ∧ ∀ W, Below wr.heap.size wr W → W.cell? ⟨b, off, none⟩ = some (.int .i64 xs[0]) := by
  obtain ⟨b, off, rfl, _⟩ := h.elem hk
  refine ⟨b, off, rfl, fun W hW => ?_⟩
  obtain ⟨b', off', he, hc⟩ := (h.below hW (Nat.le_refl _)).elem hk
  injection he with he
  injection he with h1 h2
  subst h1 h2
  exact hc

def MoveLoop (l : List Int) (y : Int) (w : World) (i v : Value) (wr : World) : Prop :=
  ∃ j : Nat, j ≤ l.length ∧ i = .int .i64 (j : Int) ∧ wr.ownsRow w.heap.size 2 1 v (movL (l.take j) y).length ((movL (l.take j) y).map vi64) ∧ Below w.heap.size w wr

def KindLoop (w : World) (k : Value) (wr : World) : Prop := ∃ j : Nat, j ≤ 4 ∧ k = .int .i64 (j : Int) ∧ Below w.heap.size w wr

set_option maxRecDepth 100000 in
set_option maxHeartbeats 4000000 in
theorem moves_walk (v : Value) (l : List Int) (y : Int) (w : World) (hl : ∀ n ∈ l, I64 n) (hr : Reads w vi64 v l) :
    Calls Try.prog 7 #[v, .int .i64 y] w (TrueEnd w) := by
  obtain ⟨i0, hi, hz0, hz1, hz2⟩ := info_parts info_i64c
  obtain ⟨ad, cap, rfl⟩ := hr.slice
  have hlenI : l.length ≤ 9223372036854775807 := by have := hr.len_le; simp only [maxLen] at this; omega
  by_cases h0 : l.length = 0
  · have hq : ((l.length : Int) == 0) = true := by simp [h0]
    clear h0
    go_enter Try.func7, Try.ntmps7
    go_wp2_with fail
    refine (awake_any w).mono ?_
    rintro e w1 ⟨rfl, hb1⟩
    go_wp2_with fail
    go_ret
    exact ⟨rfl, hb1⟩
  have hq : ((l.length : Int) == 0) = false := by rw [beq_eq_false_iff_ne]; omega
  by_cases hbig : 1000 < l.length
  · go_enter Try.func7, Try.ntmps7
    go_wp2_with fail
    refine (awake_any w).mono ?_
    rintro e w1 ⟨rfl, hb1⟩
    go_wp2_with fail
    go_ret
    exact ⟨rfl, hb1⟩
  go_enter Try.func7, Try.ntmps7
  go_wp2_with fail
  refine (awake_any w).mono ?_
  rintro e w1 ⟨rfl, hb1⟩
  have hr1 := hr.below hb1 (Nat.le_refl _)
  go_wp2_with fail
  go_loopw [7, 6] (fun i v wr => MoveLoop l y w1 i v wr) (fun i _ _ => l.length - (intOf i).toNat)
  case atStart => exact ⟨0, by omega, rfl, World.ownsRow_nil _ _ _ _, Below.refl _ _⟩
  case round =>
    obtain ⟨j, hj, rfl, hown, hbel⟩ := hrel
    by_cases hlt : j < l.length
    · obtain ⟨b, off, rfl, hcell⟩ := (hr1.below hbel (Nat.le_refl _)).elem hlt
      have htk : movL (l.take (j + 1)) y = movL (l.take j) y ++ [wadd l[j] y] := by rw [List.take_succ_eq_append_getElem hlt, movL, movL, List.map_append]; rfl
      have HT := Lib.hid htk
      clear htk
      generalize l[j] = x at hcell HT
      have hc : wr.cell? ⟨b, off + j, none⟩ = some (.int .i64 x) := hcell
      clear hcell
      have hll : (movL (l.take j) y).length + 1 ≤ 1001 := by rw [movL_length, List.length_take]; omega
      have hB := hbel.size
      go_wp2_with (at_builtin; refine wpList_push rfl (.tmp 33) (.tmp 40) 22 rfl w1.heap.size 2 i0 _ 8 Try.underlying22 hi hz0 hz1 hz2 rfl vi64 (movL (l.take j) y) (wadd x y) _ _ rfl rfl rfl hown rfl (by simp only [maxLen]; omega) (by omega) hB ?_; intro v' w' hown' hb' _)
      go_roundw
      case rel => exact ⟨j + 1, by omega, by go_num, by rw [HT.out]; exact hown', hbel.trans hb'⟩
      case measure => simp [intOf]; omega
    · have hj2 : j = l.length := by omega
      subst hj2
      rw [List.take_of_length_le (Nat.le_refl _)] at hown
      have hrm := Reads.of_owns hown
      have hr2 := hr1.below hbel (Nat.le_refl _)
      have hb02 := hb1.trans (hbel.mono hb1.size)
      have hml := movL_i64 l y
      have hmlen := movL_length l y
      have hkm := fun kind => kind_moved kind l y hl (by omega)
      obtain ⟨am, cm, rfl⟩ := hrm.slice
      obtain ⟨bl, ol, rfl, hclB⟩ := cell_kept hr2 (by omega)
      obtain ⟨bm, om, rfl, hcmB⟩ := cell_kept hrm (by omega)
      have hxl : l[0]'(by omega) = l.getD 0 0 := by simp [show 0 < l.length by omega]
      have hxm : (movL l y)[0]'(by omega) = wadd (l.getD 0 0) y := by simp [movL, show 0 < l.length by omega]
      rw [hxl] at hclB
      rw [hxm] at hcmB
      have hx64 : I64 (l.getD 0 0) := by rw [← hxl]; exact hl _ (List.getElem_mem _)
      have hm64 : I64 (wadd (l.getD 0 0) y) := by unfold I64 wadd wrap64; omega
      clear hown hxl hxm hbel
      generalize movL l y = M at hrm hml hmlen hkm
      rw [hmlen] at hrm ⊢
      generalize l.getD 0 0 = x at hclB hcmB hx64 hm64 hkm
      generalize wadd x y = z at hcmB hm64 hkm
      go_wp2_with fail
      go_loopw [8] (fun k w' => KindLoop wr k w') (fun k _ => 4 - (intOf k).toNat)
      case atStart => exact ⟨0, by omega, rfl, Below.refl _ _⟩
      case round =>
        obtain ⟨j, hj, rfl, hbel⟩ := hrel
        by_cases hlt : j < 4
        · rcases hkm (j : Int) with ⟨hn1, hn2⟩ | ⟨t, hk1, hk2⟩
          · have ha1 := asL_no hn1
            have ha2 := asL_no hn2
            clear hn1 hn2 hkm
            go_wp2_with fail
            refine (As_any (j : Int) _ l _ hl (hr2.below hbel (Nat.le_refl _))).mono ?_
            rintro e w3 ⟨v3, rfl, hown3, hb3⟩
            have hbel3 := hbel.trans (hb3.mono hbel.size)
            rw [ha1]
            go_wp2_with fail
            refine (As_any (j : Int) _ M w3 hml (hrm.below hbel3 (Nat.le_refl _))).mono ?_
            rintro e w4 ⟨v4, rfl, hown4, hb4⟩
            have hbel4 := hbel3.trans (hb4.mono hbel3.size)
            rw [ha2]
            go_wp2_with fail
            go_roundw
            case rel => exact ⟨j + 1, by omega, by go_num, hbel4⟩
            case measure => simp [intOf]; omega
          · obtain ⟨xa, ha1, hla, hda⟩ := asL_cons hk1 (by omega)
            obtain ⟨xb, ha2, hlb, hdb⟩ := asL_cons hk2 (by omega)
            rw [hmlen] at hlb hdb
            clear hk1 hk2 hkm
            have hun : U64 l.length := by unfold U64; omega
            go_wp2_with fail
            refine (As_any (j : Int) _ l _ hl (hr2.below hbel (Nat.le_refl _))).mono ?_
            rintro e w3 ⟨v3, rfl, hown3, hb3⟩
            have hbel3 := hbel.trans (hb3.mono hbel.size)
            rw [ha1] at hown3 ⊢
            go_wp2_with fail
            refine (As_any (j : Int) _ M w3 hml (hrm.below hbel3 (Nat.le_refl _))).mono ?_
            rintro e w4 ⟨v4, rfl, hown4, hb4⟩
            have hbel4 := hbel3.trans (hb4.mono hbel3.size)
            rw [ha2] at hown4 ⊢
            have hr3 : Reads w4 b8 v3 xa := (Reads.of_owns hown3).below hb4 (Nat.le_refl _)
            have hr4 : Reads w4 b8 v4 xb := Reads.of_owns hown4
            have hc4 := hclB w4 hbel4
            have hd4 : ∀ W, Below w4.heap.size w4 W → W.cell? ⟨bm, om, none⟩ = some (.int .i64 z) := fun W hW => hcmB W (hbel4.trans (hW.mono hbel4.size))
            clear hown3 hown4 ha1 ha2
            go_wp2_with fail
            refine (refzig_any x w4 hx64).mono ?_
            rintro e w' ⟨rfl, rfl⟩
            go_wp2_with fail
            refine (refbytes_any _ w4 hx64.zigzag).mono ?_
            rintro e w5 ⟨v5, rfl, hown5, hb5⟩
            have hd5 := hd4 w5 hb5
            obtain ⟨a5, c5, rfl⟩ := owns_slice hown5
            go_wp2_with fail
            refine (refzig_any z w5 hm64).mono ?_
            rintro e w' ⟨rfl, rfl⟩
            go_wp2_with fail
            refine (refbytes_any _ w5 hm64.zigzag).mono ?_
            rintro e w6 ⟨v6, rfl, hown6, hb6⟩
            obtain ⟨a6, c6, rfl⟩ := owns_slice hown6
            go_wp2_with fail
            refine (refbytes_any _ w6 hun).mono ?_
            rintro e w7 ⟨v7, rfl, hown7, hb7⟩
            obtain ⟨a7, c7, rfl⟩ := owns_slice hown7
            have hb47 : Below w4.heap.size w4 w7 := (hb5.trans (hb6.mono hb5.size)).trans (hb7.mono (Nat.le_trans hb5.size hb6.size))
            have hbel7 := hbel4.trans (hb47.mono hbel4.size)
            have hr37 := hr3.below hb47 (Nat.le_refl _)
            have hr47 := hr4.below hb47 (Nat.le_refl _)
            have hzx : (Lib.uvarint (Lib.zigzag x)).length = zlen x := rfl
            have hzz : (Lib.uvarint (Lib.zigzag z)).length = zlen z := rfl
            have hA : (Lib.uvarint l.length).length ≤ 10 := ulen_le hun
            have hp : zlen x ≤ 10 := ulen_le hx64.zigzag
            have hq : zlen z ≤ 10 := ulen_le hm64.zigzag
            rw [hzx] at hown5 ⊢
            rw [hzz] at hown6 ⊢
            clear hl hr hr1 hclB hcmB hd4 hm64 hx64 hun hml hown5 hown6 hown7 hr3 hr4 hd5 hc4 hr2 hrm hmlen hzx hzz
            generalize (Lib.uvarint l.length).length = A at *
            generalize zlen x = p at *
            generalize zlen z = q at *
            obtain ⟨s3, hs3, hd3⟩ := slice_tail (P := Try.prog) Try.underlying24 cell_u8 hr37 (k := 1 + A + p) (by omega)
            obtain ⟨s4, hs4, hd4⟩ := slice_tail (P := Try.prog) Try.underlying24 cell_u8 hr47 (k := 1 + A + q) (by omega)
            rw [hda] at hd3
            rw [hdb] at hd4
            have hc3 := fun n => str_of (hd3.drewN n)
            have hc4 := fun n => str_of (hd4.drewN n)
            obtain ⟨b3, c3, rfl⟩ := hr37.slice
            obtain ⟨b4, c4, rfl⟩ := hr47.slice
            have e1 : ((1 + A + p : Nat) : Int) = 1 + (A : Int) + (p : Int) := by omega
            have e2 : ((1 + A + q : Nat) : Int) = 1 + (A : Int) + (q : Int) := by omega
            rw [e1] at hs3
            rw [e2] at hs4
            have hx1 : decide ((xa.length : Int) < 1 + (A : Int) + (p : Int)) = false := decide_eq_false (by omega)
            have hx2 : decide ((xb.length : Int) < 1 + (A : Int) + (q : Int)) = false := decide_eq_false (by omega)
            clear hla hlb hda hdb e1 e2 hd3 hd4 hr37 hr47
            go_wp2_with fail
            go_quiet (fail)
            go_wp2_with fail
            go_roundw
            case rel => exact ⟨j + 1, by omega, by go_num, Below.drewN hbel7 nq⟩
            case measure => simp [intOf]; omega
        · go_wp2_with fail
          go_ret
          exact ⟨rfl, hb02.trans (hbel.mono hb02.size)⟩

end Go.Proofs.Ytgegbfhjophdfaa
