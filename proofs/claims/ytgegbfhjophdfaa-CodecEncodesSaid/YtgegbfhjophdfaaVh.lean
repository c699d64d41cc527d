/- The reference of the varint layer: turning, turning back, the bytes of a number. -/
import Derived.Test.YtgegbfhjophdfaaVc
namespace Go.Proofs.Ytgegbfhjophdfaa
open Go Go.RowKit

theorem refzig_any (n : Int) (w : World) (hn : I64 n) :
    Calls Try.prog 17 #[.int .i64 n] w fun e w' => e = .returned (.int .u64 (Lib.zigzag n : Nat)) ∧ w = w' := by
  have h0 := hn.1
  have h1 := hn.2
  by_cases h : 0 ≤ n
  · have HB : Hid (((Lib.zigzag n : Nat) : Int) = 2 * n) := by rw [Hid, Lib.zigzag, if_pos h]; omega
    go_enter Try.func17, Try.ntmps17
    go_wp2
    go_ret
    exact ⟨by rw [HB.out]; rfl, rfl⟩
  · have HB : Hid (((Lib.zigzag n : Nat) : Int) = 2 * -(n + 1) + 1) := by rw [Hid, Lib.zigzag, if_neg h]; omega
    have hneg : n < 0 := by omega
    go_enter Try.func17, Try.ntmps17
    go_wp2
    go_ret
    exact ⟨by rw [HB.out]; rfl, rfl⟩


def BytesRel (base : Nat) (u : Nat) (w : World) (x v : Value) (wr : World) : Prop :=
  ∃ (y : Nat) (pre : List UInt8), x = .int .u64 (y : Int) ∧ U64 y ∧ pre ++ Lib.uvarint y = Lib.uvarint u ∧
    wr.ownsRow base 5 1 v pre.length (pre.map b8) ∧ Below base w wr

set_option maxRecDepth 100000 in
theorem refbytes_any (u : Nat) (w : World) (hu : U64 u) :
    Calls Try.prog 16 #[.int .u64 (u : Int)] w (NewBytes (Lib.uvarint u) w) := by
  obtain ⟨i0, hi, hz0, hz1, hz2⟩ := info_parts info_u8
  go_enter Try.func16, Try.ntmps16
  go_wp2
  go_loopw [0, 3] (fun x v wr => BytesRel w.heap.size u w x v wr) (fun x _ _ => (intOf x).toNat)
  case atStart => exact ⟨u, [], rfl, hu, rfl, World.ownsRow_nil _ _ _ _, Below.refl _ _⟩
  case round =>
    obtain ⟨y, pre, rfl, hy, hpre, hown, hbel⟩ := hrel
    have hpl := uvarint_pre hu hpre
    have HP := Lib.hid hpre
    clear hpre
    by_cases hlt : 128 ≤ y
    · have HB := Lib.hid (byte_rem y)
      have hy' : y < 18446744073709551616 := hy
      go_wp2_with (at_builtin; refine wpList_push rfl (.tmp 6) (.tmp 11) 24 rfl w.heap.size 5 i0 _ 1 Try.underlying24 hi hz0 hz1 hz2 rfl b8 pre (y % 128 + 128).toUInt8 _ _ (by rw [b8, HB.out]) rfl rfl hown rfl (by simp only [maxLen]; omega) (by omega) hbel.size ?_; intro v1 w1 hown1 hb1 _)
      go_roundw
      case rel => exact ⟨y / 128, pre ++ [(y % 128 + 128).toUInt8], by go_num, hy.div _, uvarint_more hlt _ _ HP.out, hown1, hbel.trans hb1⟩
      case measure => simp [intOf]; omega
    · have HB := Lib.hid (byte_last (y := y) (by omega))
      go_wp2_with (at_builtin; refine wpList_push rfl (.tmp 15) (.tmp 18) 24 rfl w.heap.size 5 i0 _ 1 Try.underlying24 hi hz0 hz1 hz2 rfl b8 pre y.toUInt8 _ _ (by rw [b8, ← HB.out]) rfl rfl hown rfl (by simp only [maxLen]; omega) (by omega) hbel.size ?_; intro v1 w1 hown1 hb1 _)
      go_ret
      refine ⟨v1, rfl, ?_, hbel.trans hb1⟩
      rw [← uvarint_last (by omega) _ _ HP.out]
      exact hown1

end Go.Proofs.Ytgegbfhjophdfaa
