/- The walks of the varint layer that turn a number and put its bytes. -/
import Derived.Test.YtcjbgchhalilnaaGreatDoorRows
import Derived.Test.YtcjbgchhalilnaaGreatDoorVa
import Derived.Test.YtcjbgchhalilnaaGreatDoorKa
import Derived.WalkKit
import Derived.Lib.Hide
namespace Go.Proofs.YtcjbgchhalilnaaGreatDoor
open Go Go.RowKit

/-- A byte, as it lies in a cell. -/
def b8 (x : UInt8) : Value := .int .u8 (x.toNat : Int)

theorem info_u8 : (Tryz.prog.info? 5).map (fun i => (i.zero, i.size, i.bytes)) = some (some (.int .u8 0), 1, 1) := by kernel_rfl




/-- PUT BEHIND, IN THE SAME MEMORY: the slice is nil or the caller's own from block 'base' on; behind the call it holds the bytes of u besides. -/
def PutEnd (base : Nat) (xs : List UInt8) (u : Nat) (w : World) (e : Ending) (w' : World) : Prop :=
  ∃ v', e = .returned v' ∧ w'.ownsRow base 5 1 v' (xs ++ Lib.uvarint u).length ((xs ++ Lib.uvarint u).map b8) ∧ Below base w w'

def PutRel (base : Nat) (xs : List UInt8) (u : Nat) (w : World) (v x : Value) (wr : World) : Prop :=
  ∃ (y : Nat) (pre : List UInt8), x = .int .u64 (y : Int) ∧ U64 y ∧ pre ++ Lib.uvarint y = Lib.uvarint u ∧
    wr.ownsRow base 5 1 v (xs ++ pre).length ((xs ++ pre).map b8) ∧ Below base w wr

set_option maxRecDepth 100000 in
theorem put_any (base : Nat) (v : Value) (xs : List UInt8) (u : Nat) (w : World) (hu : U64 u) (hxs : xs.length ≤ 70368744177664)
    (hbase : base ≤ w.heap.size) (hown : w.ownsRow base 5 1 v xs.length (xs.map b8)) :
    Calls Tryz.prog 52 #[v, .int .u64 (u : Int)] w (PutEnd base xs u w) := by
  obtain ⟨i0, hi, hz0, hz1, hz2⟩ := info_parts info_u8
  go_enter Tryz.func52, Tryz.ntmps52
  go_wp2
  go_loopw [0, 1] (fun v x wr => PutRel base xs u w v x wr) (fun _ x _ => (intOf x).toNat)
  case atStart => exact ⟨u, [], rfl, hu, rfl, by simpa using hown, Below.refl _ _⟩
  case round =>
    obtain ⟨y, pre, rfl, hy, hpre, hown, hbel⟩ := hrel
    have hpl := uvarint_pre hu hpre
    have HP := Lib.hid hpre
    clear hpre
    have hlen : (xs ++ pre).length ≤ 70368744177673 := by rw [List.length_append]; omega
    have hsz : base ≤ wr.heap.size := Nat.le_trans hbase hbel.size
    by_cases hlt : 128 ≤ y
    · have HB := Lib.hid (byte_more y)
      go_wp2_with (at_builtin; refine wpList_push rfl (.tmp 7) (.tmp 11) 43 rfl base 5 i0 _ 1 Tryz.underlying43 hi hz0 hz1 hz2 rfl b8 (xs ++ pre) (y % 128 + 128).toUInt8 _ _ (by rw [b8, HB.out]) rfl rfl hown rfl (by simp only [maxLen]; omega) (by omega) hsz ?_; intro v1 w1 hown1 hb1 _)
      go_roundw
      case rel => exact ⟨y / 128, pre ++ [(y % 128 + 128).toUInt8], by go_num, hy.div _, uvarint_more hlt _ _ HP.out, by rw [← List.append_assoc]; exact hown1, hbel.trans hb1⟩
      case measure => simp [intOf]; omega
    · have HB := Lib.hid (byte_last (y := y) (by omega))
      go_wp2_with (at_builtin; refine wpList_push rfl (.tmp 15) (.tmp 18) 43 rfl base 5 i0 _ 1 Tryz.underlying43 hi hz0 hz1 hz2 rfl b8 (xs ++ pre) y.toUInt8 _ _ (by rw [b8, ← HB.out]) rfl rfl hown rfl (by simp only [maxLen]; omega) (by omega) hsz ?_; intro v1 w1 hown1 hb1 _)
      go_ret
      refine ⟨v1, rfl, ?_, hbel.trans hb1⟩
      rw [← uvarint_last (by omega) _ _ HP.out, ← List.append_assoc]
      exact hown1

end Go.Proofs.YtcjbgchhalilnaaGreatDoor
