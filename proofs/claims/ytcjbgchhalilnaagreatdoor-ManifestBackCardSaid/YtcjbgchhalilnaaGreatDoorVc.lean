/- The walks of the varint layer: slices.Clone, Put, PutAll, and the reference's bytes. -/
import Derived.Test.YtcjbgchhalilnaaGreatDoorVb
import Derived.WalkSpells
namespace Go.Proofs.YtcjbgchhalilnaaGreatDoor
open Go Go.RowKit

/-- WHAT A CALL THAT MAKES A NEW ROW OF BYTES LEAVES: a slice of its own that holds the list; nothing that was there has turned. -/
def NewBytes (l : List UInt8) (w : World) (e : Ending) (w' : World) : Prop :=
  ∃ v', e = .returned v' ∧ w'.ownsRow w.heap.size 5 1 v' l.length (l.map b8) ∧ Below w.heap.size w w'

set_option maxRecDepth 100000 in
theorem clone_any (v : Value) (xs : List UInt8) (w : World) (hxs : xs.length ≤ 70368744177664) (hr : Reads w b8 v xs) :
    Calls Tryz.prog 53 #[v] w (NewBytes xs w) := by
  obtain ⟨i0, hi, hz0, hz1, hz2⟩ := info_parts info_u8
  obtain ⟨ad, cap, rfl⟩ := hr.slice
  cases ad with
  | none =>
    have hx : xs = [] := by
      rcases hr with ⟨h, _⟩ | ⟨b, off, cap', h, _⟩
      · exact h
      · simp at h
    subst hx
    have hn := fun (w : World) => Lib.run_eql_slice_nil (P := Tryz.prog) w 43 5 none 0 cap 0 0 Tryz.underlying43
    go_enter Tryz.func53, Tryz.ntmps53
    go_wp2
    go_ret
    exact ⟨_, rfl, World.ownsRow_nil _ _ _ _, Below.refl _ _⟩
  | some ad =>
    have hn := fun (w : World) => Lib.run_eql_slice_nil (P := Tryz.prog) w 43 5 (some ad) xs.length cap 0 0 Tryz.underlying43
    have hb0 : Below w.heap.size w (w.alloc (.cells #[] 5)) := (Below.refl _ _).alloc (Nat.le_refl _) _
    go_enter Tryz.func53, Tryz.ntmps53
    go_wp2_with (at_builtin; refine wpList_extend rfl (.tmp 5) (.tmp 6) 43 rfl w.heap.size 5 i0 _ 1 Tryz.underlying43 hi hz0 hz1 hz2 rfl b8 [] xs _ _ (fun _ => rfl) rfl (World.ownsRow_made w #[] 0 (Nat.le_refl _) (by simp [maxLen]) rfl) rfl (hr.below hb0 (Nat.le_refl _)) (by simp only [maxLen, List.length_nil]; omega) (by simp only [List.length_nil]; omega) hb0.size ?_; intro v1 w1 hown1 hb1 _)
    go_ret
    exact ⟨v1, rfl, hown1, hb0.trans hb1⟩

set_option maxRecDepth 100000 in
theorem Put_any (v : Value) (xs : List UInt8) (u : Nat) (w : World) (hu : U64 u) (hxs : xs.length ≤ 70368744177664) (hr : Reads w b8 v xs) :
    Calls Tryz.prog 33 #[v, .int .u64 (u : Int)] w (NewBytes (xs ++ Lib.uvarint u) w) := by
  go_enter Tryz.func33, Tryz.ntmps33
  go_wp2_with fail
  refine (clone_any v xs w hxs hr).mono ?_
  rintro e w1 ⟨v1, rfl, hown1, hb1⟩
  go_wp2_with fail
  refine (put_any w.heap.size v1 xs u w1 hu hxs hb1.size hown1).mono ?_
  rintro e w2 ⟨v2, rfl, hown2, hb2⟩
  go_wp2_with fail
  go_ret
  exact ⟨v2, rfl, hown2, hb1.trans hb2⟩

/-- The bytes of numbers, turned. -/
def allBytes (l : List Int) : List UInt8 := l.flatMap fun n => Lib.uvarint (Lib.zigzag n)
theorem allBytes_snoc (l : List Int) (n : Int) : allBytes (l ++ [n]) = allBytes l ++ Lib.uvarint (Lib.zigzag n) := by simp [allBytes]
theorem allBytes_append (a b : List Int) : allBytes (a ++ b) = allBytes a ++ allBytes b := by simp [allBytes]
theorem allBytes_length {l : List Int} (h : ∀ n ∈ l, I64 n) : (allBytes l).length ≤ 10 * l.length := by
  induction l with
  | nil => simp [allBytes]
  | cons n l ih =>
    have h1 : (Lib.uvarint (Lib.zigzag n)).length ≤ 10 := ulen_le (h n (by simp)).zigzag
    have h2 := ih fun m hm => h m (by simp [hm])
    rw [show allBytes (n :: l) = Lib.uvarint (Lib.zigzag n) ++ allBytes l from by simp [allBytes], List.length_append, List.length_cons]
    omega

/-- An int64, as it lies in a cell. -/
def vi64 (n : Int) : Value := .int .i64 n

def PutAllRel (base : Nat) (xs : List UInt8) (l : List Int) (w : World) (i v : Value) (wr : World) : Prop :=
  ∃ k : Nat, k ≤ l.length ∧ i = .int .i64 (k : Int) ∧ wr.ownsRow base 5 1 v (xs ++ allBytes (l.take k)).length ((xs ++ allBytes (l.take k)).map b8) ∧ Below base w wr


end Go.Proofs.YtcjbgchhalilnaaGreatDoor
