/- The walks of the varint layer: slices.Clone, Put, PutAll, and the reference's bytes. -/
import Derived.Test.YtgegbfhjophdfaaVb
import Derived.WalkSpells
namespace Go.Proofs.Ytgegbfhjophdfaa
open Go Go.RowKit

/-- WHAT A CALL THAT MAKES A NEW ROW OF BYTES LEAVES: a slice of its own that holds the list; nothing that was there has turned. -/
def NewBytes (l : List UInt8) (w : World) (e : Ending) (w' : World) : Prop :=
  ∃ v', e = .returned v' ∧ w'.ownsRow w.heap.size 5 1 v' l.length (l.map b8) ∧ Below w.heap.size w w'

set_option maxRecDepth 100000 in
theorem clone_any (v : Value) (xs : List UInt8) (w : World) (hxs : xs.length ≤ 70368744177664) (hr : Reads w b8 v xs) :
    Calls Try.prog 35 #[v] w (NewBytes xs w) := by
  obtain ⟨i0, hi, hz0, hz1, hz2⟩ := info_parts info_u8
  obtain ⟨ad, cap, rfl⟩ := hr.slice
  cases ad with
  | none =>
    have hx : xs = [] := by
      rcases hr with ⟨h, _⟩ | ⟨b, off, cap', h, _⟩
      · exact h
      · simp at h
    subst hx
    have hn := fun (w : World) => Lib.run_eql_slice_nil (P := Try.prog) w 24 5 none 0 cap 0 0 Try.underlying24
    go_enter Try.func35, Try.ntmps35
    go_wp2
    go_ret
    exact ⟨_, rfl, World.ownsRow_nil _ _ _ _, Below.refl _ _⟩
  | some ad =>
    have hn := fun (w : World) => Lib.run_eql_slice_nil (P := Try.prog) w 24 5 (some ad) xs.length cap 0 0 Try.underlying24
    have hb0 : Below w.heap.size w (w.alloc (.cells #[] 5)) := (Below.refl _ _).alloc (Nat.le_refl _) _
    go_enter Try.func35, Try.ntmps35
    go_wp2_with (at_builtin; refine wpList_extend rfl (.tmp 5) (.tmp 6) 24 rfl w.heap.size 5 i0 _ 1 Try.underlying24 hi hz0 hz1 hz2 rfl b8 [] xs _ _ (fun _ => rfl) rfl (World.ownsRow_made w #[] 0 (Nat.le_refl _) (by simp [maxLen]) rfl) rfl (hr.below hb0 (Nat.le_refl _)) (by simp only [maxLen, List.length_nil]; omega) (by simp only [List.length_nil]; omega) hb0.size ?_; intro v1 w1 hown1 hb1 _)
    go_ret
    exact ⟨v1, rfl, hown1, hb0.trans hb1⟩

set_option maxRecDepth 100000 in
theorem Put_any (v : Value) (xs : List UInt8) (u : Nat) (w : World) (hu : U64 u) (hxs : xs.length ≤ 70368744177664) (hr : Reads w b8 v xs) :
    Calls Try.prog 24 #[v, .int .u64 (u : Int)] w (NewBytes (xs ++ Lib.uvarint u) w) := by
  go_enter Try.func24, Try.ntmps24
  go_wp2_with fail
  refine (clone_any v xs w hxs hr).mono ?_
  rintro e w1 ⟨v1, rfl, hown1, hb1⟩
  go_wp2_with fail
  refine (put_any w.heap.size v1 xs u w1 hu hxs hb1.size hown1).mono ?_
  rintro e w2 ⟨v2, rfl, hown2, hb2⟩
  go_wp2_with fail
  go_ret
  exact ⟨v2, rfl, hown2, hb1.trans hb2⟩

/-- The bytes of numbers, turned. -/
def allBytes (l : List Int) : List UInt8 := l.flatMap fun n => Lib.uvarint (Lib.zigzag n)
theorem allBytes_snoc (l : List Int) (n : Int) : allBytes (l ++ [n]) = allBytes l ++ Lib.uvarint (Lib.zigzag n) := by simp [allBytes]
theorem allBytes_append (a b : List Int) : allBytes (a ++ b) = allBytes a ++ allBytes b := by simp [allBytes]
theorem allBytes_length {l : List Int} (h : ∀ n ∈ l, I64 n) : (allBytes l).length ≤ 10 * l.length := by
  induction l with
  | nil => simp [allBytes]
  | cons n l ih =>
    have h1 : (Lib.uvarint (Lib.zigzag n)).length ≤ 10 := ulen_le (h n (by simp)).zigzag
    have h2 := ih fun m hm => h m (by simp [hm])
    rw [show allBytes (n :: l) = Lib.uvarint (Lib.zigzag n) ++ allBytes l from by simp [allBytes], List.length_append, List.length_cons]
    omega

/-- An int64, as it lies in a cell. -/
def vi64 (n : Int) : Value := .int .i64 n

def PutAllRel (base : Nat) (xs : List UInt8) (l : List Int) (w : World) (i v : Value) (wr : World) : Prop :=
  ∃ k : Nat, k ≤ l.length ∧ i = .int .i64 (k : Int) ∧ wr.ownsRow base 5 1 v (xs ++ allBytes (l.take k)).length ((xs ++ allBytes (l.take k)).map b8) ∧ Below base w wr

set_option maxRecDepth 100000 in
theorem PutAll_any (v vl : Value) (xs : List UInt8) (l : List Int) (w : World) (hl : ∀ n ∈ l, I64 n) (hxs : xs.length + 10 * l.length ≤ 70368744177664) (hr : Reads w b8 v xs) (hrl : Reads w vi64 vl l) :
    Calls Try.prog 23 #[v, vl] w (NewBytes (xs ++ allBytes l) w) := by
  rcases hrl with ⟨rfl, al, cl, rfl, _, _⟩ | ⟨b, off, cap, rfl, h1, h2, h3, h4⟩
  · go_enter Try.func23, Try.ntmps23
    go_wp2_with fail
    refine (clone_any v xs w (by simp at hxs; omega) hr).mono ?_
    rintro e w1 ⟨v1, rfl, hown1, hb1⟩
    go_wp2_with fail
    refine wp_loop_rounds 1 ?_
    rw [rounds_succ]
    go_wp2_with fail
    go_ret
    exact ⟨v1, rfl, by simpa [allBytes] using hown1, hb1⟩
  · have hm : l.length ≤ 9223372036854775807 := by simp only [maxLen] at h2; omega
    go_enter Try.func23, Try.ntmps23
    go_wp2_with fail
    refine (clone_any v xs w (by omega) hr).mono ?_
    rintro e w1 ⟨v1, rfl, hown1, hb1⟩
    go_wp2_with fail
    go_loopw [12, 5] (fun i v wr => PutAllRel w.heap.size xs l w i v wr) (fun i _ _ => l.length - (intOf i).toNat)
    case atStart => exact ⟨0, Nat.zero_le _, rfl, by simpa [allBytes] using hown1, hb1⟩
    case round =>
      obtain ⟨k, hk, rfl, hown, hbel⟩ := hrel
      by_cases hlt : k < l.length
      · have hcell : wr.cell? ⟨b, off + k, none⟩ = some (.int .i64 l[k]) := (hbel.cell (p := ⟨b, off + k, none⟩) h3).trans (h4 k hlt)
        have hn := hl l[k] (List.getElem_mem hlt)
        have hbl := allBytes_length (l := l.take k) fun n hn => hl n (List.mem_of_mem_take hn)
        have htk : l.take (k + 1) = l.take k ++ [l[k]] := by rw [List.take_succ_eq_append_getElem hlt]
        have HT := Lib.hid htk
        clear htk
        generalize l[k] = z at hcell hn HT
        rw [List.length_take] at hbl
        have hl2 : (xs ++ allBytes (l.take k)).length ≤ 70368744177664 := by rw [List.length_append]; omega
        go_wp2_with fail
        refine (zig_any z wr hn.1 hn.2).mono ?_
        rintro e w2 ⟨rfl, rfl⟩
        go_wp2_with fail
        refine (put_any w.heap.size u5 (xs ++ allBytes (l.take k)) (Lib.zigzag z) wr hn.zigzag hl2 hbel.size hown).mono ?_
        rintro e w3 ⟨v3, rfl, hown3, hb3⟩
        go_wp2_with fail
        go_roundw
        case rel => exact ⟨k + 1, by omega, by go_num, by rw [HT.out, allBytes_snoc, ← List.append_assoc]; exact hown3, hbel.trans hb3⟩
        case measure => simp [intOf]; omega
      · go_wp2_with fail
        go_ret
        rw [List.take_of_length_le (by omega)] at hown
        exact ⟨u5, rfl, hown, hbel⟩

end Go.Proofs.Ytgegbfhjophdfaa
