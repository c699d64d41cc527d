/- The walk of varint.Take over any bytes. -/
import Derived.Test.YtcjbgchhalilnaaGreatDoorVd
namespace Go.Proofs.YtcjbgchhalilnaaGreatDoor
open Go Go.RowKit

/-- What Take hands back of the bytes that lie behind. -/
def takeRest (l : List UInt8) : List UInt8 := if (takeF 0 0 l).2.2 = 0 then l.drop (takeF 0 0 l).2.1 else []

def TakeEnd3 (l : List UInt8) (w : World) (e : Ending) (w' : World) : Prop :=
  ∃ v', e = .returned (.tuple #[.int .u64 ((takeF 0 0 l).1 : Int), v', .int .i64 ((takeF 0 0 l).2.2 : Int)]) ∧ w'.ownsRow w.heap.size 5 1 v' (takeRest l).length ((takeRest l).map b8) ∧ Below w.heap.size w w'

set_option maxRecDepth 100000 in
theorem Take_any (v : Value) (l : List UInt8) (w : World) (hl : l.length ≤ 70368744177664) (hr : Reads w b8 v l) :
    Calls Tryz.prog 38 #[v] w (TakeEnd3 l w) := by
  have hsp := take_spec l
  rcases hsp with hs | hs | ⟨u, k, hs, hu, hk1, hk2, hk3⟩
  · have HS := Lib.hid hs
    clear hs
    go_enter Tryz.func38, Tryz.ntmps38
    go_wp2_with fail
    refine (take_any v l w hr).mono ?_
    rintro e w1 ⟨rfl, rfl⟩
    rw [HS.out, takeV]
    go_wp2_with fail
    go_ret3
    exact ⟨.slice none 0 0, by rw [HS.out]; rfl, by rw [takeRest, HS.out]; exact World.ownsRow_nil _ _ _ _, Below.refl _ _⟩
  · have HS := Lib.hid hs
    clear hs
    go_enter Tryz.func38, Tryz.ntmps38
    go_wp2_with fail
    refine (take_any v l w hr).mono ?_
    rintro e w1 ⟨rfl, rfl⟩
    rw [HS.out, takeV]
    go_wp2_with fail
    go_ret3
    exact ⟨.slice none 0 0, by rw [HS.out]; rfl, by rw [takeRest, HS.out]; exact World.ownsRow_nil _ _ _ _, Below.refl _ _⟩
  · have HS := Lib.hid hs
    clear hs
    rcases hr with ⟨rfl, al, cl, rfl, _, _⟩ | ⟨b, off, cap, rfl, h1, h2, h3, h4⟩
    · simp at hk3; omega
    have hr : Reads w b8 (.slice (some ⟨b, off, none⟩) l.length cap) l := .inr ⟨b, off, cap, rfl, h1, h2, h3, h4⟩
    clear h4
    have hcap : cap ≤ 9223372036854775807 := by simp only [maxLen] at h2; omega
    have HR : Hid (takeRest l = l.drop k) := by rw [Hid, takeRest, HS.out]; rfl
    by_cases hkc : k < cap
    · have hr2 := hr.tail hk3 (off + k) (fun _ => rfl)
      go_enter Tryz.func38, Tryz.ntmps38
      go_wp2_with fail
      refine (take_any _ l w hr).mono ?_
      rintro e w1 ⟨rfl, rfl⟩
      rw [HS.out, takeV]
      go_wp2_with fail
      refine (clone_any _ (l.drop k) w (by rw [List.length_drop]; omega) hr2).mono ?_
      rintro e w2 ⟨v2, rfl, hown2, hb2⟩
      go_wp2_with fail
      go_ret3
      exact ⟨v2, by rw [HS.out]; rfl, by rw [HR.out]; exact hown2, hb2⟩
    · have hkl : k = l.length := by omega
      obtain rfl : cap = l.length := by omega
      have hr2 := hr.tail hk3 off (fun h => absurd h hkc)
      subst hkl
      go_enter Tryz.func38, Tryz.ntmps38
      go_wp2_with fail
      refine (take_any _ l w hr).mono ?_
      rintro e w1 ⟨rfl, rfl⟩
      rw [HS.out, takeV]
      go_wp2_with fail
      rw [Nat.sub_self, List.drop_length] at hr2
      refine (clone_any _ [] w (by simp) hr2).mono ?_
      rintro e w2 ⟨v2, rfl, hown2, hb2⟩
      go_wp2_with fail
      go_ret3
      exact ⟨v2, by rw [HS.out]; rfl, by rw [HR.out, List.drop_length]; exact hown2, hb2⟩

end Go.Proofs.YtcjbgchhalilnaaGreatDoor
