/- The reference's Name: the walk. -/
import Derived.Test.YtcjbgchhalilnaaGreatDoorEd
namespace Go.Proofs.YtcjbgchhalilnaaGreatDoor
open Go Go.RowKit

theorem str_len (l : List UInt8) : ({ data := l.toArray } : ByteArray).size = l.length := by simp [ByteArray.size]
theorem str_cons1 (c : UInt8) (l : List UInt8) : Value.string (({ data := #[c] } : ByteArray) ++ { data := l.toArray }) = encStr ([c] ++ l) := by
  show _ = Value.string { data := ([c] ++ l).toArray }
  rw [← ByteArray.mk_append_mk]
def NameRel (m : Nat) (w : World) (n s i : Value) (wr : World) : Prop :=
  ∃ (j q : Nat) (t : List UInt8), j ≤ 6 ∧ q < 1000000 ∧ i = .int .i64 (j : Int) ∧ n = .int .i64 (q : Int) ∧ s = encStr t ∧ t.length = j ∧ padL (6 - j) q ++ t = padL 6 m ∧ Below w.heap.size w wr

set_option maxRecDepth 100000 in
theorem refName_any (k : Nat) (n : Int) (w : World) (hk : k < 256) (hn : -9223372036854775808 ≤ n ∧ n ≤ 9223372036854775807) :
    Calls Tryz.prog 20 #[.int .u8 (k : Int), .int .i64 n] w fun e w' => e = .returned (encStr (nameL k n)) ∧ Below w.heap.size w w' := by
  have hm := numB_lt n
  have hnum : (min (max n 0) 999999 : Int) = (numB n : Int) := by unfold numB; omega
  have hres : Hid (nameL k n = [kindB k] ++ padL 6 (numB n)) := rfl
  generalize numB n = m at *
  have hkind : (if k < 97 ∨ 122 < k then Value.int .u8 120 else .int .u8 (k : Int)) = .int .u8 ((kindB k).toNat : Int) := by
    unfold kindB
    by_cases h : k < 97 ∨ 122 < k
    · rw [if_pos h, if_pos h]; rfl
    · rw [if_neg h, if_neg h, UInt8.toNat_ofNat']; congr 1; omega
  have hd3 : (k : Int) < 97 ∨ 122 < (k : Int) ∨ ((97 : Int) ≤ k ∧ (k : Int) ≤ 122) := by omega
  go_enter Tryz.func20, Tryz.ntmps20
  rcases hd3 with h | h | ⟨h, h'⟩
  · have hK : Hid ((Value.int .u8 120) = .int .u8 ((kindB k).toNat : Int)) := Lib.hid (by rw [← hkind, if_pos (by omega)])
    clear hkind
    go_wp2_with fail
    go_loopw [5, 6, 7] (fun n s i wr => NameRel m w n s i wr) (fun _ _ i _ => 6 - (intOf i).toNat)
    case atStart => exact ⟨0, m, [], by omega, by omega, rfl, rfl, rfl, rfl, List.append_nil _, Below.refl _ _⟩
    case round =>
      obtain ⟨j, q, t, hj, hq, rfl, rfl, rfl, htl, hp, hbr⟩ := hrel
      by_cases hlt : j < 6
      · have hstep : padL (6 - (j + 1)) (q / 10) ++ ([UInt8.ofNat (48 + q % 10)] ++ t) = padL 6 m := by
          rw [← hp, show 6 - j = (6 - (j + 1)) + 1 by omega, padL, List.append_assoc]
        have HS := Lib.hid hstep
        have hcv : ((UInt8.ofNat (48 + q % 10)).toNat : Int) = 48 + (q : Int) % 10 := by rw [byte_of (by omega)]; omega
        clear hstep hp
        have hr := Reads.built wr _ 5 1 b8 [UInt8.ofNat (48 + q % 10)] (by rw [List.map_cons, List.map_nil, b8, hcv]) rfl (by simp [maxLen])
        have hstr := str_of hr
        clear hr
        generalize UInt8.ofNat (48 + q % 10) = c at hcv hstr HS
        have hwr : wrap64 (48 + (q : Int) % 10) = 48 + (q : Int) % 10 := by unfold wrap64; omega
        go_wp2_with fail
        refine ⟨⟨j + 1, q / 10, [c] ++ t, hlt, by omega, by go_num, by go_num, by rw [encStr, ← ByteArray.mk_append_mk], by simp [htl], HS.out, hbr.alloc hbr.size _⟩, by simp [intOf]; omega⟩
      · have hj6 : j = 6 := by omega
        subst hj6
        have ht : t = padL 6 m := by simpa [padL] using hp
        have hr := Reads.built wr _ 5 1 b8 [kindB k] (by rw [List.map_cons, List.map_nil, b8, ← hK.out]) rfl (by simp [maxLen])
        have hstr := str_of hr
        have hsz : ({ data := t.toArray } : ByteArray).size ≤ 8388608 := by rw [str_len]; omega
        clear hr hp
        go_wp2_with fail
        go_ret
        exact ⟨congrArg Ending.returned ((str_cons1 _ _).trans (congrArg encStr hres.out.symm)), hbr.alloc hbr.size _⟩
  · have hK : Hid ((Value.int .u8 120) = .int .u8 ((kindB k).toNat : Int)) := Lib.hid (by rw [← hkind, if_pos (by omega)])
    clear hkind
    have h97 : (97 : Int) ≤ (k : Int) := by omega
    go_wp2_with fail
    go_loopw [5, 6, 7] (fun n s i wr => NameRel m w n s i wr) (fun _ _ i _ => 6 - (intOf i).toNat)
    case atStart => exact ⟨0, m, [], by omega, by omega, rfl, rfl, rfl, rfl, List.append_nil _, Below.refl _ _⟩
    case round =>
      obtain ⟨j, q, t, hj, hq, rfl, rfl, rfl, htl, hp, hbr⟩ := hrel
      by_cases hlt : j < 6
      · have hstep : padL (6 - (j + 1)) (q / 10) ++ ([UInt8.ofNat (48 + q % 10)] ++ t) = padL 6 m := by
          rw [← hp, show 6 - j = (6 - (j + 1)) + 1 by omega, padL, List.append_assoc]
        have HS := Lib.hid hstep
        have hcv : ((UInt8.ofNat (48 + q % 10)).toNat : Int) = 48 + (q : Int) % 10 := by rw [byte_of (by omega)]; omega
        clear hstep hp
        have hr := Reads.built wr _ 5 1 b8 [UInt8.ofNat (48 + q % 10)] (by rw [List.map_cons, List.map_nil, b8, hcv]) rfl (by simp [maxLen])
        have hstr := str_of hr
        clear hr
        generalize UInt8.ofNat (48 + q % 10) = c at hcv hstr HS
        have hwr : wrap64 (48 + (q : Int) % 10) = 48 + (q : Int) % 10 := by unfold wrap64; omega
        go_wp2_with fail
        refine ⟨⟨j + 1, q / 10, [c] ++ t, hlt, by omega, by go_num, by go_num, by rw [encStr, ← ByteArray.mk_append_mk], by simp [htl], HS.out, hbr.alloc hbr.size _⟩, by simp [intOf]; omega⟩
      · have hj6 : j = 6 := by omega
        subst hj6
        have ht : t = padL 6 m := by simpa [padL] using hp
        have hr := Reads.built wr _ 5 1 b8 [kindB k] (by rw [List.map_cons, List.map_nil, b8, ← hK.out]) rfl (by simp [maxLen])
        have hstr := str_of hr
        have hsz : ({ data := t.toArray } : ByteArray).size ≤ 8388608 := by rw [str_len]; omega
        clear hr hp
        go_wp2_with fail
        go_ret
        exact ⟨congrArg Ending.returned ((str_cons1 _ _).trans (congrArg encStr hres.out.symm)), hbr.alloc hbr.size _⟩
  · have hK : Hid ((Value.int .u8 (k : Int)) = .int .u8 ((kindB k).toNat : Int)) := Lib.hid (by rw [← hkind, if_neg (by omega)])
    clear hkind
    go_wp2_with fail
    go_loopw [5, 6, 7] (fun n s i wr => NameRel m w n s i wr) (fun _ _ i _ => 6 - (intOf i).toNat)
    case atStart => exact ⟨0, m, [], by omega, by omega, rfl, rfl, rfl, rfl, List.append_nil _, Below.refl _ _⟩
    case round =>
      obtain ⟨j, q, t, hj, hq, rfl, rfl, rfl, htl, hp, hbr⟩ := hrel
      by_cases hlt : j < 6
      · have hstep : padL (6 - (j + 1)) (q / 10) ++ ([UInt8.ofNat (48 + q % 10)] ++ t) = padL 6 m := by
          rw [← hp, show 6 - j = (6 - (j + 1)) + 1 by omega, padL, List.append_assoc]
        have HS := Lib.hid hstep
        have hcv : ((UInt8.ofNat (48 + q % 10)).toNat : Int) = 48 + (q : Int) % 10 := by rw [byte_of (by omega)]; omega
        clear hstep hp
        have hr := Reads.built wr _ 5 1 b8 [UInt8.ofNat (48 + q % 10)] (by rw [List.map_cons, List.map_nil, b8, hcv]) rfl (by simp [maxLen])
        have hstr := str_of hr
        clear hr
        generalize UInt8.ofNat (48 + q % 10) = c at hcv hstr HS
        have hwr : wrap64 (48 + (q : Int) % 10) = 48 + (q : Int) % 10 := by unfold wrap64; omega
        go_wp2_with fail
        refine ⟨⟨j + 1, q / 10, [c] ++ t, hlt, by omega, by go_num, by go_num, by rw [encStr, ← ByteArray.mk_append_mk], by simp [htl], HS.out, hbr.alloc hbr.size _⟩, by simp [intOf]; omega⟩
      · have hj6 : j = 6 := by omega
        subst hj6
        have ht : t = padL 6 m := by simpa [padL] using hp
        have hr := Reads.built wr _ 5 1 b8 [kindB k] (by rw [List.map_cons, List.map_nil, b8, ← hK.out]) rfl (by simp [maxLen])
        have hstr := str_of hr
        have hsz : ({ data := t.toArray } : ByteArray).size ≤ 8388608 := by rw [str_len]; omega
        clear hr hp
        go_wp2_with fail
        go_ret
        exact ⟨congrArg Ending.returned ((str_cons1 _ _).trans (congrArg encStr hres.out.symm)), hbr.alloc hbr.size _⟩
end Go.Proofs.YtcjbgchhalilnaaGreatDoor
