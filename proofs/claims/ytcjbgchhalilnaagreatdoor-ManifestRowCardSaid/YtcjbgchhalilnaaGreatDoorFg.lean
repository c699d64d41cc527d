/- ManifestRow: the plain law, the walk. -/
import Derived.Test.YtcjbgchhalilnaaGreatDoorFf
import Derived.Test.YtcjbgchhalilnaaGreatDoorFh
import Derived.WalkLawsBesides
namespace Go.Proofs.YtcjbgchhalilnaaGreatDoor
open Go Go.RowKit Go.Lib
set_option linter.unusedVariables false

theorem name_less {k : Nat} {a b : Int} (ha : 0 ≤ a ∧ a ≤ 999999) (hb : 0 ≤ b ∧ b ≤ 999999) : Op.bytesLess (nameL k a) (nameL k b) = decide (a < b) := by
  have h : Op.bytesLess (nameL k a) (nameL k b) = Op.bytesLess (padL 6 (numB a)) (padL 6 (numB b)) := by
    show Op.bytesLess (kindB k :: padL 6 (numB a)) (kindB k :: padL 6 (numB b)) = _
    simp [Op.bytesLess]
  rw [h, padL_less 6 (numB_lt a) (numB_lt b)]
  apply decide_eq_decide.2
  unfold numB
  omega
theorem name_inj {k : Nat} {a b : Int} (ha : 0 ≤ a ∧ a ≤ 999999) (hb : 0 ≤ b ∧ b ≤ 999999) (h : nameL k a = nameL k b) : a = b := by
  have h1 : padL 6 (numB a) = padL 6 (numB b) := (List.cons.inj h).2
  have h2 := padL_inj 6 (numB_lt a) (numB_lt b) h1
  unfold numB at h2
  omega
theorem name_eq {k : Nat} {a b : Int} (ha : 0 ≤ a ∧ a ≤ 999999) (hb : 0 ≤ b ∧ b ≤ 999999) : (nameL k a == nameL k b) = decide (a = b) := by
  by_cases h : a = b
  · subst h; simp
  · rw [decide_eq_false h, beq_eq_false_iff_ne]
    exact fun e => h (name_inj ha hb e)
theorem kindB_in {k : Nat} (h1 : 97 ≤ k) (h2 : k ≤ 122) : kindB k = UInt8.ofNat k := if_neg (by omega)
theorem name_kind {k : Nat} {a : Int} (h1 : 97 ≤ k) (h2 : k < 122) : (nameL (k + 1) a == nameL k a) = false := by
  rw [beq_eq_false_iff_ne]
  intro e
  have h := (List.cons.inj e).1
  rw [kindB_in h1 (by omega), kindB_in (by omega) (by omega)] at h
  have h3 := congrArg UInt8.toNat h
  rw [byte_of (by omega), byte_of (by omega)] at h3
  omega

set_option maxRecDepth 100000 in
set_option maxHeartbeats 4000000 in
theorem row_walk (k : Nat) (a b : Int) (w : World) (hT : Laid w) (hk : k < 256) (ha : -9223372036854775808 ≤ a ∧ a ≤ 9223372036854775807) (hb : -9223372036854775808 ≤ b ∧ b ≤ 9223372036854775807) :
    Calls Tryz.prog 6 #[.int .u8 (k : Int), .int .i64 a, .int .i64 b] w fun e w' => TrueEnd w e w' := by
  have hA := awake_any w hT
  by_cases hin : (97 ≤ k ∧ k < 122) ∧ (0 ≤ a ∧ a ≤ 999999) ∧ (0 ≤ b ∧ b ≤ 999999)
  · obtain ⟨⟨h1, h2⟩, h3, h4⟩ := hin
    have h1' : (97 : Int) ≤ k := by omega
    have h2' : (k : Int) < 122 := by omega
    have HL := Lib.hid (name_less (k := k) h3 h4)
    have HE := Lib.hid (name_eq (k := k) h3 h4)
    have HK := Lib.hid (name_kind (k := k) (a := a) h1 h2)
    obtain ⟨h3a, h3b⟩ := h3
    obtain ⟨h4a, h4b⟩ := h4
    go_enter Tryz.func6, Tryz.ntmps6
    go_wp2_with fail
    refine hA.mono ?_
    rintro e w1 ⟨rfl, hb1⟩
    have n1 := Name_any k a w1 (hT.below hb1 (Nat.le_refl _)) hk ha
    go_wp2_with fail
    refine n1.mono ?_
    rintro e w2 ⟨rfl, hb2⟩
    have n2 := Name_any k b w2 (hT.below (hb1.trans (hb2.mono hb1.size)) (Nat.le_refl _)) hk hb
    have hb2' := hb1.trans (hb2.mono hb1.size)
    go_wp2_with fail
    refine n2.mono ?_
    rintro e w3 ⟨rfl, hb3⟩
    have hb3' := hb2'.trans (hb3.mono hb2'.size)
    have n3 := Name_any (k + 1) a w3 (hT.below hb3' (Nat.le_refl _)) (by omega) ha
    have n3' : Calls Tryz.prog 19 #[.int .u8 ((k : Int) + 1), .int .i64 a] w3 fun e w' => e = .returned (encStr (nameL (k + 1) a)) ∧ Below w3.heap.size w3 w' := by
      have : (((k + 1 : Nat)) : Int) = (k : Int) + 1 := by omega
      rw [this] at n3
      exact n3
    have hwk : IntKind.u8.wrap ((k : Int) + 1) = (k : Int) + 1 := by rw [IntKind.wrap_u8]; omega
    clear n1 n2 n3 hA
    go_wp2_with fail
    refine n3'.mono ?_
    rintro e w4 ⟨rfl, hb4⟩
    have hb4' := hb3'.trans (hb4.mono hb3'.size)
    have hlX := nameL_length k a
    have hlY := nameL_length k b
    have hlZ := nameL_length (k + 1) a
    go_wp2_with fail
    refine row9 (k := k) (p := a) (q := b) (X := nameL k a) (Y := nameL k b) (Z := nameL (k + 1) a) rfl rfl rfl rfl rfl rfl rfl ?_ hlX hlZ HL.out HE.out HK.out (by rw [show (nameL (k + 1) a).drop 1 = (nameL k a).drop 1 from rfl, beq_self_eq_true]) ?_
    · show some (kindB k).toNat = some k
      rw [kindB_in h1 (by omega), byte_of (by omega)]
    intro a' w8 hb8 x6 hsz hdf
    go_wp2_with fail
    exact ret_at (fn := Tryz.f6) rfl x6 hdf ⟨rfl, hb4'.trans (hb8.mono hb4'.size)⟩
  · have hl := nameL_length k a
    have hs : ({ data := (nameL k a).toArray } : ByteArray).size = 7 := (str_len _).trans hl
    go_enter Tryz.func6, Tryz.ntmps6
    go_wp2_with fail
    refine hA.mono ?_
    rintro e w1 ⟨rfl, hb1⟩
    have n1 := Name_any k a w1 (hT.below hb1 (Nat.le_refl _)) hk ha
    go_wp2_with (go_at_call 19; refine n1.mono ?_; rintro e w2 ⟨rfl, hb2⟩)
    all_goals first | omega | (go_ret; exact ⟨rfl, hb1.trans (hb2.mono hb1.size)⟩)
end Go.Proofs.YtcjbgchhalilnaaGreatDoor
