/- The walks of varint.take and varint.Take over any bytes. -/
import Derived.Test.YtcjbgchhalilnaaGreatDoorVc
import Derived.BigQuiet
namespace Go.Proofs.YtcjbgchhalilnaaGreatDoor
open Go Go.RowKit

/-- take's three results. -/
def takeV (r : Nat × Nat × Nat) : Value := .tuple #[.int .u64 (r.1 : Int), .int .i64 (r.2.1 : Int), .int .i64 (r.2.2 : Int)]

def TakeRel (l : List UInt8) (x u : Value) : Prop :=
  ∃ (n acc : Nat), n ≤ l.length ∧ n ≤ 10 ∧ x = .int .i64 (n : Int) ∧ u = .int .u64 (acc : Int) ∧ U64 acc ∧ (n ≤ 9 → acc < 2 ^ (7 * n)) ∧ takeF n acc (l.drop n) = takeF 0 0 l

def TakeEnd (l : List UInt8) (w : World) (e : Ending) (w' : World) : Prop := e = .returned (takeV (takeF 0 0 l)) ∧ w = w'

set_option maxRecDepth 100000 in
set_option maxHeartbeats 1000000 in
theorem take_any (v : Value) (l : List UInt8) (w : World) (hr : Reads w b8 v l) :
    Calls Tryz.prog 56 #[v] w (TakeEnd l w) := by
  rcases hr with ⟨rfl, al, cl, rfl, _, _⟩ | ⟨b, off, cap, rfl, h1, h2, h3, h4⟩
  · go_enter Tryz.func56, Tryz.ntmps56
    go_wp2_with fail
    go_step3
    go_wp2_with fail
    go_step3
    go_wp2_with fail
    refine wp_loop_rounds 1 ?_
    rw [rounds_succ]
    go_wp2_with fail
    try rw [Exit.noGoto_ret]
    go_ret3
    exact ⟨rfl, rfl⟩
  · have hm : l.length ≤ 9223372036854775807 := by simp only [maxLen] at h2; omega
    go_enter Tryz.func56, Tryz.ntmps56
    go_wp2_with fail
    go_step3
    go_wp2_with fail
    go_step3
    go_wp2_with fail
    go_loop [6, 5] (fun n acc => TakeRel l n acc) (fun n _ => 10 - (intOf n).toNat)
    case atStart => exact ⟨0, 0, Nat.zero_le _, Nat.zero_le _, rfl, rfl, by unfold U64; omega, fun _ => by simp, rfl⟩
    case round =>
      obtain ⟨n, acc, hn, hn10, rfl, rfl, hacc, hpow, heq⟩ := hrel
      have HE := Lib.hid heq
      clear heq
      by_cases hn1 : n = 10
      · have HR : Hid (takeF 0 0 l = (0, 0, 11)) := by rw [← HE.out, hn1]; exact takeF_ten _ _
        have q1 : ((n : Int) == 10) = true := by simp; omega
        clear hn1
        go_wp2_with fail
        try rw [Exit.noGoto_ret]
        go_ret3
        exact ⟨by rw [HR.out]; rfl, rfl⟩
      · by_cases hn2 : n = l.length
        · have HR : Hid (takeF 0 0 l = (0, 0, 10)) := by rw [← HE.out, List.drop_eq_nil_of_le (by omega)]; exact takeF_end _ _ hn1
          have q1 : ((n : Int) == 10) = false := by simp; omega
          have q2 : ((n : Int) == (l.length : Int)) = true := by simp; omega
          clear hn1 hn2
          go_wp2_with fail
          try rw [Exit.noGoto_ret]
          go_ret3
          exact ⟨by rw [HR.out]; rfl, rfl⟩
        · have hlt : n < l.length := by omega
          have hc := h4 n hlt
          have hd : l.drop n = l[n] :: l.drop (n + 1) := List.drop_eq_getElem_cons hlt
          have q1 : ((n : Int) == 10) = false := by simp; omega
          have q2 : ((n : Int) == (l.length : Int)) = false := by simp; omega
          have HD := Lib.hid hd
          clear hd
          generalize l[n] = c at hc HD
          have hcell : w.cell? ⟨b, off + n, none⟩ = some (.int .u8 (c.toNat : Int)) := hc
          clear hc h4
          have hcb : (c.toNat : Int) < 256 := by have := c.toNat_lt; omega
          have hb := take_bits (c := c) (n := n) (by omega) (hpow (by omega))
          have ⟨hlt1, hlt2⟩ := takeAcc_lt (c := c) (n := n) (by omega) (hpow (by omega))
          have HB := Lib.hid hb
          have HP : Hid (n ≤ 8 → takeAcc acc n c < 2 ^ (7 * (n + 1))) := hlt2
          have hn9 : n ≤ 9 := by omega
          clear hb hpow hlt2
          by_cases hc128 : c.toNat < 128
          · have hc0 : ((c.toNat : Int) == 0) = true ∨ ((c.toNat : Int) == 0) = false := by cases ((c.toNat : Int) == 0) <;> simp
            have hc1 : (c.toNat : Int) ≤ 1 ∨ 1 < (c.toNat : Int) := by omega
            have hq9 : ((n : Int) + 1 == 10) = true ∨ ((n : Int) + 1 == 10) = false := by cases ((n : Int) + 1 == 10) <;> simp
            have hq0 : n ≤ 0 ∨ 1 ≤ n := by omega
            rcases hc0 with hc0 | hc0 <;> rcases hc1 with hc1 | hc1 <;> rcases hq9 with hq9 | hq9 <;> rcases hq0 with hq0 | hq0
            all_goals
              have z0 := hc0
              have z9 := hq9
              simp only [beq_iff_eq, beq_eq_false_iff_ne, ne_eq] at z0 z9
            all_goals first
              | (exfalso; omega)
              | (have HR : Hid (takeF 0 0 l = (0, 0, 11)) := by rw [Hid, ← HE.out, HD.out]; exact takeF_bad hn1 hc128 (by omega)
                 clear hn1 hn2 z0 z9
                 go_wp2_with fail
                 try rw [Exit.noGoto_ret]
                 go_ret3
                 exact ⟨by rw [HR.out]; rfl, rfl⟩)
              | (have HR : Hid (takeF 0 0 l = (takeAcc acc n c, n + 1, 0)) := by rw [Hid, ← HE.out, HD.out]; exact takeF_good hn1 hc128 (by omega)
                 clear hn1 hn2 z0 z9
                 go_wp2_with fail
                 try rw [Exit.noGoto_ret]
                 go_ret3
                 refine ⟨?_, rfl⟩
                 rw [HR.out, takeV, ← HB.out]
                 go_num)
          · have HR : Hid (takeF (n + 1) (takeAcc acc n c) (l.drop (n + 1)) = takeF 0 0 l) := by rw [← HE.out, HD.out]; exact (takeF_more hn1 hc128).symm
            clear hn1 hn2
            go_wp2_with fail
            go_round
            case rel => exact ⟨n + 1, takeAcc acc n c, by omega, by omega, by go_num, by rw [HB.out], hlt1, fun h => HP.out (by omega), HR.out⟩
            case measure => simp [intOf]; omega

end Go.Proofs.YtcjbgchhalilnaaGreatDoor
