/- VarintTurned: the walk of the law. -/
import Derived.Test.YtmdojdpokghihaaVf
namespace Go.Proofs.Ytmdojdpokghihaa
open Go Go.RowKit

theorem zag_back (n : Int) (w : World) (hn : I64 n) : Calls Try.prog 10 #[.int .u64 (Lib.zigzag n : Nat)] w fun e w' => e = .returned (.int .i64 n) ∧ w = w' := by
  have h := zag_any (Lib.zigzag n) w hn.zigzag
  rw [zag_zigzag] at h
  exact h
theorem zig_back (u : Nat) (w : World) (hu : U64 u) : Calls Try.prog 9 #[.int .i64 (zag u)] w fun e w' => e = .returned (.int .u64 (u : Int)) ∧ w = w' := by
  have h := zig_any (zag u) w (zag_range hu).1 (zag_range hu).2
  rw [zigzag_zag] at h
  exact h
theorem zigzag_bit_neg {n : Int} (hn : I64 n) (h : n < 0) : bits .and .u64 (Lib.zigzag n : Nat) 1 = 1 := by
  have h2 : Lib.zigzag n < 18446744073709551616 := hn.zigzag
  rw [Lib.u64_and1 _ (by omega) (by omega), Lib.zigzag, if_neg (by omega)]
  omega
theorem zigzag_bit_pos {n : Int} (hn : I64 n) (h : 0 ≤ n) : bits .and .u64 (Lib.zigzag n : Nat) 1 = 0 := by
  have h2 : Lib.zigzag n < 18446744073709551616 := hn.zigzag
  rw [Lib.u64_and1 _ (by omega) (by omega), Lib.zigzag, if_pos (by omega)]
  omega
theorem zag_lt_pos {n : Int} {u : Nat} (h : 0 ≤ n) (h2 : n < zag u) : Lib.zigzag n < u := by
  unfold zag at h2
  rw [Lib.zigzag, if_pos h]
  split at h2 <;> omega
theorem zag_lt_neg {n : Int} {u : Nat} (h : n < 0) (h2 : zag u < n) : Lib.zigzag n < u := by
  unfold zag at h2
  rw [Lib.zigzag, if_neg (by omega)]
  split at h2 <;> omega

set_option maxRecDepth 100000 in
set_option maxHeartbeats 4000000 in
theorem turned_walk (n : Int) (u : Nat) (w : World) (hn : I64 n) (hu : U64 u) :
    Calls Try.prog 3 #[.int .i64 n, .int .u64 (u : Int)] w (TrueEnd w) := by
  have hc1 : n < 0 ∨ 0 ≤ n := by omega
  have hc2 : zag u < 0 ∨ 0 ≤ zag u := by omega
  have hc3 : zag u < n ∨ n < zag u ∨ n = zag u := by omega
  have hlt := @zag_lt_pos n u
  have hgt := @zag_lt_neg n u
  have hzb := @zigzag_bit_neg n hn
  have hzp := @zigzag_bit_pos n hn
  generalize hm : zag u = m at *
  have HM := Lib.hid hm
  clear hm
  rcases hc1 with h1 | h1 <;> rcases hc2 with h2 | h2 <;> rcases hc3 with h3 | h3 | h3
  all_goals try (exfalso; omega)
  all_goals first | have hq := hzb h1 | have hq := hzp h1
  all_goals try have hr := hlt h1 h3
  all_goals try have hr := hgt h1 h3
  all_goals clear hlt hgt hzb hzp
  all_goals try subst h3
  all_goals
    go_enter Try.func3, Try.ntmps3
    go_wp2_with fail
    refine (awake_any w).mono ?_
    rintro e w1 ⟨rfl, hb1⟩
    go_wp2_with fail
    refine (zig_any n w1 hn.1 hn.2).mono ?_
    rintro e w2 ⟨rfl, rfl⟩
    go_wp2_with fail
    refine (zag_back n w1 hn).mono ?_
    rintro e w2 ⟨rfl, rfl⟩
    go_wp2_with fail
    refine (zag_any u w1 hu).mono ?_
    rintro e w2 ⟨rfl, rfl⟩
    go_wp2_with fail
    refine (zig_back u w1 hu).mono ?_
    rintro e w2 ⟨rfl, rfl⟩
    go_wp2_with fail
    refine (zag_any u w1 hu).mono ?_
    rintro e w2 ⟨rfl, rfl⟩
    rw [HM.out]
    go_wp2_with fail
    all_goals go_ret
    all_goals first | exact ⟨rfl, hb1⟩ | exact ⟨by simp; omega, hb1⟩

end Go.Proofs.Ytmdojdpokghihaa
