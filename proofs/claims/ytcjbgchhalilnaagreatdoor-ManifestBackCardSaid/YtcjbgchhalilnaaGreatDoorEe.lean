/- A name's number: manifest.number. -/
import Derived.Test.YtcjbgchhalilnaaGreatDoorEd
import Derived.Lib.AtoiBound
namespace Go.Proofs.YtcjbgchhalilnaaGreatDoor
open Go Go.RowKit

theorem decFrom_snoc : ∀ (l : List UInt8) (acc : Nat) (b : UInt8), Lib.decFrom acc (l ++ [b]) = (Lib.decFrom acc l).bind fun m => (Lib.digitVal b).map fun d => m * 10 + d
  | [], acc, b => by
    show (match Lib.digitVal b with | some d => Lib.decFrom (acc * 10 + d) [] | none => none) = _
    cases Lib.digitVal b <;> rfl
  | c :: l, acc, b => by
    show (match Lib.digitVal c with | some d => Lib.decFrom (acc * 10 + d) (l ++ [b]) | none => none) = (match Lib.digitVal c with | some d => Lib.decFrom (acc * 10 + d) l | none => none).bind _
    cases Lib.digitVal c with
    | none => rfl
    | some d => exact decFrom_snoc l _ b
theorem decFrom_pad : ∀ (k n : Nat), n < 10 ^ k → Lib.decFrom 0 (padL k n) = some n
  | 0, n, h => by simp at h; subst h; rfl
  | k + 1, n, h => by
    rw [padL, decFrom_snoc, decFrom_pad k (n / 10) (by rw [Nat.pow_succ] at h; omega)]
    have hd : Lib.digitVal (UInt8.ofNat (48 + n % 10)) = some (n % 10) := by
      unfold Lib.digitVal
      rw [byte_of (by omega), if_pos (by omega)]
      congr 1
      omega
    rw [Option.bind_some, hd, Option.map_some]
    congr 1
    omega
theorem padL_head : ∀ (k n : Nat), ∃ c r, padL (k + 1) n = c :: r ∧ 48 ≤ c.toNat ∧ c.toNat ≤ 57
  | 0, n => ⟨UInt8.ofNat (48 + n % 10), [], by rw [padL, padL]; rfl, by rw [byte_of (by omega)]; omega⟩
  | k + 1, n => by
    obtain ⟨c, r, h, h1⟩ := padL_head k (n / 10)
    exact ⟨c, r ++ [UInt8.ofNat (48 + n % 10)], by rw [padL, h]; rfl, h1⟩
theorem atoi_pad (n : Nat) (h : n < 10 ^ 6) : Lib.atoi (padL 6 n) = some (n : Int) := by
  obtain ⟨c, r, hc, h1, h2⟩ := padL_head 5 n
  have hd := decFrom_pad 6 n h
  rw [hc] at hd ⊢
  have e1 : (c == 45) = false := by
    rw [beq_eq_false_iff_ne]
    intro e
    subst e
    revert h1
    decide
  have e2 : (c == 43) = false := by
    rw [beq_eq_false_iff_ne]
    intro e
    subst e
    revert h1
    decide
  show (if (c == 45) = true then _ else if (c == 43) = true then _ else (Lib.decNat (c :: r)).map _) = _
  rw [e1, e2, if_neg (by decide), if_neg (by decide)]
  show ((Lib.decFrom 0 (c :: r)).map fun (m : Nat) => (m : Int)) = _
  rw [hd]
  rfl

/-- A name's number; 0: it is none of this kind. -/
def numF (s : List UInt8) (k : Nat) : Nat :=
  match Lib.atoi (s.drop 1) with
  | some v => if s.length = 7 ∧ nameL k v = s then v.toNat else 0
  | none => 0
theorem numF_name (k : Nat) (n : Int) : numF (nameL k n) k = numB n := by
  have h : (nameL k n).drop 1 = padL 6 (numB n) := rfl
  unfold numF
  rw [h, atoi_pad _ (numB_lt n)]
  have h2 : nameL k (numB n : Int) = nameL k n := by
    unfold nameL
    rw [show numB (numB n : Int) = numB n by unfold numB; omega]
  simp [nameL_length, h2]
theorem numF_short {s : List UInt8} {k : Nat} (h : s.length ≠ 7) : numF s k = 0 := by
  unfold numF
  cases Lib.atoi (s.drop 1) <;> simp [h]
theorem numF_none {s : List UInt8} {k : Nat} (h : Lib.atoi (s.drop 1) = none) : numF s k = 0 := by unfold numF; rw [h]
theorem numF_some {s : List UInt8} {k : Nat} {v : Int} (h : Lib.atoi (s.drop 1) = some v) (h7 : s.length = 7) : (if nameL k v = s then v else 0) = (numF s k : Int) := by
  by_cases e : nameL k v = s
  · have h0 : 0 ≤ v := by
      rw [← e, show (nameL k v).drop 1 = padL 6 (numB v) from rfl, atoi_pad _ (numB_lt v)] at h
      injection h with h
      omega
    unfold numF
    rw [h]
    simp only [h7, e, and_self, if_true]
    omega
  · unfold numF
    rw [h]
    simp [e]
/-- What has a number is its name. -/
theorem numF_pos {s : List UInt8} {k : Nat} (h : 1 ≤ numF s k) : s = nameL k (numF s k : Int) ∧ numF s k ≤ 999999 := by
  unfold numF at h ⊢
  cases ha : Lib.atoi (s.drop 1) with
  | none => rw [ha] at h; simp at h
  | some v =>
    rw [ha] at h
    by_cases e : s.length = 7 ∧ nameL k v = s
    · simp only [if_pos e] at h ⊢
      have h2 := e.2
      rw [← h2, show (nameL k v).drop 1 = padL 6 (numB v) from rfl, atoi_pad _ (numB_lt v)] at ha
      injection ha with ha
      have h3 := numB_lt v
      refine ⟨?_, by omega⟩
      rw [show ((v.toNat : Nat) : Int) = v by omega]
      exact h2.symm
    · simp [if_neg e] at h

theorem str_from1 {s : List UInt8} (h : s.length = 7) : ({ data := s.toArray } : ByteArray).extract 1 7 = ⟨(s.drop 1).toArray⟩ := by
  have h2 : (s.drop 1).take 6 = s.drop 1 := List.take_of_length_le (by simp [h])
  rw [ByteArray.extract_mk]
  simp only [show (7 : Nat) - 1 = 6 from rfl, h2]

set_option maxRecDepth 100000 in
theorem number_any (s : List UInt8) (k : Nat) (w : World) (hT : Laid w) (hk : k < 256) :
    Calls Tryz.prog 32 #[encStr s, .int .u8 (k : Int)] w fun e w' => e = .returned (.int .i64 (numF s k : Int)) ∧ Below w.heap.size w w' := by
  by_cases h7 : s.length = 7
  · have hdl : (s.drop 1).length = 6 := by simp [h7]
    have hx := str_from1 h7
    have HS := fun v => Lib.hid (numF_some (s := s) (k := k) (v := v) · h7)
    have HN := Lib.hid (numF_none (s := s) (k := k))
    generalize s.drop 1 = t at *
    obtain ⟨t1, p1, hsyn⟩ := hT.2.2.2.1
    cases ha : Lib.atoi t with
    | none =>
      have hC := Tryz.strconv_Atoi_err ⟨t.toArray⟩ (by simp [ByteArray.size, hdl]) ha _ w hsyn (.inr ⟨_, _, rfl⟩)
      have hz := HN.out ha
      clear HS HN ha
      go_enter Tryz.func32, Tryz.ntmps32
      go_wp2_with fail
      refine hC.mono ?_
      rintro e w1 ⟨N, rfl, -, -, hb⟩
      go_wp2_with fail
      go_ret
      exact ⟨by rw [hz]; rfl, hb⟩
    | some v =>
      have hC := Tryz.strconv_Atoi ⟨t.toArray⟩ v (by simp [ByteArray.size, hdl]) ha w
      have hbd := Lib.atoi_bound ha (by omega)
      have hz := Lib.hid ((HS v).out ha)
      clear HS HN ha
      go_enter Tryz.func32, Tryz.ntmps32
      go_wp2_with fail
      refine hC.mono ?_
      rintro e w1 ⟨rfl, tt, rfl⟩
      go_wp2_with fail
      have hb := Lib.bytesWorld_below w 5 tt
      refine (Name_any k v _ (hT.below hb (Nat.le_refl _)) hk (by omega)).mono ?_
      rintro e w2 ⟨rfl, hb2⟩
      have hb02 := hb.trans (hb2.mono hb.size)
      clear hb hb2
      by_cases he : nameL k v = s
      · rw [if_pos he] at hz
        rw [he]
        go_wp2_with fail
        go_ret
        exact ⟨by rw [hz.out]; rfl, hb02⟩
      · rw [if_neg he] at hz
        have he' : (nameL k v == s) = false := by simp [he]
        go_wp2_with fail
        go_ret
        exact ⟨by rw [← hz.out]; rfl, hb02⟩
  · have hz := numF_short (k := k) h7
    go_enter Tryz.func32, Tryz.ntmps32
    go_wp2_with fail
    go_ret
    exact ⟨by rw [hz]; rfl, Below.refl _ _⟩
end Go.Proofs.YtcjbgchhalilnaaGreatDoor
