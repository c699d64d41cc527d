/- A manifest's bytes, plain: packed, unpacked, cut short, with more behind. -/
import Derived.Test.YtcjbgchhalilnaaGreatDoorPa
import Derived.Test.YtcjbgchhalilnaaGreatDoorEj
import Derived.Test.YtcjbgchhalilnaaGreatDoorEe
import Derived.Test.YtcjbgchhalilnaaGreatDoorEl
namespace Go.Proofs.YtcjbgchhalilnaaGreatDoor
open Go Go.RowKit Go.Lib

/-- May a manifest be? -/
def CheckP (m : Man) : Prop :=
  (0 ≤ m.seq ∧ m.seq ≤ 999999) ∧ (1 ≤ m.every ∧ m.every ≤ 1073741824) ∧ (1 ≤ m.keep ∧ m.keep ≤ 1099511627776) ∧ m.index.length ≤ 100 ∧ m.data.length ≤ 100 ∧ (namesL m).length = m.index.length + m.data.length ∧
    (∀ s ∈ m.index, 1 ≤ numF s 105 ∧ (numF s 105 : Int) ≤ m.seq) ∧ ∀ d ∈ m.data, (1 ≤ numF d.n 100 ∧ (numF d.n 100 : Int) ≤ m.seq) ∧ 0 ≤ d.m ∧ d.m ≤ 2147483647
open Classical in
noncomputable def checkN (m : Man) : Int := if CheckP m then 0 else 180
theorem checkN_ok {m : Man} (h : CheckP m) : checkN m = 0 := if_pos h
theorem checkN_no {m : Man} (h : ¬ CheckP m) : checkN m = 180 := if_neg h

/-- The numbers of a manifest. -/
def datN (d : D2) : List Nat := [d.m.toNat, numF d.n 100]
def bodyN (m : Man) : List Nat := [m.seq.toNat, m.every.toNat, m.keep.toNat, m.index.length] ++ m.index.map (fun s => numF s 105) ++ [m.data.length] ++ m.data.flatMap datN
def putN (l : List Nat) : List UInt8 := l.flatMap Lib.uvarint
def bodyL (m : Man) : List UInt8 := putN (bodyN m)
def packL (m : Man) : List UInt8 := frameL 5 (bodyL m)
theorem bodyN_length (m : Man) : (bodyN m).length = 5 + m.index.length + 2 * m.data.length := by
  have h : ∀ l : List D2, (l.flatMap datN).length = 2 * l.length := by
    intro l
    induction l with
    | nil => rfl
    | cons d l ih => simp only [List.flatMap_cons, List.length_append, ih, List.length_cons, datN, List.length_nil]; omega
  simp only [bodyN, List.length_append, List.length_map, h, List.length_cons, List.length_nil]
  omega
theorem putN_length (l : List Nat) (h : ∀ n ∈ l, U64 n) : (putN l).length ≤ 10 * l.length := by
  induction l with
  | nil => simp [putN]
  | cons n l ih =>
    have h1 := ih fun x hx => h x (List.mem_cons_of_mem _ hx)
    have h2 : (Lib.uvarint n).length ≤ 10 := ulen_le (h n (List.mem_cons_self ..))
    unfold putN at h1 ⊢
    rw [List.flatMap_cons, List.length_append, List.length_cons]
    omega
theorem bodyN_u64 {m : Man} (h : CheckP m) : ∀ n ∈ bodyN m, n ≤ 4611686018427387904 := by
  obtain ⟨h1, h2, h3, h4, h5, -, h7, h8⟩ := h
  intro n hn
  simp only [bodyN, List.mem_append, List.mem_cons, List.not_mem_nil, or_false, List.mem_map, List.mem_flatMap, datN] at hn
  rcases hn with (((rfl | rfl | rfl | rfl) | ⟨s, hs, rfl⟩) | rfl) | ⟨d, hd, rfl | rfl⟩
  · omega
  · omega
  · omega
  · omega
  · have := (h7 s hs).2; omega
  · omega
  · have := (h8 d hd).2; omega
  · have := (h8 d hd).1.2; omega
theorem bodyL_length {m : Man} (h : CheckP m) : (bodyL m).length ≤ 3050 := by
  have h0 := putN_length (bodyN m) fun n hn => by have := bodyN_u64 h n hn; unfold U64; omega
  have h1 := bodyN_length m
  have h4 := h.2.2.2.1
  have h5 := h.2.2.2.2.1
  unfold bodyL
  omega

/-! ### A frame, whole, cut short, with more behind -/
theorem takeRest_uvarint {u : Nat} (hu : U64 u) (rest : List UInt8) : takeRest (Lib.uvarint u ++ rest) = rest := by
  have hT := take_uvarint hu rest
  rw [takeRest, hT, if_pos rfl, List.drop_left]
theorem takeF_pre : ∀ (j m n acc y : Nat), y ≤ m → n + (Lib.uvarint y).length ≤ 10 → j < (Lib.uvarint y).length → takeF n acc ((Lib.uvarint y).take j) = (0, 0, 10) := by
  intro j
  induction j with
  | zero =>
    intro m n acc y _ hn _
    have := Lib.uvarint_pos y
    exact takeF_end _ _ (by omega)
  | succ j ih =>
    intro m n acc y hy hn hj
    by_cases hb : y < 128
    · rw [Lib.uvarint_small hb] at hj; simp at hj
    · have e : (y % 128 + 128).toUInt8.toNat = y % 128 + 128 := by rw [Nat.toUInt8, UInt8.toNat_ofNat']; omega
      rw [Lib.uvarint_big (by omega)] at hn hj ⊢
      rw [List.length_cons] at hn hj
      rw [List.take_succ_cons, takeF_more (by have := Lib.uvarint_pos (y / 128); omega) (by rw [e]; omega)]
      exact ih (y / 128) _ _ _ (Nat.le_refl _) (by omega) (by omega)

theorem frameL_eq (b : List UInt8) : frameL 5 b = 5 :: (Lib.uvarint b.length ++ (b ++ sumBytes (frameHead 5 b))) := by
  simp [frameL, sealL, frameHead, List.append_assoc]
theorem frameL_length (b : List UInt8) : (frameL 5 b).length = 1 + (Lib.uvarint b.length).length + b.length + 4 := by
  rw [frameL_eq]
  simp only [List.length_cons, List.length_append, sumBytes_length]
  omega
theorem next_frame {b : List UInt8} (hb : b.length ≤ 65535) (rest : List UInt8) : nextF (frameL 5 b ++ rest) = (0, 5, b, rest) := by
  have hu : U64 b.length := by unfold U64; omega
  have e : frameL 5 b ++ rest = 5 :: (Lib.uvarint b.length ++ ((b ++ sumBytes (frameHead 5 b)) ++ rest)) := by rw [frameL_eq]; simp [List.append_assoc]
  have hT := take_uvarint hu ((b ++ sumBytes (frameHead 5 b)) ++ rest)
  have hR := takeRest_uvarint hu ((b ++ sumBytes (frameHead 5 b)) ++ rest)
  have hd : (takeRest (Lib.uvarint b.length ++ ((b ++ sumBytes (frameHead 5 b)) ++ rest))).drop (b.length + 4) = rest := by
    rw [hR, show b.length + 4 = (b ++ sumBytes (frameHead 5 b)).length by rw [List.length_append, sumBytes_length], List.drop_left]
  have hl := frameL_length b
  have hk : ((5 : UInt8) :: (Lib.uvarint b.length ++ ((b ++ sumBytes (frameHead 5 b)) ++ rest))).length - ((takeRest (Lib.uvarint b.length ++ ((b ++ sumBytes (frameHead 5 b)) ++ rest))).drop (b.length + 4)).length = (frameL 5 b).length := by
    rw [hd, ← e, List.length_append]; omega
  have h0 := nextF_ok (c := 5) (n := (frameL 5 b).length) hT hb (by rw [hR]; simp only [List.length_append, sumBytes_length]; omega) hk.symm (by
    rw [← e, List.take_left' rfl]
    have h2 : (frameL 5 b ++ rest).take ((frameL 5 b).length - 4) = frameHead 5 b := by
      rw [List.take_append_of_le_length (by omega)]
      show (frameHead 5 b ++ sumBytes (frameHead 5 b)).take _ = _
      rw [List.take_left']
      show _ = (frameHead 5 b ++ sumBytes (frameHead 5 b)).length - 4
      rw [List.length_append, sumBytes_length]
      omega
    rw [h2]
    rfl)
  rw [e, h0, hd, hR]
  refine Prod.ext rfl (Prod.ext rfl (Prod.ext ?_ rfl))
  show List.take b.length _ = b
  rw [List.append_assoc, List.take_left' rfl]
theorem only_frame {b : List UInt8} (hb : b.length ≤ 65535) : onlyF (frameL 5 b) = (0, b) := by
  have h := next_frame hb []
  rw [List.append_nil] at h
  unfold onlyF
  rw [h, if_neg (by simp), if_neg (by simp)]
theorem only_more {b : List UInt8} (hb : b.length ≤ 65535) (c : UInt8) : onlyF (frameL 5 b ++ [c]) = (11, []) := by
  unfold onlyF
  rw [next_frame hb [c], if_neg (by simp), if_pos (by simp)]
theorem only_cut {b : List UInt8} (hb : b.length ≤ 65535) {k : Nat} (hk : k < (frameL 5 b).length) : onlyF ((frameL 5 b).take k) = (10, []) := by
  have hu : U64 b.length := by unfold U64; omega
  have hul : (Lib.uvarint b.length).length ≤ 10 := ulen_le hu
  have hl := frameL_length b
  have h : nextF ((frameL 5 b).take k) = (10, 0, [], []) := by
    cases k with
    | zero => rfl
    | succ k =>
      rw [frameL_eq, List.take_succ_cons]
      by_cases hc : k < (Lib.uvarint b.length).length
      · have ht := takeF_pre k _ 0 0 b.length (Nat.le_refl _) (by omega) hc
        rw [List.take_append_of_le_length (by omega), nextF_err (by rw [ht]; decide), ht]
        rfl
      · have h2 : (Lib.uvarint b.length ++ (b ++ sumBytes (frameHead 5 b))).take k = Lib.uvarint b.length ++ (b ++ sumBytes (frameHead 5 b)).take (k - (Lib.uvarint b.length).length) := by
          rw [List.take_append, List.take_of_length_le (by omega)]
        rw [h2]
        exact nextF_short (take_uvarint hu _) hb (by rw [takeRest_uvarint hu, List.length_take]; omega)
  unfold onlyF
  rw [h, if_pos (by decide)]

/-! ### Numbers taken -/
abbrev St := Bool × List UInt8
def numS (s : St) : Int × St := if s.1 = true ∧ (takeF 0 0 s.2).2.2 = 0 ∧ (takeF 0 0 s.2).1 ≤ 4611686018427387904 then (((takeF 0 0 s.2).1 : Int), (true, takeRest s.2)) else (0, (false, s.2))
theorem numS_range (s : St) : 0 ≤ (numS s).1 ∧ (numS s).1 ≤ 4611686018427387904 := by
  unfold numS
  by_cases h : s.1 = true ∧ (takeF 0 0 s.2).2.2 = 0 ∧ (takeF 0 0 s.2).1 ≤ 4611686018427387904
  · rw [if_pos h]; simp only; omega
  · rw [if_neg h]; simp only; omega
theorem takeRest_le (l : List UInt8) : (takeRest l).length ≤ l.length := by
  unfold takeRest
  by_cases h : (takeF 0 0 l).2.2 = 0
  · rw [if_pos h, List.length_drop]; omega
  · rw [if_neg h]; simp
theorem numS_len (s : St) : (numS s).2.2.length ≤ s.2.length := by
  unfold numS
  by_cases h : s.1 = true ∧ (takeF 0 0 s.2).2.2 = 0 ∧ (takeF 0 0 s.2).1 ≤ 4611686018427387904
  · rw [if_pos h]; exact takeRest_le _
  · rw [if_neg h]; exact Nat.le_refl _
theorem numS_put {n : Nat} (hn : n ≤ 4611686018427387904) (rest : List UInt8) : numS (true, Lib.uvarint n ++ rest) = ((n : Int), (true, rest)) := by
  have hu : U64 n := by unfold U64; omega
  unfold numS
  rw [show takeF 0 0 (true, Lib.uvarint n ++ rest).2 = _ from take_uvarint hu rest, show takeRest (true, Lib.uvarint n ++ rest).2 = _ from takeRest_uvarint hu rest, if_pos ⟨rfl, rfl, hn⟩]
def idxS : Nat → St → List (List UInt8) × St
  | 0, s => ([], s)
  | n + 1, s => (nameL 105 (numS s).1 :: (idxS n (numS s).2).1, (idxS n (numS s).2).2)
def datS : Nat → St → List D2 × St
  | 0, s => ([], s)
  | n + 1, s => (⟨(numS s).1, nameL 100 (numS (numS s).2).1⟩ :: (datS n (numS (numS s).2).2).1, (datS n (numS (numS s).2).2).2)
def cnt (n : Int) : Nat := (min n 101).toNat
def st1 (l : List UInt8) : St := (numS (true, l)).2
def st2 (l : List UInt8) : St := (numS (st1 l)).2
def st3 (l : List UInt8) : St := (numS (st2 l)).2
def st4 (l : List UInt8) : St := (numS (st3 l)).2
def st5 (l : List UInt8) : St := (idxS (cnt (numS (st3 l)).1) (st4 l)).2
def st6 (l : List UInt8) : St := (numS (st5 l)).2
def manS (l : List UInt8) : Man := ⟨(numS (true, l)).1, (numS (st1 l)).1, (numS (st2 l)).1, (idxS (cnt (numS (st3 l)).1) (st4 l)).1, (datS (cnt (numS (st5 l)).1) (st6 l)).1⟩
def endS (l : List UInt8) : St := (datS (cnt (numS (st5 l)).1) (st6 l)).2
def zeroM : Man := ⟨0, 0, 0, [], []⟩
open Classical in
/-- What unpacking gives: an errno, a manifest. -/
noncomputable def unpackF (l : List UInt8) : Int × Man :=
  if (onlyF l).1 ≠ 0 then ((onlyF l).1, zeroM)
  else if (endS (onlyF l).2).1 = true ∧ CheckP (manS (onlyF l).2) ∧ packL (manS (onlyF l).2) = l then (0, manS (onlyF l).2) else (180, zeroM)

theorem idxS_put : ∀ (l : List (List UInt8)) (rest : List UInt8), (∀ s ∈ l, 1 ≤ numF s 105) → idxS l.length (true, putN (l.map fun s => numF s 105) ++ rest) = (l, (true, rest)) := by
  intro l
  induction l with
  | nil => intro rest _; rfl
  | cons s l ih =>
    intro rest h
    obtain ⟨h1, h2⟩ := numF_pos (h s (List.mem_cons_self ..))
    have e : putN ((s :: l).map fun s => numF s 105) ++ rest = Lib.uvarint (numF s 105) ++ (putN (l.map fun s => numF s 105) ++ rest) := by simp [putN, List.append_assoc]
    rw [e, List.length_cons]
    unfold idxS
    rw [numS_put (by omega), ih rest fun x hx => h x (List.mem_cons_of_mem _ hx)]
    exact Prod.ext (by rw [← h1]) rfl
theorem datS_put : ∀ (l : List D2) (rest : List UInt8), (∀ d ∈ l, 1 ≤ numF d.n 100 ∧ 0 ≤ d.m ∧ d.m ≤ 2147483647) → datS l.length (true, putN (l.flatMap datN) ++ rest) = (l, (true, rest)) := by
  intro l
  induction l with
  | nil => intro rest _; rfl
  | cons d l ih =>
    intro rest h
    obtain ⟨g0, g1, g2⟩ := h d (List.mem_cons_self ..)
    obtain ⟨h1, h2⟩ := numF_pos g0
    have e : putN ((d :: l).flatMap datN) ++ rest = Lib.uvarint d.m.toNat ++ (Lib.uvarint (numF d.n 100) ++ (putN (l.flatMap datN) ++ rest)) := by simp [putN, datN, List.append_assoc]
    rw [e, List.length_cons]
    unfold datS
    rw [numS_put (by omega), numS_put (by omega), ih rest fun x hx => h x (List.mem_cons_of_mem _ hx)]
    refine Prod.ext ?_ rfl
    show D2.mk _ _ :: l = d :: l
    rw [show ((d.m.toNat : Nat) : Int) = d.m by omega, ← h1]

theorem man_body {m : Man} (h : CheckP m) : manS (bodyL m) = m ∧ (endS (bodyL m)).1 = true := by
  obtain ⟨h1, h2, h3, h4, h5, -, h7, h8⟩ := h
  obtain ⟨r6, e6⟩ : ∃ r, r = putN (m.data.flatMap datN) ++ [] := ⟨_, rfl⟩
  obtain ⟨r5, e5⟩ : ∃ r, r = Lib.uvarint m.data.length ++ r6 := ⟨_, rfl⟩
  obtain ⟨r4, e4⟩ : ∃ r, r = putN (m.index.map fun s => numF s 105) ++ r5 := ⟨_, rfl⟩
  obtain ⟨r3, e3⟩ : ∃ r, r = Lib.uvarint m.index.length ++ r4 := ⟨_, rfl⟩
  obtain ⟨r2, e2⟩ : ∃ r, r = Lib.uvarint m.keep.toNat ++ r3 := ⟨_, rfl⟩
  obtain ⟨r1, e1⟩ : ∃ r, r = Lib.uvarint m.every.toNat ++ r2 := ⟨_, rfl⟩
  have e : bodyL m = Lib.uvarint m.seq.toNat ++ r1 := by
    rw [e1, e2, e3, e4, e5, e6]
    simp [bodyL, bodyN, putN, List.append_assoc]
  have q1 : numS (true, bodyL m) = ((m.seq.toNat : Int), (true, r1)) := by rw [e]; exact numS_put (by omega) _
  have q1' : st1 (bodyL m) = (true, r1) := congrArg Prod.snd q1
  have q2 : numS (st1 (bodyL m)) = ((m.every.toNat : Int), (true, r2)) := by rw [q1', e1]; exact numS_put (by omega) _
  have q2' : st2 (bodyL m) = (true, r2) := congrArg Prod.snd q2
  have q3 : numS (st2 (bodyL m)) = ((m.keep.toNat : Int), (true, r3)) := by rw [q2', e2]; exact numS_put (by omega) _
  have q3' : st3 (bodyL m) = (true, r3) := congrArg Prod.snd q3
  have q4 : numS (st3 (bodyL m)) = ((m.index.length : Int), (true, r4)) := by rw [q3', e3]; exact numS_put (by omega) _
  have q4' : st4 (bodyL m) = (true, r4) := congrArg Prod.snd q4
  have c4 : cnt (numS (st3 (bodyL m))).1 = m.index.length := by rw [q4]; unfold cnt; simp only; omega
  have q5 : idxS (cnt (numS (st3 (bodyL m))).1) (st4 (bodyL m)) = (m.index, (true, r5)) := by rw [c4, q4', e4]; exact idxS_put m.index _ fun s hs => (h7 s hs).1
  have q5' : st5 (bodyL m) = (true, r5) := congrArg Prod.snd q5
  have q6 : numS (st5 (bodyL m)) = ((m.data.length : Int), (true, r6)) := by rw [q5', e5]; exact numS_put (by omega) _
  have q6' : st6 (bodyL m) = (true, r6) := congrArg Prod.snd q6
  have c6 : cnt (numS (st5 (bodyL m))).1 = m.data.length := by rw [q6]; unfold cnt; simp only; omega
  have q7 : datS (cnt (numS (st5 (bodyL m))).1) (st6 (bodyL m)) = (m.data, (true, [])) := by rw [c6, q6', e6]; exact datS_put m.data [] fun d hd => ⟨(h8 d hd).1.1, (h8 d hd).2⟩
  constructor
  · unfold manS
    rw [q1, q2, q3, q5, q7]
    simp only
    rw [show ((m.seq.toNat : Nat) : Int) = m.seq by omega, show ((m.every.toNat : Nat) : Int) = m.every by omega, show ((m.keep.toNat : Nat) : Int) = m.keep by omega]
  · unfold endS
    rw [q7]

/-! ### The laws -/
theorem unpack_pack {m : Man} (h : CheckP m) : unpackF (packL m) = (0, m) := by
  have hb := bodyL_length h
  have ho : onlyF (packL m) = (0, bodyL m) := only_frame (by omega)
  obtain ⟨h1, h2⟩ := man_body h
  unfold unpackF
  rw [ho, if_neg (by simp)]
  rw [if_pos ⟨h2, by rw [h1]; exact h, by rw [h1]⟩, h1]
theorem unpack_cut {m : Man} (h : CheckP m) {k : Nat} (hk : k < (packL m).length) : unpackF ((packL m).take k) = (10, zeroM) := by
  have hb := bodyL_length h
  unfold unpackF
  rw [show onlyF ((packL m).take k) = (10, []) from only_cut (by omega) hk, if_pos (by decide)]
theorem unpack_more {m : Man} (h : CheckP m) (c : UInt8) : unpackF (packL m ++ [c]) = (11, zeroM) := by
  have hb := bodyL_length h
  unfold unpackF
  rw [show onlyF (packL m ++ [c]) = (11, []) from only_more (by omega) c, if_pos (by decide)]
theorem unpack_ok {l : List UInt8} (h : (unpackF l).1 = 0) : CheckP (unpackF l).2 ∧ packL (unpackF l).2 = l := by
  unfold unpackF at h ⊢
  by_cases h1 : (onlyF l).1 ≠ 0
  · rw [if_pos h1] at h; exact absurd h h1
  · rw [if_neg h1] at h ⊢
    by_cases h2 : (endS (onlyF l).2).1 = true ∧ CheckP (manS (onlyF l).2) ∧ packL (manS (onlyF l).2) = l
    · rw [if_pos h2]; exact h2.2
    · rw [if_neg h2] at h; simp at h
theorem unpack_no {l : List UInt8} (h : (unpackF l).1 ≠ 0) : (unpackF l).2 = zeroM := by
  unfold unpackF at h ⊢
  by_cases h1 : (onlyF l).1 ≠ 0
  · rw [if_pos h1]
  · rw [if_neg h1] at h ⊢
    by_cases h2 : (endS (onlyF l).2).1 = true ∧ CheckP (manS (onlyF l).2) ∧ packL (manS (onlyF l).2) = l
    · rw [if_pos h2] at h; simp at h
    · rw [if_neg h2]
theorem unpack_lens {l : List UInt8} : (unpackF l).2.index.length ≤ 101 ∧ (unpackF l).2.data.length ≤ 101 := by
  by_cases h : (unpackF l).1 = 0
  · have := (unpack_ok h).1
    have h4 := this.2.2.2.1
    have h5 := this.2.2.2.2.1
    omega
  · rw [unpack_no h]
    exact ⟨by decide, by decide⟩
/-- Of names: each once. -/
theorem names_nodup {m : Man} : (namesL m).length = m.index.length + m.data.length ↔ (m.index ++ m.data.map (·.n)).Nodup := by
  have h := nodup_iff_rise ordS (m.index ++ m.data.map (·.n))
  rw [List.length_append, List.length_map] at h
  exact h
end Go.Proofs.YtcjbgchhalilnaaGreatDoor
