/- frame.Sum, seal and Make: the walks. -/
import Derived.Test.YtcjbgchhalilnaaGreatDoorVc
import Derived.Laws.Closers25b
import Derived.Laws.BitsLemmas
import Derived.Deep.Onto
namespace Go.Proofs.YtcjbgchhalilnaaGreatDoor
open Go Go.RowKit

def TrueEnd (w : World) (e : Ending) (w' : World) : Prop := e = .returned (.bool true) ∧ Below w.heap.size w w'

/-- The sixteen numbers of frame's table. -/
def halves : List Int := [0, 498536548, 997073096, 651767980, 1994146192, 1802195444, 1303535960, 1342533948, 3988292384, 4027552580, 3604390888, 3412177804, 2607071920, 2262029012, 2685067896, 3183342108]
/-- The table lies in its place. -/
def HalvesAt (w : World) : Prop := 0 < w.heap.size ∧ ∀ i : Nat, i < 16 → w.cell? ⟨0, i, none⟩ = some (.int .u32 (halves.getD i 0))
theorem HalvesAt.below {w w' : World} {B : Nat} (h : HalvesAt w) (hb : Below B w w') (hB : w.heap.size ≤ B) : HalvesAt w' :=
  ⟨Nat.lt_of_lt_of_le h.1 hb.size, fun i hi => (hb.cell (p := ⟨0, i, none⟩) (by have := h.1; show 0 < B; omega)).trans (h.2 i hi)⟩

def half (r : Int) : Int := bits .xor .u32 (r / 16) (halves.getD (r % 16).toNat 0)
def sumStep (r : Int) (c : UInt8) : Int := half (half (bits .xor .u32 r (c.toNat : Int)))
def sumR (l : List UInt8) : Int := l.foldl sumStep 4294967295
theorem sumR_snoc (l : List UInt8) (c : UInt8) : sumR (l ++ [c]) = sumStep (sumR l) c := by simp [sumR]
theorem half_range (r : Int) : 0 ≤ half r ∧ half r < 4294967296 := by
  have h1 := bits_lo_u32 .xor (r / 16) (halves.getD (r % 16).toNat 0)
  have h2 := bits_hi_u32 .xor (r / 16) (halves.getD (r % 16).toNat 0)
  unfold half
  omega
theorem sumR_range (l : List UInt8) : 0 ≤ sumR l ∧ sumR l < 4294967296 := by
  suffices h : ∀ (l : List UInt8) (r : Int), (0 ≤ r ∧ r < 4294967296) → 0 ≤ l.foldl sumStep r ∧ l.foldl sumStep r < 4294967296 from h l _ (by omega)
  intro l
  induction l with
  | nil => intro r h; exact h
  | cons c l ih => intro r _; exact ih _ (half_range _)
def sumF (l : List UInt8) : Int := bits .xor .u32 IntKind.u32.max (sumR l)
theorem sumF_range (l : List UInt8) : 0 ≤ sumF l ∧ sumF l ≤ 4294967295 := ⟨bits_lo_u32 _ _ _, bits_hi_u32 _ _ _⟩
theorem wraps_u32' (n : Int) (h₀ : 0 ≤ n) (h₁ : n < 2 ^ 32) : IntKind.u32.wrap n = n := by rw [IntKind.wrap_u32]; omega
theorem u32_and15 {x : Int} (h₀ : 0 ≤ x) (h₁ : x < 4294967296) : bits .and .u32 x 15 = x % 16 := bits_mask .u32 32 (by decide) wraps_u32' 4 (by decide) x h₀ h₁
/-- One half of a byte's step: what the walk meets, under names. -/
theorem half_names {w : World} (hT : HalvesAt w) (r : Int) (h0 : 0 ≤ r) (h1 : r < 4294967296) :
    ∃ (q : Nat) (h r2 : Int), bits .and .u32 r 15 = (q : Int) ∧ q < 16 ∧ w.cell? ⟨0, q, none⟩ = some (.int .u32 h) ∧ bits .xor .u32 (r / 16) h = r2 ∧ half r = r2 ∧ 0 ≤ r2 ∧ r2 < 4294967296 := by
  have hq : (r % 16).toNat < 16 := by omega
  refine ⟨(r % 16).toNat, halves.getD (r % 16).toNat 0, half r, ?_, hq, hT.2 _ hq, rfl, rfl, (half_range r).1, (half_range r).2⟩
  rw [u32_and15 h0 h1]
  omega

def SumRel (l : List UInt8) (w : World) (x i : Value) (wr : World) : Prop :=
  ∃ j : Nat, j ≤ l.length ∧ i = .int .i64 (j : Int) ∧ x = .int .u32 (sumR (l.take j)) ∧ wr = w

set_option maxRecDepth 100000 in
theorem Sum_any (v : Value) (l : List UInt8) (w : World) (hT : HalvesAt w) (hr : Reads w b8 v l) :
    Calls Tryz.prog 68 #[v] w fun e w' => e = .returned (.int .u32 (sumF l)) ∧ w' = w := by
  have hml := hr.len_le
  simp only [maxLen] at hml
  obtain ⟨ad, cap, rfl⟩ := hr.slice
  go_enter Tryz.func68, Tryz.ntmps68
  go_wp2_with fail
  go_loopw [3, 8] (fun x i wr => SumRel l w x i wr) (fun _ i _ => l.length - (intOf i).toNat)
  case atStart => exact ⟨0, Nat.zero_le _, rfl, rfl, rfl⟩
  case round =>
    obtain ⟨j, hj, rfl, rfl, rfl⟩ := hrel
    have hrg := sumR_range (l.take j)
    by_cases hlt : j < l.length
    · obtain ⟨b, off, rfl, hc⟩ := hr.elem hlt
      have hsn : Hid (sumR (l.take (j + 1)) = sumStep (sumR (l.take j)) l[j]) := by rw [Hid, List.take_succ_eq_append_getElem hlt, sumR_snoc]
      generalize sumR (l.take j) = r at hrg hsn
      generalize l[j] = c at hc hsn
      have hc' : wr.cell? ⟨b, off + j, none⟩ = some (.int .u8 (c.toNat : Int)) := hc
      have hc256 : (c.toNat : Int) < 256 := by have := c.toNat_lt; omega
      obtain ⟨r1, e1⟩ : ∃ r1, bits .xor .u32 r (c.toNat : Int) = r1 := ⟨_, rfl⟩
      have hr1 : 0 ≤ r1 ∧ r1 < 4294967296 := by
        have h1 := bits_lo_u32 .xor r (c.toNat : Int)
        have h2 := bits_hi_u32 .xor r (c.toNat : Int)
        omega
      obtain ⟨q1, g1, r2, e2, hq1, hc1, e3, e4, hr20, hr21⟩ := half_names hT r1 hr1.1 hr1.2
      obtain ⟨q2, g2, r3, e5, hq2, hc2, e6, e7, hr30, hr31⟩ := half_names hT r2 hr20 hr21
      have hs3 : Hid (sumR (l.take (j + 1)) = r3) := by rw [Hid, hsn.out, sumStep, e1, e4, e7]
      have hi1 : (q1 : Int) < 16 := by omega
      have hi2 : (q2 : Int) < 16 := by omega
      clear hc hsn e4 e7
      go_wp2_with fail
      go_roundw
      case rel => exact ⟨j + 1, hlt, by go_num, by rw [hs3.out], rfl⟩
      case measure => simp [intOf]; omega
    · have hjl : j = l.length := by omega
      subst hjl
      rw [List.take_length] at hrg ⊢
      go_wp2_with fail
      go_ret
      exact ⟨rfl, rfl⟩

/-- The four bytes of a sum. -/
def sumBytes (l : List UInt8) : List UInt8 := [UInt8.ofNat (sumF l / 16777216).toNat, UInt8.ofNat (sumF l / 65536 % 256).toNat, UInt8.ofNat (sumF l / 256 % 256).toNat, UInt8.ofNat (sumF l % 256).toNat]

theorem b8_of {n : Int} (h0 : 0 ≤ n) (h1 : n < 256) : b8 (UInt8.ofNat n.toNat) = .int .u8 n := by
  unfold b8
  rw [UInt8.toNat_ofNat']
  congr 1
  omega
theorem sumBytes_cells (l : List UInt8) : (#[.int .u8 (sumF l / 16777216), .int .u8 (sumF l / 65536 % 256), .int .u8 (sumF l / 256 % 256), .int .u8 (sumF l % 256)] : Array Value) = ((sumBytes l).map b8).toArray := by
  have hs := sumF_range l
  unfold sumBytes
  simp only [List.map_cons, List.map_nil]
  rw [b8_of (by omega) (by omega), b8_of (by omega) (by omega), b8_of (by omega) (by omega), b8_of (by omega) (by omega)]
theorem sumBytes_length (l : List UInt8) : (sumBytes l).length = 4 := rfl
def sealL (l : List UInt8) : List UInt8 := l ++ sumBytes l
def SealEnd (base : Nat) (l : List UInt8) (w : World) (e : Ending) (w' : World) : Prop :=
  ∃ v', e = .returned v' ∧ w'.ownsRow base 5 1 v' (sealL l).length ((sealL l).map b8) ∧ Below base w w'

set_option maxRecDepth 100000 in
theorem seal_any (base : Nat) (v : Value) (l : List UInt8) (w : World) (hT : HalvesAt w) (hlen : l.length ≤ 200000) (hbase : base ≤ w.heap.size) (hown : w.ownsRow base 5 1 v l.length (l.map b8)) :
    Calls Tryz.prog 54 #[v] w (SealEnd base l w) := by
  obtain ⟨i0, hi, hz0, hz1, hz2⟩ := info_parts info_u8
  have hr := Reads.of_owns hown
  have hs := sumF_range l
  have hcells := sumBytes_cells l
  have h4 := sumBytes_length l
  go_enter Tryz.func54, Tryz.ntmps54
  go_wp2_with fail
  refine (Sum_any v l w hT hr).mono ?_
  rintro e w1 ⟨rfl, rfl⟩
  generalize sumF l = x at hs hcells ⊢
  generalize hy : sumBytes l = y at hcells h4
  have HY := Lib.hid hy
  have hrb := Reads.built w1 _ 5 4 b8 y hcells h4 (by simp [maxLen])
  have hownA := hown.alloc (.cells #[.int .u8 (x / 16777216), .int .u8 (x / 65536 % 256), .int .u8 (x / 256 % 256), .int .u8 (x % 256)] 5)
  have hbA : base ≤ (w1.alloc (.cells #[.int .u8 (x / 16777216), .int .u8 (x / 65536 % 256), .int .u8 (x / 256 % 256), .int .u8 (x % 256)] 5)).heap.size := by simp; omega
  have hBel : Below base w1 (w1.alloc (.cells #[.int .u8 (x / 16777216), .int .u8 (x / 65536 % 256), .int .u8 (x / 256 % 256), .int .u8 (x % 256)] 5)) := (Below.refl _ _).alloc hbase _
  clear hy hcells hown hr
  go_wp2_with (at_builtin; refine wpList_extend rfl (.tmp 6) (.tmp 18) 43 rfl base 5 i0 _ 1 Tryz.underlying43 hi hz0 hz1 hz2 rfl b8 l y _ _ (fun _ => rfl) rfl hownA rfl hrb (by simp only [maxLen]; omega) (by omega) hbA ?_; intro v' w2 hown2 hb2 _)
  go_ret
  exact ⟨v', rfl, by rw [sealL, HY.out]; exact hown2, hBel.trans hb2⟩

/-- A body's frame. -/
def frameHead (k : UInt8) (l : List UInt8) : List UInt8 := [k] ++ Lib.uvarint l.length ++ l
def frameL (k : UInt8) (l : List UInt8) : List UInt8 := sealL (frameHead k l)

set_option maxRecDepth 100000 in
theorem Make_any (v : Value) (l : List UInt8) (w : World) (hT : HalvesAt w) (hlen : l.length ≤ 65535) (hr : Reads w b8 v l) :
    Calls Tryz.prog 34 #[.int .i64 5, v] w fun e w' => ∃ v', e = .returned (.tuple #[v', .int .i64 0]) ∧ w'.ownsRow w.heap.size 5 1 v' (frameL 5 l).length ((frameL 5 l).map b8) ∧ Below w.heap.size w w' := by
  obtain ⟨i0, hi, hz0, hz1, hz2⟩ := info_parts info_u8
  have hu : U64 l.length := by unfold U64; omega
  have hul : (Lib.uvarint l.length).length ≤ 10 := ulen_le hu
  have hA : Below w.heap.size w (w.alloc (.cells #[.int .u8 5] 5)) := (Below.refl _ _).alloc (Nat.le_refl _) _
  have hP := Put_any (.slice (some ⟨w.heap.size, 0, none⟩) 1 1) [5] l.length (w.alloc (.cells #[.int .u8 5] 5)) hu (by simp) (Reads.built w _ _ 1 b8 [5] rfl rfl (by simp [maxLen]))
  obtain ⟨ad, cap, rfl⟩ := hr.slice
  go_enter Tryz.func34, Tryz.ntmps34
  go_wp2_with fail
  refine hP.mono ?_
  rintro e w2 ⟨v2, rfl, hown2, hb2⟩
  have hb02 := hA.trans (hb2.mono hA.size)
  have hr2 := hr.below hb02 (Nat.le_refl _)
  have hown2' := hown2.mono (show w.heap.size ≤ _ from hA.size)
  have hsz := hb02.size
  have hl2 : ([5] ++ Lib.uvarint l.length).length ≤ 11 := by simp only [List.length_append, List.length_cons, List.length_nil]; omega
  clear hP hA hb2 hown2
  go_wp2_with (at_builtin; refine wpList_extend rfl (.tmp 25) (.tmp 26) 43 rfl w.heap.size 5 i0 _ 1 Tryz.underlying43 hi hz0 hz1 hz2 rfl b8 ([5] ++ Lib.uvarint l.length) l _ _ (fun _ => rfl) rfl hown2' rfl hr2 (by simp only [maxLen]; omega) (by omega) hsz ?_; intro v3 w3 hown3 hb3 _)
  have hb03 := hb02.trans hb3
  have hl3 : ([5] ++ Lib.uvarint l.length ++ l).length ≤ 200000 := by rw [List.length_append]; omega
  refine (seal_any w.heap.size v3 (frameHead 5 l) w3 (hT.below hb03 (Nat.le_refl _)) hl3 hb03.size hown3).mono ?_
  rintro e w4 ⟨v4, rfl, hown4, hb4⟩
  go_wp2_with fail
  go_ret2
  exact ⟨v4, rfl, hown4, hb03.trans hb4⟩
end Go.Proofs.YtcjbgchhalilnaaGreatDoor
