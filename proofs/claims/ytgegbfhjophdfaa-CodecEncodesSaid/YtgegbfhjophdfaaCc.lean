/- codec: the methods that make a row's numbers by each kind: first. -/
import Derived.Test.YtgegbfhjophdfaaCb
import Derived.Laws.OwnMore
import Derived.Deep.Onto
namespace Go.Proofs.Ytgegbfhjophdfaa
open Go Go.RowKit

/-- WHAT A CALL THAT MAKES A NEW ROW OF NUMBERS LEAVES. -/
def NewInts (l : List Int) (w : World) (e : Ending) (w' : World) : Prop :=
  ∃ v', e = .returned v' ∧ w'.ownsRow w.heap.size 2 1 v' l.length (l.map vi64) ∧ Below w.heap.size w w'

theorem info_i64c : (Try.prog.info? 2).map (fun i => (i.zero, i.size, i.bytes)) = some (some (.int .i64 0), 1, 8) := by kernel_rfl

set_option maxRecDepth 100000 in
theorem cloneRow_any (v : Value) (xs : List Int) (w : World) (hxs : xs.length ≤ 8796093022208) (hr : Reads w vi64 v xs) :
    Calls Try.prog 34 #[v] w (NewInts xs w) := by
  obtain ⟨i0, hi, hz0, hz1, hz2⟩ := info_parts info_i64c
  obtain ⟨ad, cap, rfl⟩ := hr.slice
  cases ad with
  | none =>
    have hx : xs = [] := by
      rcases hr with ⟨h, _⟩ | ⟨b, off, cap', h, _⟩
      · exact h
      · simp at h
    subst hx
    have hn := fun (w : World) => Lib.run_eql_slice_nil (P := Try.prog) w 41 2 none 0 cap 0 0 Try.underlying41
    go_enter Try.func34, Try.ntmps34
    go_wp2
    go_ret
    exact ⟨_, rfl, World.ownsRow_nil _ _ _ _, Below.refl _ _⟩
  | some ad =>
    have hn := fun (w : World) => Lib.run_eql_slice_nil (P := Try.prog) w 41 2 (some ad) xs.length cap 0 0 Try.underlying41
    have hb0 : Below w.heap.size w (w.alloc (.cells #[] 2)) := (Below.refl _ _).alloc (Nat.le_refl _) _
    go_enter Try.func34, Try.ntmps34
    go_wp2_with (at_builtin; refine wpList_extend rfl (.tmp 5) (.tmp 6) 41 rfl w.heap.size 2 i0 _ 8 Try.underlying41 hi hz0 hz1 hz2 rfl vi64 [] xs _ _ (fun _ => rfl) rfl (World.ownsRow_made w #[] 0 (Nat.le_refl _) (by simp [maxLen]) rfl) rfl (hr.below hb0 (Nat.le_refl _)) (by simp only [maxLen, List.length_nil]; omega) (by simp only [List.length_nil]; omega) hb0.size ?_; intro v1 w1 hown1 hb1 _)
    go_ret
    exact ⟨v1, rfl, hown1, hb0.trans hb1⟩

theorem set_upto {F l : List Int} (h : F.length = l.length) (k : Nat) (hk : k < l.length) : (F.take k ++ l.drop k).set k (F.getD k 0) = F.take (k + 1) ++ l.drop (k + 1) := by
  apply List.ext_getElem?
  intro i
  rw [List.getElem?_set]
  have h1 : (F.take k).length = k := by simp; omega
  have h2 : (F.take (k + 1)).length = k + 1 := by simp; omega
  rcases Nat.lt_trichotomy i k with h3 | h3 | h3
  · rw [if_neg (by omega), List.getElem?_append_left (by omega), List.getElem?_append_left (by omega), List.getElem?_take_of_lt h3, List.getElem?_take_of_lt (by omega)]
  · subst h3
    rw [if_pos rfl, if_pos (by simp; omega), List.getElem?_append_left (by omega), List.getElem?_take_of_lt (by omega)]
    simp [show i < F.length by omega]
  · rw [if_neg (by omega), List.getElem?_append_right (by omega), List.getElem?_append_right (by omega), h1, h2, List.getElem?_drop, List.getElem?_drop]
    congr 1
    omega

/-- The first number, and the differences. -/
def firstL (l : List Int) : List Int := l.take 1 ++ steps l
theorem firstL_length (l : List Int) : (firstL l).length = l.length := by
  rw [firstL, List.length_append, steps_length, List.length_take]
  omega
theorem firstL_get (l : List Int) (k : Nat) (h0 : 1 ≤ k) (hk : k < l.length) : (firstL l).getD k 0 = df l k := by
  have h1 : k - 1 < (steps l).length := by rw [steps_length]; omega
  have := steps_get l (k - 1) h1 (by omega)
  have h2 : (firstL l)[k]? = (steps l)[k - 1]? := by
    rw [firstL, List.getElem?_append_right (by simp; omega)]
    congr 1
    simp
    omega
  rw [List.getD_eq_getElem?_getD, h2, List.getElem?_eq_getElem h1, Option.getD_some, this, df]
  congr 1
  · simp [show k - 1 + 1 = k by omega, hk]
  · simp [show k - 1 < l.length by omega]
theorem firstL_one (l : List Int) (hl : 1 ≤ l.length) : (firstL l).take 1 ++ l.drop 1 = l := by
  match l, hl with
  | a :: r, _ => simp [firstL]

/-- first's loop: before k the numbers are those of the answer, from k on those of the row. -/
def FirstRel (l F : List Int) (B g cap : Nat) (w : World) (x : Value) (wr : World) : Prop :=
  ∃ k : Nat, k ≤ l.length ∧ x = .int .i64 (k : Int) ∧ wr.ownsRow B 2 1 (.slice (some ⟨g, 0, none⟩) l.length cap) l.length ((F.take k ++ l.drop k).map vi64) ∧ Below B w wr

theorem own_store {w : World} {B g cap n : Nat} {e : TypeId} {c : List Int} (h : w.ownsRow B e 1 (.slice (some ⟨g, 0, none⟩) n cap) n (c.map vi64)) (k : Nat) (x : Int) {W : World} (hb : Below B W w) :
    (w.setCell ⟨g, k, none⟩ (.int .i64 x)).ownsRow B e 1 (.slice (some ⟨g, 0, none⟩) n cap) n ((c.set k x).map vi64) ∧ Below B W (w.setCell ⟨g, k, none⟩ (.int .i64 x)) := by
  have hs := h.stored k (.int .i64 x)
  refine ⟨?_, ?_⟩
  · have e1 : (c.set k x).map vi64 = (c.map vi64).set k (.int .i64 x) := by rw [List.map_set]; rfl
    rw [e1]
    exact hs.1
  · exact hb.setCell (h.lt g rfl).1 _

/-- WHAT first HANDS BACK: a row of its own. -/
def FirstEnd (r : List Int) (w : World) (e : Ending) (w' : World) : Prop :=
  ∃ v', e = .returned (.tuple #[v', .bool true]) ∧ w'.ownsRow w.heap.size 2 1 v' r.length (r.map vi64) ∧ Below w.heap.size w w'

set_option maxRecDepth 100000 in
set_option maxHeartbeats 2000000 in
theorem first_any (v : Value) (l : List Int) (w : World) (hl : l.length ≤ 8796093022208) (hr : Reads w vi64 v l) :
    Calls Try.prog 21 #[v] w (FirstEnd (firstL l) w) := by
  obtain ⟨ad, cap, rfl⟩ := hr.slice
  have hb0 : Below w.heap.size w (w.alloc (.cells #[.slice ad l.length cap] 41)) := (Below.refl _ _).alloc (Nat.le_refl _) _
  have hr0 := hr.below hb0 (Nat.le_refl _)
  have hp0 : (w.alloc (.cells #[.slice ad l.length cap] 41)).cell? ⟨w.heap.size, 0, none⟩ = some (.slice ad l.length cap) := World.cell?_alloc_at _ _ _ _ rfl
  have hs0 : w.heap.size < (w.alloc (.cells #[.slice ad l.length cap] 41)).heap.size := by simp
  have hcl := cloneRow_any _ l (w.alloc (.cells #[.slice ad l.length cap] 41)) hl hr0
  go_enter Try.func21, Try.ntmps21
  go_wp2_with fail
  refine (diffs_any _ _ _ w).mono ?_
  rintro e w1 ⟨rfl, rfl⟩
  generalize (w.alloc (.cells #[.slice ad l.length cap] 41)) = w0 at hb0 hr0 hp0 hs0 hcl ⊢
  go_wp2_with fail
  refine hcl.mono ?_
  rintro e w1 ⟨v1, rfl, hown1, hb1⟩
  clear hcl
  by_cases hl0 : l.length = 0
  · have hln : l = [] := List.eq_nil_of_length_eq_zero hl0
    subst hln
    obtain ⟨a1, c1, rfl⟩ := owns_slice hown1
    go_wp2_with fail
    refine wp_loop_rounds 1 ?_
    rw [rounds_succ]
    go_wp2_with fail
    go_ret2
    exact ⟨_, rfl, hown1.mono (Nat.le_of_lt hs0), hb0.trans (hb1.mono (Nat.le_of_lt hs0))⟩
  · obtain ⟨g, c1, rfl, hc1, hc2⟩ := owns_some hown1 (by simpa using hl0)
    have hm : l.length ≤ 9223372036854775807 := by omega
    go_wp2_with fail
    go_loopw [13, 6] (fun x _ wr => FirstRel l (firstL l) w0.heap.size g c1 w0 x wr) (fun x _ _ => l.length - (intOf x).toNat)
    case atStart => exact ⟨0, Nat.zero_le _, rfl, by simpa using hown1, hb1⟩
    case round =>
      obtain ⟨k, hk, rfl, hown, hbel⟩ := hrel
      by_cases hlt : k < l.length
      · have hfz := hown.frozenAt k
        obtain ⟨y, hcell⟩ : ∃ y, wr.cell? ⟨g, k, none⟩ = some y := ⟨_, (hown.cellAt k (by omega)).trans (List.getElem?_eq_getElem (by simp [firstL_length]; omega))⟩
        by_cases hk0 : 1 ≤ k
        · have hst := fun (W : World) (x : Int) (h : W.ownsRow w0.heap.size 2 1 (.slice (some ⟨g, 0, none⟩) l.length c1) l.length (((firstL l).take k ++ l.drop k).map vi64)) (hb : Below w0.heap.size w0 W) => own_store h k x hb
          go_wp2_with fail
          refine (diff_any wr _ _ l k ((hbel.cell (p := ⟨w.heap.size, 0, none⟩) hs0).trans hp0) (hr0.below hbel (Nat.le_refl _)) hk0 hlt).mono ?_
          rintro e w2 ⟨rfl, m, rfl⟩
          have hst1 := hst (wr.drewN m) (df l k) hown (Below.drewN hbel m)
          clear hst
          go_wp2_with fail
          go_roundw
          case rel => exact ⟨k + 1, by omega, by go_num, by rw [← set_upto (firstL_length l) k hlt, firstL_get l k hk0 hlt]; exact hst1.1, hst1.2⟩
          case measure => simp [intOf]; omega
        · have hk1 : k = 0 := by omega
          subst hk1
          go_wp2_with fail
          go_roundw
          case rel => exact ⟨1, by omega, by go_num, by rw [firstL_one _ hlt]; simpa using hown, hbel⟩
          case measure => simp [intOf]; omega
      · have hk1 : k = l.length := by omega
        subst hk1
        go_wp2_with fail
        go_ret2
        rw [List.take_of_length_le (Nat.le_of_eq (firstL_length l)), List.drop_eq_nil_of_le (Nat.le_refl _), List.append_nil] at hown
        have hown2 : wr.ownsRow w0.heap.size 2 1 (.slice (some ⟨g, 0, none⟩) l.length c1) (firstL l).length ((firstL l).map vi64) := by rw [firstL_length]; exact hown
        exact ⟨_, rfl, hown2.mono (Nat.le_of_lt hs0), hb0.trans (hbel.mono (Nat.le_of_lt hs0))⟩

/-- The first number, the first difference, and the differences of the differences. -/
def secondL (l : List Int) : List Int := l.take 1 ++ firstL (steps l)
theorem secondL_length (l : List Int) : (secondL l).length = l.length := by
  rw [secondL, List.length_append, firstL_length, steps_length, List.length_take]
  omega
theorem secondL_get (l : List Int) (k : Nat) (h0 : 2 ≤ k) (hk : k < l.length) : (secondL l).getD k 0 = wsub (df l k) (df l (k - 1)) := by
  have h1 : k - 1 < (steps l).length := by rw [steps_length]; omega
  have h2 : (secondL l).getD k 0 = (firstL (steps l)).getD (k - 1) 0 := by
    rw [secondL, List.getD_eq_getElem?_getD, List.getElem?_append_right (by simp; omega), List.getD_eq_getElem?_getD]
    congr 2
    simp
    omega
  have h3 : ∀ j, 1 ≤ j → j < l.length → (steps l).getD (j - 1) 0 = df l j := fun j hj0 hj => by
    have h4 : j - 1 < (steps l).length := by rw [steps_length]; omega
    rw [List.getD_eq_getElem?_getD, List.getElem?_eq_getElem h4, Option.getD_some, steps_get l (j - 1) h4 (by omega), df]
    congr 1
    · simp [show j - 1 + 1 = j by omega, hj]
    · simp [show j - 1 < l.length by omega]
  rw [h2, firstL_get _ _ (by omega) h1, df, h3 k (by omega) hk, h3 (k - 1) (by omega) (by omega)]
theorem secondL_two (l : List Int) (hl : 2 ≤ l.length) : (secondL l).take 2 ++ (firstL l).drop 2 = firstL l := by
  match l, hl with
  | a :: b :: r, _ => simp [firstL, secondL, steps]

def SecondRel (G F : List Int) (B g cap : Nat) (w : World) (x : Value) (wr : World) : Prop :=
  ∃ k : Nat, 2 ≤ k ∧ k ≤ F.length ∧ x = .int .i64 (k : Int) ∧ wr.ownsRow B 2 1 (.slice (some ⟨g, 0, none⟩) F.length cap) F.length ((G.take k ++ F.drop k).map vi64) ∧ Below B w wr

def kind3 (l : List Int) : Option (List Int) := if 2 ≤ l.length then some (secondL l) else none

set_option maxRecDepth 100000 in
set_option maxHeartbeats 2000000 in
theorem second_any (v : Value) (l : List Int) (w : World) (hl : l.length ≤ 8796093022208) (hr : Reads w vi64 v l) :
    Calls Try.prog 22 #[v] w (KindEnd (kind3 l) w) := by
  obtain ⟨ad, cap, rfl⟩ := hr.slice
  by_cases hl2 : 2 ≤ l.length
  · have hb0 : Below w.heap.size w (w.alloc (.cells #[.slice ad l.length cap] 41)) := (Below.refl _ _).alloc (Nat.le_refl _) _
    have hr0 := hr.below hb0 (Nat.le_refl _)
    have hp0 : (w.alloc (.cells #[.slice ad l.length cap] 41)).cell? ⟨w.heap.size, 0, none⟩ = some (.slice ad l.length cap) := World.cell?_alloc_at _ _ _ _ rfl
    have hs0 : w.heap.size < (w.alloc (.cells #[.slice ad l.length cap] 41)).heap.size := by simp
    have hfi := first_any _ l (w.alloc (.cells #[.slice ad l.length cap] 41)) hl hr0
    go_enter Try.func22, Try.ntmps22
    go_wp2_with fail
    refine (diffs_any _ _ _ w).mono ?_
    rintro e w1 ⟨rfl, rfl⟩
    generalize (w.alloc (.cells #[.slice ad l.length cap] 41)) = w0 at hb0 hr0 hp0 hs0 hfi ⊢
    go_wp2_with fail
    refine hfi.mono ?_
    rintro e w1 ⟨v1, rfl, hown1, hb1⟩
    clear hfi
    obtain ⟨g, c1, rfl, hc1, hc2⟩ := owns_some hown1 (by rw [firstL_length]; omega)
    have hln := firstL_length l
    have hm : (firstL l).length ≤ 9223372036854775807 := by omega
    go_wp2_with fail
    go_loopw [7] (fun x wr => SecondRel (secondL l) (firstL l) w0.heap.size g c1 w0 x wr) (fun x _ => l.length - (intOf x).toNat)
    case atStart => exact ⟨2, Nat.le_refl _, by omega, rfl, by rw [secondL_two l hl2]; exact hown1, hb1⟩
    case round =>
      obtain ⟨k, hk2, hk, rfl, hown, hbel⟩ := hrel
      by_cases hlt : k < (firstL l).length
      · have hlt2 : k < l.length := by omega
        have hz : (k : Int) - 1 = ((k - 1 : Nat) : Int) := by omega
        have hfz := hown.frozenAt k
        obtain ⟨y, hcell⟩ : ∃ y, wr.cell? ⟨g, k, none⟩ = some y := ⟨_, (hown.cellAt k (by omega)).trans (List.getElem?_eq_getElem (by simp [secondL_length, hln]; omega))⟩
        go_wp2_with fail
        refine (diff_any wr _ _ l k ((hbel.cell (p := ⟨w.heap.size, 0, none⟩) hs0).trans hp0) (hr0.below hbel (Nat.le_refl _)) (by omega) hlt2).mono ?_
        rintro e w2 ⟨rfl, m, rfl⟩
        go_wp2_with fail
        refine (diff_any (wr.drewN m) _ _ l (k - 1) ((hbel.cell (p := ⟨w.heap.size, 0, none⟩) hs0).trans hp0) ((hr0.below hbel (Nat.le_refl _)).drewN m) (by omega) (by omega)).mono ?_
        rintro e w2 ⟨rfl, m2, rfl⟩
        have hst1 := own_store (w := (wr.drewN m).drewN m2) hown k (wsub (df l k) (df l (k - 1))) (Below.drewN (Below.drewN hbel m) m2)
        have hst2 : (wr.drewN (m + m2)).setCell ⟨g, k, none⟩ (.int .i64 (wsub (df l k) (df l (k - 1)))) = ((wr.drewN m).drewN m2).setCell ⟨g, k, none⟩ (.int .i64 (wsub (df l k) (df l (k - 1)))) := by rw [World.drewN_drewN]
        rw [← hst2] at hst1
        clear hst2
        go_wp2_with fail
        go_roundw
        case rel => exact ⟨k + 1, by omega, by omega, by go_num, by rw [← set_upto (l := firstL l) (by rw [secondL_length, hln]) k hlt, secondL_get l k hk2 hlt2]; exact hst1.1, hst1.2⟩
        case measure => simp [intOf]; omega
      · have hk1 : k = (firstL l).length := by omega
        subst hk1
        go_wp2_with fail
        go_ret2
        have hs2 := secondL_length l
        rw [List.take_of_length_le (by omega), List.drop_eq_nil_of_le (Nat.le_refl _), List.append_nil] at hown
        have hown2 : wr.ownsRow w0.heap.size 2 1 (.slice (some ⟨g, 0, none⟩) (firstL l).length c1) (secondL l).length ((secondL l).map vi64) := by rw [hs2, ← hln]; exact hown
        rw [show kind3 l = some (secondL l) from if_pos hl2]
        rw [hln] at hown2
        exact ⟨.slice (some ⟨g, 0, none⟩) l.length c1, rfl, Reads.of_owns hown2, hb0.trans (hbel.mono (Nat.le_of_lt hs0))⟩
  · go_enter Try.func22, Try.ntmps22
    go_wp2_with fail
    go_ret2
    rw [show kind3 l = none from if_neg hl2]
    exact ⟨_, rfl, Reads.nil _ _, Below.refl _ _⟩

end Go.Proofs.Ytgegbfhjophdfaa
