/- ManifestBack: the walk. -/
import Derived.Test.YtcjbgchhalilnaaGreatDoorJe
import Derived.Test.YtcjbgchhalilnaaGreatDoorHb
import Derived.Laws.BitsAllLaws
namespace Go.Proofs.YtcjbgchhalilnaaGreatDoor
open Go Go.RowKit Go.Lib
set_option linter.unusedVariables false

theorem and65535 (n : Int) : ∃ K : Nat, K < 65536 ∧ bits .and .i64 n 65535 = (K : Int) := by
  refine ⟨(BitVec.ofInt 64 n &&& BitVec.ofInt 64 65535).toNat, ?_, ?_⟩
  · rw [BitVec.toNat_and]
    exact Nat.lt_of_le_of_lt Nat.and_le_right (by decide)
  · show IntKind.i64.wrap ((BitVec.ofInt 64 n &&& BitVec.ofInt 64 65535).toNat : Int) = _
    have h : (BitVec.ofInt 64 n &&& BitVec.ofInt 64 65535).toNat < 65536 := by
      rw [BitVec.toNat_and]
      exact Nat.lt_of_le_of_lt Nat.and_le_right (by decide)
    rw [IntKind.wrap_i64]
    omega
theorem xor_turn (y : UInt8) (s : Nat) (hs : s < 8) : ∃ x : UInt8, bits .xor .u8 (y.toNat : Int) ((2 : Int) ^ s % 256) = (x.toNat : Int) ∧ x ≠ y := by
  have hp : ((2 : Int) ^ s % 256) = ((2 ^ s : Nat) : Int) := by
    rcases (by omega : s = 0 ∨ s = 1 ∨ s = 2 ∨ s = 3 ∨ s = 4 ∨ s = 5 ∨ s = 6 ∨ s = 7) with h | h | h | h | h | h | h | h <;> subst h <;> rfl
  have hlt : 2 ^ s < 256 := Nat.lt_of_lt_of_le (Nat.pow_lt_pow_right (by decide) hs) (by decide)
  have hy : y.toNat < 256 := y.toNat_lt
  have hx : y.toNat ^^^ 2 ^ s < 2 ^ 8 := Nat.xor_lt_two_pow hy hlt
  rw [hp, u8_xor_nat _ _ hy hlt]
  refine ⟨UInt8.ofNat (y.toNat ^^^ 2 ^ s), ?_, fun e => ?_⟩
  · rw [UInt8.toNat_ofNat']
    congr 1
    omega
  · have h := congrArg UInt8.toNat e
    rw [UInt8.toNat_ofNat', Nat.mod_eq_of_lt hx] at h
    have h2 : y.toNat ^^^ (y.toNat ^^^ 2 ^ s) = y.toNat ^^^ y.toNat := by rw [h]
    rw [← Nat.xor_assoc, Nat.xor_self, Nat.zero_xor] at h2
    have := Nat.two_pow_pos s
    omega
theorem OwnsM.below {B : Nat} {w w' : World} {v : Value} {m : Man} (h : OwnsM B w v m) (hb : Below w.heap.size w w') : OwnsM B w' v m := by
  obtain ⟨vi, vd, e, h1, h2⟩ := h
  exact ⟨vi, vd, e, owns_below h1 hb, owns_below h2 hb⟩
theorem OwnsM.set {B : Nat} {w : World} {v : Value} {m : Man} (h : OwnsM B w v m) {g k : Nat} (hg : g < B) (u : Value) : OwnsM B (w.setCell ⟨g, k, none⟩ u) v m := by
  obtain ⟨vi, vd, e, h1, h2⟩ := h
  exact ⟨vi, vd, e, ownsRow_setCell_below h1 hg u, ownsRow_setCell_below h2 hg u⟩
theorem OwnsM.slices {B : Nat} {w : World} {v : Value} {m : Man} (h : OwnsM B w v m) : ∃ ai ci ad cd, v = .agg #[.int .i64 m.seq, .int .i64 m.every, .int .i64 m.keep, .slice ai m.index.length ci, .slice ad m.data.length cd] := by
  obtain ⟨vi, vd, e, h1, h2⟩ := h
  obtain ⟨ai, ci, rfl⟩ := (Reads.of_owns h1).slice
  obtain ⟨ad, cd, rfl⟩ := (ReadsV.of_owns h2).slice
  exact ⟨ai, ci, ad, cd, e⟩
theorem Reads.set {w : World} {l : List UInt8} {g N cap k : Nat} (h : Reads w b8 (.slice (some ⟨g, 0, none⟩) N cap) l) (hN : l.length = N) (hk : k < N) (x : UInt8) : Reads (w.setCell ⟨g, k, none⟩ (b8 x)) b8 (.slice (some ⟨g, 0, none⟩) N cap) (l.set k x) := by
  subst hN
  rcases h with ⟨rfl, _⟩ | ⟨b, off, cap', hv, h1, h2, h3, h4⟩
  · simp at hk
  · simp only [Value.slice.injEq, Option.some.injEq, Addr.mk.injEq, and_true] at hv
    obtain ⟨⟨rfl, rfl⟩, _, rfl⟩ := hv
    refine .inr ⟨g, 0, cap, by simp, by simpa using h1, h2, by simpa using h3, fun i hi => ?_⟩
    have hi' : i < l.length := by simpa using hi
    rw [Nat.zero_add]
    have hki := h4 k hk
    have hii := h4 i hi'
    rw [Nat.zero_add] at hki hii
    by_cases e : k = i
    · subst e
      rw [World.cell?_setCell_same _ _ _ hki]
      simp
    · rw [set_off e, hii, List.getElem_set_ne e]
theorem back_turned {m : Man} {l' : List UInt8} (h : packL m ≠ l') : ((unpackF l').1 = 0 → (unpackF l').2 ≠ m) ∧ ((unpackF l').1 ≠ 0 → (unpackF l').2 = zeroM) :=
  ⟨fun h0 e => h (by rw [← e]; exact (unpack_ok h0).2), unpack_no⟩

set_option maxRecDepth 100000 in
set_option maxHeartbeats 4000000 in
theorem back_walk (v : Value) (m : Man) (at0 : Int) (bit : Nat) (w : World) (hT : Laid w) (hr : ReadsM w v m) (hat : -9223372036854775808 ≤ at0 ∧ at0 ≤ 9223372036854775807) (hbit : bit < 256) : Calls Tryz.prog 4 #[v, .int .i64 at0, .int .u8 (bit : Int)] w fun e w' => TrueEnd w e w' := by
  obtain ⟨i0, hi, hz0, hz1, hz2⟩ := info_parts info_u8
  have hrm := hr
  obtain ⟨vi, vd, rfl, hri, hrd⟩ := hr
  obtain ⟨ai, ci, rfl⟩ := hri.slice
  obtain ⟨ad, cd, rfl⟩ := hrd.slice
  obtain ⟨n0, hn0⟩ : ∃ n0, w.heap.size = n0 := ⟨_, rfl⟩
  obtain ⟨W, hW⟩ : ∃ W, w.alloc (.cells #[.int .i64 m.seq, .int .i64 m.every, .int .i64 m.keep, .slice ai m.index.length ci, .slice ad m.data.length cd] 25) = W := ⟨_, rfl⟩
  have hA : Below n0 w W := by rw [← hW]; exact (Below.refl _ _).alloc (by omega) _
  have hWs : W.heap.size = n0 + 1 := by rw [← hW]; simp [hn0]
  have K : ∀ k : Nat, W.cell? ⟨n0, k, none⟩ = (#[.int .i64 m.seq, .int .i64 m.every, .int .i64 m.keep, .slice ai m.index.length ci, .slice ad m.data.length cd] : Array Value)[k]? := by
    intro k
    rw [← hW, ← hn0]
    exact World.cell?_alloc_new _ _ _ _
  have CC : ∀ w', Below (n0 + 1) W w' → w'.cell? ⟨n0, 0, none⟩ = some (.int .i64 m.seq) ∧ w'.cell? ⟨n0, 1, none⟩ = some (.int .i64 m.every) ∧ w'.cell? ⟨n0, 2, none⟩ = some (.int .i64 m.keep) ∧ w'.cell? ⟨n0, 3, none⟩ = some (.slice ai m.index.length ci) ∧ w'.cell? ⟨n0, 4, none⟩ = some (.slice ad m.data.length cd) := by
    intro w' h
    have q : ∀ k, w'.cell? ⟨n0, k, none⟩ = W.cell? ⟨n0, k, none⟩ := fun k => h.cell (p := ⟨n0, k, none⟩) (by show n0 < n0 + 1; omega)
    exact ⟨(q 0).trans (K 0), (q 1).trans (K 1), (q 2).trans (K 2), (q 3).trans (K 3), (q 4).trans (K 4)⟩
  clear K
  have hTW : Laid W := hT.below hA (by omega)
  have hrW := hrm.below hA (by omega)
  have h1 := awake_any W hTW
  go_enter Tryz.func4, Tryz.ntmps4
  go_wp2_with fail
  refine h1.mono ?_
  rintro e w1 ⟨rfl, hb1⟩
  have hb1' : Below (n0 + 1) W w1 := hb1.mono (by omega)
  have hs1 := hb1'.size
  obtain ⟨c0, c1, c2, c3, c4⟩ := CC w1 hb1'
  have h2 := few_any _ m w1 (hrW.below hb1' (by omega))
  clear h1
  go_wp2_with fail
  refine h2.mono ?_
  rintro e w2 ⟨b, rfl, hfew, hb2⟩
  have hb2' : Below (n0 + 1) W w2 := hb1'.trans (hb2.mono (by omega))
  have hs2 := hb2'.size
  clear c0 c1 c2 c3 c4 h2
  by_cases hbt : b = true
  rotate_left
  · rw [show b = false by simpa using hbt]
    go_wp2_with fail
    go_ret
    refine ⟨rfl, ?_⟩
    rw [hn0]
    exact hA.trans (hb2'.mono (by omega))
  subst hbt
  obtain ⟨hl1, hl2⟩ := hfew rfl
  obtain ⟨c0, c1, c2, c3, c4⟩ := CC w2 hb2'
  have h3 := Pack_any _ m w2 (hTW.below hb2' (by omega)) (hrW.below hb2' (by omega))
  unfold PackEnd at h3
  by_cases hcp : CheckP m
  rotate_left
  · rw [checkN_no hcp] at h3
    go_wp2_with fail
    refine h3.mono ?_
    rintro e w3 ⟨vb, rfl, -, hnil, hb3⟩
    obtain rfl := hnil hcp
    have hb3' : Below (n0 + 1) W w3 := hb2'.trans (hb3.mono (by omega))
    have hs3 := hb3'.size
    clear c0 c1 c2 c3 c4 h3 hnil
    obtain ⟨c0, c1, c2, c3, c4⟩ := CC w3 hb3'
    have h4 := Check_any _ m w3 (hTW.below hb3' (by omega)) (hrW.below hb3' (by omega))
    rw [checkN_no hcp] at h4
    go_wp2_with fail
    refine h4.mono ?_
    rintro e w4 ⟨rfl, hb4⟩
    go_wp2_with fail
    go_ret
    refine ⟨rfl, ?_⟩
    rw [hn0]
    exact (hA.trans (hb3'.mono (by omega))).trans (hb4.mono (by omega))
  rw [checkN_ok hcp] at h3
  go_wp2_with fail
  refine h3.mono ?_
  rintro e w3 ⟨vb, rfl, hop, -, hb3⟩
  have hob := hop hcp
  have hb3' : Below (n0 + 1) W w3 := hb2'.trans (hb3.mono (by omega))
  have hs3 := hb3'.size
  clear c0 c1 c2 c3 c4 h3 hop
  have HU0 := Lib.hid (unpack_pack hcp)
  have HUc := Lib.hid (fun k => unpack_cut (k := k) hcp)
  have HUm := Lib.hid (unpack_more hcp 0)
  have HUt := Lib.hid (fun l' => back_turned (m := m) (l' := l'))
  have hbl := bodyL_length hcp
  have hpl := frameL_length (bodyL m)
  have hvl : (Lib.uvarint (bodyL m).length).length ≤ 10 := Lib.uvarint_length64 (by omega)
  rw [show frameL 5 (bodyL m) = packL m from rfl] at hpl
  obtain ⟨N, hN⟩ : ∃ N, (packL m).length = N := ⟨_, rfl⟩
  have hN1 : 0 < N := by omega
  have hN2 : N ≤ 4000 := by omega
  generalize packL m = l at *
  clear hpl hvl hbl
  rw [hN] at hob
  obtain ⟨g, cap, rfl, hNc, hcm⟩ := owns_some hob (by omega)
  have hrb := Reads.of_owns (xs := l) (by rw [hN]; exact hob)
  have hlt3 : g < w3.heap.size := by
    rcases hrb with ⟨rfl, _⟩ | ⟨b', o', c', e1, _, _, h4, _⟩
    · simp at hN; omega
    · simp only [Value.slice.injEq, Option.some.injEq, Addr.mk.injEq] at e1
      omega
  have hgb : w2.heap.size ≤ g := (hob.lt g rfl).1
  have h4 := Unpack_own _ l w3 (hTW.below hb3' (by omega)) (by omega) hrb
  unfold UnpackOwn at h4
  rw [HU0.out] at h4
  go_wp2_with fail
  refine h4.mono ?_
  rintro e w4 ⟨um, rfl, how4, hb4⟩
  have hb4' : Below (n0 + 1) W w4 := hb3'.trans (hb4.mono (by omega))
  have hs4 := hb4.size
  clear h4
  obtain ⟨bi, di, bd, dd, rfl⟩ := how4.slices
  obtain ⟨n4, hn4⟩ : ∃ n4, w4.heap.size = n4 := ⟨_, rfl⟩
  obtain ⟨W5, hW5⟩ : ∃ W5, w4.alloc (.cells #[.int .i64 m.seq, .int .i64 m.every, .int .i64 m.keep, .slice bi m.index.length di, .slice bd m.data.length dd] 25) = W5 := ⟨_, rfl⟩
  have hA5 : Below n4 w4 W5 := by rw [← hW5]; exact (Below.refl _ _).alloc (by omega) _
  have hs5 : W5.heap.size = n4 + 1 := by rw [← hW5]; simp [hn4]
  have HW5 := Lib.hid hW5
  clear hW5
  obtain ⟨k0, hk0, hke⟩ := and65535 at0
  obtain ⟨k, hk⟩ : ∃ k, k0 % N = k := ⟨_, rfl⟩
  have hkN : k < N := by rw [← hk]; exact Nat.mod_lt _ hN1
  have hkm : (k0 : Int).tmod (N : Int) = (k : Int) := by rw [← hk]; exact (Int.ofNat_tmod _ _).symm
  have hkc : (k : Int) ≤ (cap : Int) := by omega
  have hrb5 := (hrb.below hb4 (Nat.le_refl _)).below hA5 (by omega)
  have hrk := hrb5.head k (by omega)
  have hT5 : Laid W5 := hTW.below (hb4'.trans (hA5.mono (by omega))) (by omega)
  have h5 := Unpack_own _ (l.take k) W5 hT5 (by rw [List.length_take]; omega) hrk
  unfold UnpackOwn at h5
  rw [HUc.out k (by omega)] at h5
  have hN0 : ((N : Int) == 0) = false := by simp; omega
  go_wp2_with fail
  rw [HW5.out]
  refine h5.mono ?_
  rintro e w6 ⟨zm, rfl, how6, hb6⟩
  obtain ⟨ei, ej, ed, ef, hz⟩ := how6.slices
  replace hz : zm = .agg #[.int .i64 0, .int .i64 0, .int .i64 0, .slice ei 0 ej, .slice ed 0 ef] := hz
  subst hz
  clear h5 how6 hrk
  obtain ⟨n6, hn6⟩ : ∃ n6, w6.heap.size = n6 := ⟨_, rfl⟩
  obtain ⟨W7, hW7⟩ : ∃ W7, w6.alloc (.cells #[.int .i64 0, .int .i64 0, .int .i64 0, .slice ei 0 ej, .slice ed 0 ef] 25) = W7 := ⟨_, rfl⟩
  have hs6 := hb6.size
  have hA7 : Below n6 w6 W7 := by rw [← hW7]; exact (Below.refl _ _).alloc (by omega) _
  have hs7 : W7.heap.size = n6 + 1 := by rw [← hW7]; simp [hn6]
  have hb57 : Below (n4 + 1) W5 W7 := (hb6.mono (by omega)).trans (hA7.mono (by omega))
  have HW7 := Lib.hid hW7
  clear hW7
  have hbE : Below (n6 + 1) W7 (W7.alloc (.cells #[] 5)) := (Below.refl _ _).alloc (by omega) _
  have hsE : (W7.alloc (.cells #[] 5)).heap.size = n6 + 2 := by simp; omega
  have hrE := (hrb5.below hb57 (by omega)).below hbE (by omega)
  have ow0 : (W7.alloc (.cells #[] 5)).ownsRow (n6 + 1) 5 1 (.slice (some ⟨W7.heap.size, 0, none⟩) 0 0) ([] : List UInt8).length (([] : List UInt8).map b8) := World.ownsRow_lit (base := n6 + 1) (e := 5) (size := 1) W7 #[] 0 (by omega) (by simp [maxLen]) rfl
  rw [hs7] at ow0
  obtain ⟨WE, hWE⟩ : ∃ WE, W7.alloc (.cells #[] 5) = WE := ⟨_, rfl⟩
  rw [hWE] at hbE hsE hrE ow0
  go_wp2_with (first
    | (at_builtin; refine wpList_extend rfl (.tmp 61) (.tmp 62) 43 rfl (n6 + 1) 5 i0 _ 1 Tryz.underlying43 hi hz0 hz1 hz2 rfl b8 [] l _ _ (fun _ => rfl) rfl ow0 rfl hrE (by simp only [maxLen, List.length_nil]; omega) (by simp only [List.length_nil]; omega) (by omega) ?_; intro va wa owA hbA _; rw [List.nil_append] at owA)
    | (at_builtin; refine wpList_push rfl (.tmp 63) (.tmp 64) 43 rfl (n6 + 1) 5 i0 _ 1 Tryz.underlying43 hi hz0 hz1 hz2 rfl b8 l 0 _ _ rfl rfl rfl owA rfl (by simp only [maxLen]; omega) (by omega) (by have := hbA.size; omega) ?_; intro vb wb owB hbB _)
    | (rw [HW7.out]))
  have hsA := hbA.size
  have hsB := hbB.size
  have hb7b : Below (n6 + 1) W7 wb := (hbE.trans hbA).trans hbB
  have hb5b : Below (n4 + 1) W5 wb := hb57.trans (hb7b.mono (by omega))
  have h6 := Unpack_own vb (l ++ [0]) wb (hT5.below hb5b (by omega)) (by rw [List.length_append, List.length_singleton]; omega) (Reads.of_owns owB)
  unfold UnpackOwn at h6
  rw [HUm.out] at h6
  refine h6.mono ?_
  rintro e w9 ⟨zm, rfl, how9, hb9⟩
  obtain ⟨fi, fj, fd, ff, hz⟩ := how9.slices
  replace hz : zm = .agg #[.int .i64 0, .int .i64 0, .int .i64 0, .slice fi 0 fj, .slice fd 0 ff] := hz
  subst hz
  clear h6 how9 ow0 owA hrE
  obtain ⟨n9, hn9⟩ : ∃ n9, w9.heap.size = n9 := ⟨_, rfl⟩
  obtain ⟨W10, hW10⟩ : ∃ W10, w9.alloc (.cells #[.int .i64 0, .int .i64 0, .int .i64 0, .slice fi 0 fj, .slice fd 0 ff] 25) = W10 := ⟨_, rfl⟩
  have hs9 := hb9.size
  have hA10 : Below n9 w9 W10 := by rw [← hW10]; exact (Below.refl _ _).alloc (by omega) _
  have hs10 : W10.heap.size = n9 + 1 := by rw [← hW10]; simp [hn9]
  have hb510 : Below (n4 + 1) W5 W10 := hb5b.trans ((hb9.mono (by omega)).trans (hA10.mono (by omega)))
  have HW10 := Lib.hid hW10
  have hr10 := hrb5.below hb510 (by omega)
  have hkl : k < l.length := by omega
  have hck : W10.cell? ⟨g, k, none⟩ = some (.int .u8 ((l[k]).toNat : Int)) := by
    obtain ⟨b', o', e1, e2⟩ := hr10.elem hkl
    simp only [Option.some.injEq, Addr.mk.injEq, and_true] at e1
    obtain ⟨rfl, rfl⟩ := e1
    rw [Nat.zero_add] at e2
    exact e2
  have hfz : W10.frozen? ⟨g, k, none⟩ = false := by
    have e1 : Below w3.heap.size w3 W10 := hb4.trans ((hA5.mono (by omega)).trans (hb510.mono (by omega)))
    rw [e1.frozen (p := ⟨g, k, none⟩) hlt3]
    exact hob.frozenAt k
  obtain ⟨x, hx, hxy⟩ := xor_turn l[k] (bit % 8) (Nat.mod_lt _ (by decide))
  have hne : l ≠ l.set k x := fun e => hxy (by
    have e2 := congrArg (fun y => y[k]?) e
    simp only [List.getElem?_eq_getElem hkl, List.getElem?_set_self hkl] at e2
    exact (Option.some.inj e2).symm)
  obtain ⟨ht1, ht2⟩ := HUt.out _ hne
  have hr11 : Reads (W10.setCell ⟨g, k, none⟩ (.int .u8 (x.toNat : Int))) b8 (.slice (some ⟨g, 0, none⟩) N cap) (l.set k x) := Reads.set hr10 hN hkN x
  have hb11 : Below (n0 + 1) W (W10.setCell ⟨g, k, none⟩ (.int .u8 (x.toNat : Int))) := (hb4'.trans ((hA5.mono (by omega)).trans (hb510.mono (by omega)))).trans ((Below.refl (n0 + 1) W10).setCell (p := ⟨g, k, none⟩) (by show n0 + 1 ≤ g; omega) _)
  have how11 := ((how4.below (hA5.mono (by omega))).below (hb510.mono (by omega))).set (k := k) hlt3 (.int .u8 (x.toNat : Int))
  have K11 : ∀ j : Nat, (W10.setCell ⟨g, k, none⟩ (.int .u8 (x.toNat : Int))).cell? ⟨n4, j, none⟩ = (#[.int .i64 m.seq, .int .i64 m.every, .int .i64 m.keep, .slice bi m.index.length di, .slice bd m.data.length dd] : Array Value)[j]? := by
    intro j
    rw [World.cell?_setCell_other W10 _ _ _ (fun e => by simp only [Addr.mk.injEq] at e; omega), hb510.cell (p := ⟨n4, j, none⟩) (by show n4 < n4 + 1; omega), ← HW5.out, ← hn4]
    exact World.cell?_alloc_new _ _ _ _
  have hs11 : (W10.setCell ⟨g, k, none⟩ (.int .u8 (x.toNat : Int))).heap.size = n9 + 1 := by simp [hs10]
  go_wp2_with fail
  clear hck hfz hr10
  generalize W10.setCell ⟨g, k, none⟩ (.int .u8 (x.toNat : Int)) = W11 at hr11 hb11 how11 K11 hs11 ⊢
  have h7 := Unpack_own _ (l.set k x) W11 (hTW.below hb11 (by omega)) (by rw [List.length_set]; omega) hr11
  unfold UnpackOwn at h7
  have hlens := unpack_lens (l := l.set k x)
  generalize unpackF (l.set k x) = r at h7 ht1 ht2 hlens
  obtain ⟨er, M⟩ := r
  simp only at h7 ht1 ht2 hlens
  refine h7.mono ?_
  rintro e w12 ⟨vm, rfl, how12, hb12⟩
  obtain ⟨ti, tj, td, tf, rfl⟩ := how12.slices
  clear h7
  obtain ⟨n12, hn12⟩ : ∃ n12, w12.heap.size = n12 := ⟨_, rfl⟩
  obtain ⟨W13, hW13⟩ : ∃ W13, w12.alloc (.cells #[.int .i64 M.seq, .int .i64 M.every, .int .i64 M.keep, .slice ti M.index.length tj, .slice td M.data.length tf] 25) = W13 := ⟨_, rfl⟩
  have hs12 := hb12.size
  have hA13 : Below n12 w12 W13 := by rw [← hW13]; exact (Below.refl _ _).alloc (by omega) _
  have hs13 : W13.heap.size = n12 + 1 := by rw [← hW13]; simp [hn12]
  have hb1113 : Below (n9 + 1) W11 W13 := (hb12.mono (by omega)).trans (hA13.mono (by omega))
  have hbW13 : Below (n0 + 1) W W13 := hb11.trans (hb1113.mono (by omega))
  have K13 : ∀ j : Nat, W13.cell? ⟨n12, j, none⟩ = (#[.int .i64 M.seq, .int .i64 M.every, .int .i64 M.keep, .slice ti M.index.length tj, .slice td M.data.length tf] : Array Value)[j]? := by
    intro j
    rw [← hW13, ← hn12]
    exact World.cell?_alloc_new _ _ _ _
  have C1 : ∀ w', Below (n12 + 1) W13 w' → w'.cell? ⟨n0, 0, none⟩ = some (.int .i64 m.seq) ∧ w'.cell? ⟨n0, 1, none⟩ = some (.int .i64 m.every) ∧ w'.cell? ⟨n0, 2, none⟩ = some (.int .i64 m.keep) ∧ w'.cell? ⟨n0, 3, none⟩ = some (.slice ai m.index.length ci) ∧ w'.cell? ⟨n0, 4, none⟩ = some (.slice ad m.data.length cd) := fun w' h => CC w' (hbW13.trans (h.mono (by omega)))
  have C2 : ∀ w', Below (n12 + 1) W13 w' → w'.cell? ⟨n4, 0, none⟩ = some (.int .i64 m.seq) ∧ w'.cell? ⟨n4, 1, none⟩ = some (.int .i64 m.every) ∧ w'.cell? ⟨n4, 2, none⟩ = some (.int .i64 m.keep) ∧ w'.cell? ⟨n4, 3, none⟩ = some (.slice bi m.index.length di) ∧ w'.cell? ⟨n4, 4, none⟩ = some (.slice bd m.data.length dd) := by
    intro w' h
    have q : ∀ j, w'.cell? ⟨n4, j, none⟩ = W11.cell? ⟨n4, j, none⟩ := fun j => (h.cell (p := ⟨n4, j, none⟩) (by show n4 < n12 + 1; omega)).trans (hb1113.cell (p := ⟨n4, j, none⟩) (by show n4 < n9 + 1; omega))
    exact ⟨(q 0).trans (K11 0), (q 1).trans (K11 1), (q 2).trans (K11 2), (q 3).trans (K11 3), (q 4).trans (K11 4)⟩
  have C3 : ∀ w', Below (n12 + 1) W13 w' → w'.cell? ⟨n12, 0, none⟩ = some (.int .i64 M.seq) ∧ w'.cell? ⟨n12, 1, none⟩ = some (.int .i64 M.every) ∧ w'.cell? ⟨n12, 2, none⟩ = some (.int .i64 M.keep) ∧ w'.cell? ⟨n12, 3, none⟩ = some (.slice ti M.index.length tj) ∧ w'.cell? ⟨n12, 4, none⟩ = some (.slice td M.data.length tf) := by
    intro w' h
    have q : ∀ j, w'.cell? ⟨n12, j, none⟩ = W13.cell? ⟨n12, j, none⟩ := fun j => h.cell (p := ⟨n12, j, none⟩) (by show n12 < n12 + 1; omega)
    exact ⟨(q 0).trans (K13 0), (q 1).trans (K13 1), (q 2).trans (K13 2), (q 3).trans (K13 3), (q 4).trans (K13 4)⟩
  have hm1 := hrW.below hbW13 (by omega)
  have hm2 := (how11.below (hb1113.mono (by omega))).reads
  have hm3 := (how12.below (hA13.mono (by omega))).reads
  clear K11 K13 HW5 HW7 HW10 hW10
  have fin : ∀ w', Below W13.heap.size W13 w' → Below w.heap.size w w' := fun w' h => by
    rw [hn0]
    exact (hA.trans (hbW13.mono (by omega))).trans (h.mono (by omega))
  by_cases her : er = 0
  · have hMm := Lib.hid (ht1 her)
    clear ht1 ht2
    subst her
    go_wp2_with fail
    refine back16_ok (W := W13) (nB := n12 + 1) (n0 := n0) (n11 := n4) (n18 := n12) (er := 0) rfl rfl rfl rfl rfl rfl rfl rfl hMm.out (by omega) (by omega) (by omega) (by omega) (Below.refl _ _) (by omega) hm1 hm2 hm3 C1 C2 C3 ?_
    intro a w16 hb16 x6 hsz hdf
    go_wp2_with fail
    exact ret_at (fn := Tryz.f4) rfl x6 hdf ⟨rfl, fin _ hb16⟩
  · have her2 : (er == 0) = false := by simpa using her
    have hMz := Lib.hid (ht2 her)
    clear ht1 ht2
    go_wp2_with fail
    refine back16_no (W := W13) (nB := n12 + 1) (n0 := n0) (n11 := n4) (n18 := n12) (er := er) rfl rfl rfl rfl rfl rfl rfl rfl her her2 hMz.out (by omega) (by omega) (by omega) (by omega) (Below.refl _ _) (by omega) hm1 hm2 hm3 C1 C2 C3 ?_
    intro a w16 hb16 x6 hsz hdf
    go_wp2_with fail
    exact ret_at (fn := Tryz.f4) rfl x6 hdf ⟨rfl, fin _ hb16⟩
end Go.Proofs.YtcjbgchhalilnaaGreatDoor
