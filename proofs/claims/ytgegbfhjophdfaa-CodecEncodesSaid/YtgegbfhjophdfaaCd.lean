/- codec: nth, As. -/
import Derived.Test.YtgegbfhjophdfaaCc
namespace Go.Proofs.Ytgegbfhjophdfaa
open Go Go.RowKit

theorem firstK_any (v : Value) (l : List Int) (w : World) (hl : l.length ≤ 8796093022208) (hr : Reads w vi64 v l) :
    Calls Try.prog 21 #[v] w (KindEnd (some (firstL l)) w) := by
  refine (first_any v l w hl hr).mono ?_
  rintro e w1 ⟨v1, rfl, hown, hb⟩
  exact ⟨v1, rfl, Reads.of_owns hown, hb⟩

/-- The numbers that a kind writes, if it may be. -/
noncomputable def kindL (kind : Int) (l : List Int) : Option (List Int) :=
  if kind = 0 then kind0 l else if kind = 1 then kind1 l else if kind = 2 then some (firstL l) else if kind = 3 then kind3 l else none

theorem df_i64 (l : List Int) (i : Nat) : I64 (df l i) := wsub_i64 _ _
theorem firstL_i64 {l : List Int} (h : ∀ n ∈ l, I64 n) : ∀ n ∈ firstL l, I64 n := by
  intro n hn
  rw [firstL, List.mem_append] at hn
  rcases hn with hn | hn
  · exact h n (List.mem_of_mem_take hn)
  · exact steps_i64 l n hn
theorem kindL_i64 {kind : Int} {l x : List Int} (h : ∀ n ∈ l, I64 n) (hx : kindL kind l = some x) : (∀ n ∈ x, I64 n) ∧ x.length ≤ l.length := by
  unfold kindL at hx
  split at hx
  · unfold kind0 at hx
    split at hx
    · cases hx
      exact ⟨fun n hn => h n (List.mem_of_mem_take hn), by simp; omega⟩
    · cases hx
  · split at hx
    · unfold kind1 at hx
      split at hx
      · rename_i hc
        cases hx
        refine ⟨fun n hn => ?_, hc.1⟩
        simp only [List.mem_cons, List.not_mem_nil, or_false] at hn
        rcases hn with rfl | rfl
        · have h0 : 0 < l.length := by omega
          simp only [List.getD_eq_getElem?_getD, List.getElem?_eq_getElem h0, Option.getD_some]
          exact h _ (List.getElem_mem h0)
        · exact df_i64 _ _
      · cases hx
    · split at hx
      · cases hx
        exact ⟨firstL_i64 h, Nat.le_of_eq (firstL_length l)⟩
      · split at hx
        · unfold kind3 at hx
          split at hx
          · cases hx
            refine ⟨fun n hn => ?_, Nat.le_of_eq (secondL_length l)⟩
            rw [secondL, List.mem_append] at hn
            rcases hn with hn | hn
            · exact h n (List.mem_of_mem_take hn)
            · exact firstL_i64 (steps_i64 l) n hn
          · cases hx
        · cases hx

/-- The bytes of a row by a kind, if it may be. -/
noncomputable def asL (kind : Int) (l : List Int) : Option (List UInt8) :=
  if 4096 < l.length then none else (kindL kind l).map fun x => [UInt8.ofNat kind.toNat] ++ Lib.uvarint l.length ++ allBytes x

def AsEnd (r : Option (List UInt8)) (w : World) (e : Ending) (w' : World) : Prop :=
  ∃ v', e = .returned (.tuple #[v', .bool r.isSome]) ∧ w'.ownsRow w.heap.size 5 1 v' (r.getD []).length ((r.getD []).map b8) ∧ Below w.heap.size w w'

set_option maxRecDepth 100000 in
theorem nth_any (w : World) (p : Nat) (f0 f1 f2 f3 : Value) (kind : Int) (hp : Reads w (fun x : Value => x) (.slice (some ⟨p, 0, none⟩) 4 4) [f0, f1, f2, f3]) :
    Calls Try.prog 18 #[.int .i64 kind, .slice (some ⟨p, 0, none⟩) 4 4] w fun e w' => e = .returned (if kind = 0 then f0 else if kind = 1 then f1 else if kind = 2 then f2 else if kind = 3 then f3 else .nilFunc) ∧ w = w' := by
  by_cases h : 0 ≤ kind ∧ kind < 4
  · obtain ⟨k, rfl⟩ : ∃ k : Nat, kind = (k : Int) := ⟨kind.toNat, by omega⟩
    rcases hp with ⟨h1, _⟩ | ⟨b, off, cap, h1, h2, h3, h4, h5⟩
    · cases h1
    · simp only [Value.slice.injEq, Option.some.injEq, Addr.mk.injEq, and_true] at h1
      obtain ⟨⟨rfl, rfl⟩, _, rfl⟩ := h1
      have hk : k < 4 := by omega
      have hc := h5 k hk
      have hv : (if (k : Int) = 0 then f0 else if (k : Int) = 1 then f1 else if (k : Int) = 2 then f2 else if (k : Int) = 3 then f3 else .nilFunc) = [f0, f1, f2, f3][k] := by
        match k, hk with
        | 0, _ => rfl
        | 1, _ => rfl
        | 2, _ => rfl
        | 3, _ => rfl
      rw [hv]
      generalize [f0, f1, f2, f3][k] = f at hc
      rw [Nat.zero_add] at hc
      clear h5 hv
      go_enter Try.func18, Try.ntmps18
      go_wp2_with fail
      go_ret
      exact ⟨rfl, rfl⟩
  · have hv : (if kind = 0 then f0 else if kind = 1 then f1 else if kind = 2 then f2 else if kind = 3 then f3 else .nilFunc) = .nilFunc := by
      rw [if_neg (by omega), if_neg (by omega), if_neg (by omega), if_neg (by omega)]
    rw [hv]
    by_cases h0 : kind < 0
    · go_enter Try.func18, Try.ntmps18
      go_wp2_with fail
      go_ret
      exact ⟨rfl, rfl⟩
    · have h4 : 4 ≤ kind := by omega
      go_enter Try.func18, Try.ntmps18
      go_wp2_with fail
      go_ret
      exact ⟨rfl, rfl⟩

set_option maxRecDepth 100000 in
set_option maxHeartbeats 2000000 in
theorem As_kind (k fk : Nat) (v : Value) (l : List Int) (w : World) (hk4 : k < 4) (hl : ∀ n ∈ l, I64 n) (hr : Reads w vi64 v l)
    (hnth : ∀ f0 f1 f2 f3 : Value, f0 = .func (.func 19) #[v] #[] → f1 = .func (.func 20) #[v] #[] → f2 = .func (.func 21) #[v] #[] → f3 = .func (.func 22) #[v] #[] →
      (if (k : Int) = 0 then f0 else if (k : Int) = 1 then f1 else if (k : Int) = 2 then f2 else if (k : Int) = 3 then f3 else .nilFunc) = .func (.func fk) #[v] #[])
    (eg : ∀ args w, (callFunc fk args).run Try.prog w = .ok (.enter fk args) w)
    (hc : l.length ≤ 4096 → ∀ w', Reads w' vi64 v l → Calls Try.prog fk #[v] w' (KindEnd (kindL k l) w')) :
    Calls Try.prog 9 #[.int .i64 (k : Int), v] w (AsEnd (asL k l) w) := by
  obtain ⟨ad, cap, rfl⟩ := hr.slice
  have hmf : ∀ (fn : Fn) (first cap : Array Value) (w : World), (Instr.makeFunc fn first cap).run Try.prog w = .ok (.func fn first cap) w := fun _ _ _ _ => rfl
  have hlenI : l.length ≤ 9223372036854775807 := by have := hr.len_le; simp only [maxLen] at this; omega
  have qf : ∀ (w : World), (binOp .eql 42 (.func (.func fk) #[.slice ad l.length cap] #[]) .nilFunc).run Try.prog w = .ok (.bool false) w := fun w => by rfl
  have hk0 : (0 : Int) ≤ k := by omega
  have hk1 : (k : Int) < 4 := by omega
  go_enter Try.func9, Try.ntmps9
  go_wp2_with fail
  refine (nth_any _ _ _ _ _ _ _ (Reads.built _ _ _ 4 (fun x : Value => x) [_, _, _, _] rfl rfl (by simp [maxLen]))).mono ?_
  rintro e w1 ⟨rfl, rfl⟩
  rw [hnth _ _ _ _ rfl rfl rfl rfl]
  by_cases h4 : 4096 < l.length
  · go_wp2_with fail
    go_ret2
    rw [asL, if_pos h4]
    exact ⟨_, rfl, World.ownsRow_nil _ _ _ _, (Below.refl _ _).alloc (Nat.le_refl _) _⟩
  · have hb0 : Below w.heap.size w (w.alloc (.cells #[.func (.func 19) #[.slice ad l.length cap] #[], .func (.func 20) #[.slice ad l.length cap] #[], .func (.func 21) #[.slice ad l.length cap] #[], .func (.func 22) #[.slice ad l.length cap] #[]] 42)) := (Below.refl _ _).alloc (Nat.le_refl _) _
    have hr0 := hr.below hb0 (Nat.le_refl _)
    have hc0 := hc (by omega) _ hr0
    clear hc hnth
    go_wp2_with fail
    generalize (w.alloc (.cells #[.func (.func 19) #[.slice ad l.length cap] #[], .func (.func 20) #[.slice ad l.length cap] #[], .func (.func 21) #[.slice ad l.length cap] #[], .func (.func 22) #[.slice ad l.length cap] #[]] 42)) = w0 at hb0 hr0 hc0 ⊢
    refine hc0.mono ?_
    rintro e w1 ⟨v1, rfl, hr1, hb1⟩
    clear hc0
    have hs0 : w.heap.size ≤ w0.heap.size := hb0.size
    have hb01 : Below w.heap.size w w1 := hb0.trans (hb1.mono hs0)
    rcases hx : kindL k l with _ | x
    · go_wp2_with fail
      go_ret2
      have ha : asL k l = none := by rw [asL, if_neg h4, hx]; rfl
      rw [ha]
      exact ⟨_, rfl, World.ownsRow_nil _ _ _ _, hb01⟩
    · have hxi := kindL_i64 hl hx
      have hb8 : b8 (UInt8.ofNat k) = .int .u8 (k : Int) := by
        match k, hk4 with
        | 0, _ => rfl
        | 1, _ => rfl
        | 2, _ => rfl
        | 3, _ => rfl
      have hk : asL k l = some ([UInt8.ofNat k] ++ Lib.uvarint l.length ++ allBytes x) := by rw [asL, if_neg h4, hx]; rfl
      have HK := Lib.hid hk
      have hu : U64 l.length := by unfold U64; omega
      have hul : ([UInt8.ofNat k] ++ Lib.uvarint l.length).length ≤ 11 := by have := ulen_le hu; unfold ulen at this; simp; omega
      have hrx : Reads w1 vi64 v1 x := by rw [hx] at hr1; exact hr1
      clear hk hr1 hx
      go_wp2_with fail
      refine (Put_any _ [UInt8.ofNat k] l.length _ hu (by simp) (Reads.built w1 _ _ 1 b8 [UInt8.ofNat k] (by rw [List.map_cons, hb8]; rfl) rfl (by simp [maxLen]))).mono ?_
      rintro e w2 ⟨v2, rfl, hown2, hb2⟩
      have hb12 : Below w1.heap.size w1 w2 := ((Below.refl _ _).alloc (Nat.le_refl _) _).trans (hb2.mono (by simp))
      have hr2 := hrx.below hb12 (Nat.le_refl _)
      go_wp2_with fail
      refine (PutAll_any v2 v1 _ x w2 hxi.1 (by omega) (Reads.of_owns hown2) hr2).mono ?_
      rintro e w3 ⟨v3, rfl, hown3, hb3⟩
      have hb02 : Below w.heap.size w w2 := hb01.trans (hb12.mono hb01.size)
      go_wp2_with fail
      go_ret2
      rw [HK.out]
      exact ⟨v3, rfl, hown3.mono hb02.size, hb02.trans (hb3.mono hb02.size)⟩

set_option maxRecDepth 100000 in
set_option maxHeartbeats 2000000 in
theorem As_out (kind : Int) (v : Value) (l : List Int) (w : World) (hk : kind < 0 ∨ 3 < kind) (hr : Reads w vi64 v l) :
    Calls Try.prog 9 #[.int .i64 kind, v] w (AsEnd (asL kind l) w) := by
  obtain ⟨ad, cap, rfl⟩ := hr.slice
  have hmf : ∀ (fn : Fn) (first cap : Array Value) (w : World), (Instr.makeFunc fn first cap).run Try.prog w = .ok (.func fn first cap) w := fun _ _ _ _ => rfl
  have qf : ∀ (w : World), (binOp .eql 42 .nilFunc .nilFunc).run Try.prog w = .ok (.bool true) w := fun w => by rfl
  have ha : Hid (asL kind l = none) := by
    have hkn : kindL kind l = none := by rw [kindL, if_neg (by omega), if_neg (by omega), if_neg (by omega), if_neg (by omega)]
    rw [Hid, asL, hkn]
    split <;> rfl
  go_enter Try.func9, Try.ntmps9
  go_wp2_with fail
  refine (nth_any _ _ _ _ _ _ _ (Reads.built _ _ _ 4 (fun x : Value => x) [_, _, _, _] rfl rfl (by simp [maxLen]))).mono ?_
  rintro e w1 ⟨rfl, rfl⟩
  rw [if_neg (by omega), if_neg (by omega), if_neg (by omega), if_neg (by omega)]
  go_wp2_with fail
  go_ret2
  rw [ha.out]
  exact ⟨_, rfl, World.ownsRow_nil _ _ _ _, (Below.refl _ _).alloc (Nat.le_refl _) _⟩

/-- As, whatever the kind. -/
theorem As_any (kind : Int) (v : Value) (l : List Int) (w : World) (hl : ∀ n ∈ l, I64 n) (hr : Reads w vi64 v l) :
    Calls Try.prog 9 #[.int .i64 kind, v] w (AsEnd (asL kind l) w) := by
  by_cases h : kind < 0 ∨ 3 < kind
  · exact As_out kind v l w h hr
  · have h4 : kind = (0 : Nat) ∨ kind = (1 : Nat) ∨ kind = (2 : Nat) ∨ kind = (3 : Nat) := by omega
    rcases h4 with rfl | rfl | rfl | rfl
    · exact As_kind 0 19 v l w (by decide) hl hr (fun _ _ _ _ h _ _ _ => h) (fun _ _ => rfl) (fun _ w' h => alike_any v l w' h)
    · exact As_kind 1 20 v l w (by decide) hl hr (fun _ _ _ _ _ h _ _ => h) (fun _ _ => rfl) (fun _ w' h => even_any v l w' h)
    · exact As_kind 2 21 v l w (by decide) hl hr (fun _ _ _ _ _ _ h _ => h) (fun _ _ => rfl) (fun h4 w' h => firstK_any v l w' (by omega) h)
    · exact As_kind 3 22 v l w (by decide) hl hr (fun _ _ _ _ _ _ _ h => h) (fun _ _ => rfl) (fun h4 w' h => second_any v l w' (by omega) h)

end Go.Proofs.Ytgegbfhjophdfaa
