/- How a law's arguments are opened: slices of integers that came in, as lists. -/
import Derived.Test.YtgegbfhjophdfaaKa
import Derived.ProofKit
import Derived.OpenShut
import Derived.ChangeOld
namespace Go.Proofs.Ytgegbfhjophdfaa
open Go Go.RowKit Go.ChangeShapes Go.WideShapes

theorem reads_ints {H : Type} {enc : TypeId × Value → H} {P : Program} {W : World} {r : Reach} {base : Nat} {t e : TypeId} {k : IntKind} (ht : P.underlying t = some (.slice e)) (he : P.underlying e = some (.int k)) (hc : P.cellsOf e = 1)
    {v : Value} {d : DataW H} {p : List MemPlace} (hv : Value.okWide P W r base t v) (h : DataW.Trod enc P W 0 (fun _ => true) true t v d p) :
    ∃ zs : List Int, Reads W (fun n => Value.int k n) v zs ∧ ∀ n ∈ zs, (Lit.int k n).wf = true := by
  obtain ⟨a0, len0, cap0, rfl⟩ := okWide_slice ht hv
  obtain ⟨fuel, hf⟩ := h
  rcases open_ints ht he hc hf with ⟨hcs, _⟩ | ⟨x, l, c, zs, hcs, _, hl, hm, hz, _, hcell, hwz⟩
  · simp [Value.cells] at hcs
    obtain ⟨rfl, rfl, rfl⟩ := hcs
    exact ⟨[], Reads.nil _ _, fun n hn => by cases hn⟩
  · simp [Value.cells] at hcs
    obtain ⟨rfl, rfl, rfl⟩ := hcs
    have hz' : zs.length = cap0 := by simpa using hz
    by_cases h0 : len0 = 0
    · subst h0
      exact ⟨[], .inl ⟨rfl, some x, cap0, rfl, hm, fun h => by cases h⟩, fun n hn => by cases hn⟩
    · obtain ⟨b, off, spot⟩ := x
      have hc0 := hcell 0 (by omega)
      have hspot : spot = none := by simpa [Addr.add] using World.cell?_spot hc0
      subst hspot
      have hlen : (zs.take len0).length = len0 := by rw [List.length_take]; omega
      refine ⟨zs.take len0, .inr ⟨b, off, cap0, by rw [hlen], by omega, hm, ?_, fun i hi => ?_⟩, fun n hn => hwz n (List.mem_of_mem_take hn)⟩
      · rw [show (⟨b, off, none⟩ : Addr).add 0 = ⟨b, off, none⟩ from rfl] at hc0
        exact World.block_lt_of_cell? W ⟨b, off, none⟩ hc0
      · have := hcell i (by omega)
        rw [add_off] at this
        rw [this]
        have hi2 : i < zs.length := by omega
        simp [hi2]

theorem Reads.map {w : World} {α β : Type} {mk : α → Value} {mk' : β → Value} (f : α → β) {v : Value} {xs : List α} (h : Reads w mk v xs) (hf : ∀ x ∈ xs, mk x = mk' (f x)) : Reads w mk' v (xs.map f) := by
  rcases h with ⟨rfl, h⟩ | ⟨b, off, cap, h1, h2, h3, h4, h5⟩
  · exact .inl ⟨rfl, h⟩
  · refine .inr ⟨b, off, cap, by rw [List.length_map]; exact h1, by rw [List.length_map]; exact h2, h3, h4, fun i hi => ?_⟩
    rw [List.length_map] at hi
    rw [h5 i hi, List.getElem_map, hf _ (List.getElem_mem hi)]

theorem reads_bytes {H : Type} {enc : TypeId × Value → H} {P : Program} {W : World} {r : Reach} {base : Nat} {t e : TypeId} (ht : P.underlying t = some (.slice e)) (he : P.underlying e = some (.int .u8)) (hc : P.cellsOf e = 1)
    {v : Value} {d : DataW H} {p : List MemPlace} (hv : Value.okWide P W r base t v) (h : DataW.Trod enc P W 0 (fun _ => true) true t v d p) :
    ∃ l : List UInt8, Reads W (fun x : UInt8 => Value.int .u8 (x.toNat : Int)) v l := by
  obtain ⟨zs, hr, hwf⟩ := reads_ints ht he hc hv h
  refine ⟨zs.map fun z => UInt8.ofNat z.toNat, hr.map (fun z => UInt8.ofNat z.toNat) fun z hz => ?_⟩
  have := bounds_u8 (hwf z hz)
  have e1 : (UInt8.ofNat z.toNat).toNat = z.toNat := by rw [UInt8.toNat_ofNat']; omega
  rw [e1, Int.toNat_of_nonneg this.1]

end Go.Proofs.Ytgegbfhjophdfaa
