/- ManifestGrows: the plain law. -/
import Derived.Test.YtcjbgchhalilnaaGreatDoorGa
namespace Go.Proofs.YtcjbgchhalilnaaGreatDoor
open Go Go.RowKit Go.Lib

/-- A manifest with one file more, of the next number. -/
def grown (m : Man) (mo : Int) : Man := ⟨m.seq + 1, m.every, m.keep, m.index, m.data ++ [⟨mo, nameL 100 (m.seq + 1)⟩]⟩
theorem grown_no {m : Man} {mo : Int} (hf : m.seq = 999999 ∨ m.data.length = 100) : ¬ CheckP (grown m mo) := by
  intro hg
  rcases hf with e | e
  · have := hg.1.2
    simp only [grown] at this
    omega
  · have := hg.2.2.2.2.1
    simp only [grown, List.length_append, List.length_cons, List.length_nil] at this
    omega
theorem new_num {m : Man} (h : CheckP m) (hs : m.seq ≠ 999999) : (numF (nameL 100 (m.seq + 1)) 100 : Int) = m.seq + 1 := by
  rw [numF_name]
  have := h.1
  unfold numB
  omega
theorem new_name {m : Man} (h : CheckP m) (hs : m.seq ≠ 999999) : nameL 100 (m.seq + 1) ∉ m.index ++ m.data.map (·.n) := by
  have hn := new_num h hs
  have hseq := h.1
  intro hm
  rcases List.mem_append.1 hm with k | k
  · have h1 := (h.2.2.2.2.2.2.1 _ k).1
    have h2 := (numF_pos h1).1
    have h3 : kindB 100 = kindB 105 := (List.cons.inj h2).1
    revert h3
    decide
  · obtain ⟨d, hd, he⟩ := List.mem_map.1 k
    have h1 := (h.2.2.2.2.2.2.2 d hd).1.2
    rw [he, hn] at h1
    omega
theorem grown_names {m : Man} {mo : Int} (h : CheckP m) (hs : m.seq ≠ 999999) : (namesL (grown m mo)).length = m.index.length + (m.data.length + 1) := by
  have h1 := names_nodup.1 h.2.2.2.2.2.1
  have h2 : ((grown m mo).index ++ (grown m mo).data.map (·.n)).Nodup := by
    show (m.index ++ (m.data ++ [(⟨mo, nameL 100 (m.seq + 1)⟩ : D2)]).map (·.n)).Nodup
    rw [List.map_append, ← List.append_assoc, List.nodup_append]
    refine ⟨h1, by simp, fun a ha b hb => ?_⟩
    simp only [List.map_cons, List.map_nil, List.mem_singleton] at hb
    subst hb
    exact fun e => new_name h hs (e ▸ ha)
  have h3 := names_nodup.2 h2
  rw [h3]
  simp [grown]
theorem grown_ok {m : Man} {mo : Int} (h : CheckP m) (hm : 0 ≤ mo ∧ mo ≤ 2147483647) (hs : m.seq ≠ 999999) (hd : m.data.length ≠ 100) : CheckP (grown m mo) := by
  have hn := new_num h hs
  have hnl := grown_names (mo := mo) h hs
  obtain ⟨h1, h2, h3, h4, h5, -, h7, h8⟩ := h
  refine ⟨?_, h2, h3, h4, ?_, ?_, ?_, ?_⟩
  · simp only [grown]; omega
  · simp only [grown, List.length_append, List.length_cons, List.length_nil]; omega
  · rw [hnl]; simp [grown]
  · intro s hs'
    have := h7 s hs'
    simp only [grown]
    omega
  · intro d hd'
    simp only [grown] at hd' ⊢
    rcases List.mem_append.1 hd' with k | k
    · have := h8 d k
      omega
    · rw [List.mem_singleton] at k
      subst k
      simp only
      omega
theorem grown_of (m : Man) (mo : Int) : ofL (grown m mo) mo = ofL m mo ++ [nameL 100 (m.seq + 1)] := by
  unfold ofL grown
  simp only [List.filter_append, List.map_append]
  congr 1
  simp
theorem grown_pack {m : Man} {mo : Int} (h : CheckP m) (hg : CheckP (grown m mo)) : (packL m == packL (grown m mo)) = false := by
  rw [beq_eq_false_iff_ne]
  intro e
  have h1 := unpack_pack h
  rw [e, unpack_pack hg] at h1
  have h2 : (grown m mo).seq = m.seq := by rw [(Prod.mk.inj h1).2]
  simp only [grown] at h2
  omega
end Go.Proofs.YtcjbgchhalilnaaGreatDoor
