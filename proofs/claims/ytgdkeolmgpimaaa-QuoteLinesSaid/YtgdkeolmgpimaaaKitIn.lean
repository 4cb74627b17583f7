/- How arguments that read as data are opened: a slice of texts. No condition. -/
import Derived.Test.YtgdkeolmgpimaaaKit
import Derived.ProofKit
import Derived.SliceStrings
namespace Go.Proofs.Ytgdkeolmgpimaaa.Kit
open Go.RowKit Go.ChangeMaps Go.ChangeShapes Go.WideShapes
/-- a slice of texts that came in: so it reads, and each text is of a length that Go knows -/
def StrsIn (w : World) (v : Value) (xs : List ByteArray) : Prop := Strs w v xs ∧ ∀ x ∈ xs, x.size ≤ maxLen
theorem StrsIn.strs {w : World} {v : Value} {xs : List ByteArray} (h : StrsIn w v xs) : Strs w v xs := h.1
theorem strsIn_of_trod {H : Type} {enc : TypeId × Value → H} {P : Program} {W : World} {t e : TypeId} {fuel : Nat} {a : Option Addr} {len cap : Nat} {x : DataW H × List MemPlace}
    (ht : P.underlying t = some (.slice e)) (he : P.underlying e = some .string) (hc : P.cellsOf e = 1)
    (h : DataW.trod enc P W 0 (fun _ => true) true fuel t (Value.slice a len cap).cells.toList = some x) : ∃ xs, StrsIn W (.slice a len cap) xs := by
  rcases open_strings ht he hc h with ⟨hcs, _⟩ | ⟨ad, l, c, ss, hcs, _, hl, hm, hz, _, hcell, hws⟩
  · simp [Value.cells] at hcs
    obtain ⟨rfl, rfl, rfl⟩ := hcs
    exact ⟨[], Strs.nil _ _ _ (by decide), fun x h => by cases h⟩
  · simp [Value.cells] at hcs
    obtain ⟨rfl, rfl, rfl⟩ := hcs
    have hz' : ss.length = cap := by simpa using hz
    refine ⟨ss.take len, ?_, fun x hx => hws x (List.mem_of_mem_take hx)⟩
    have hlen : (ss.take len).length = len := by rw [List.length_take]; omega
    by_cases h0 : len = 0
    · subst h0
      rw [List.take_zero]
      exact Strs.nil _ _ _ (by unfold maxLen at hm; omega)
    · obtain ⟨b, off, spot⟩ := ad
      have h1 := hcell 0 (by omega)
      have hspot : spot = none := by simpa [Addr.add] using World.cell?_spot h1
      subst hspot
      have hb : b < W.heap.size := by
        rcases Nat.lt_or_ge b W.heap.size with h | h
        · exact h
        · simp [World.cell?, Addr.add, Array.getElem?_eq_none h] at h1
      refine ⟨some ⟨b, off, none⟩, cap, by rw [hlen], by rw [hlen]; exact hl, by unfold maxLen at hm; omega, .inr ⟨b, off, rfl, hb, fun j hj => ?_⟩⟩
      have h2 := hcell j (by omega)
      have h3 : Addr.add ⟨b, off, none⟩ j = ⟨b, off + j, none⟩ := by
        unfold Addr.add
        split
        · subst_vars; rfl
        · rfl
      rw [h3] at h2
      rw [h2]
      have hj' : j < len := by omega
      have hj2 : j < ss.length := by omega
      simp only [List.getD_eq_getElem?_getD, List.getElem?_take, if_pos hj', List.getElem?_eq_getElem hj2]
      rfl
end Go.Proofs.Ytgdkeolmgpimaaa.Kit
