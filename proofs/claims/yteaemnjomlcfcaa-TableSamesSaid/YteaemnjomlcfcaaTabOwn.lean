/- Lists of records in a row of memory of one's own: from the row to the reading, and back. No condition. -/
import Derived.Test.YteaemnjomlcfcaaTabPlain
import Derived.Laws.OwnMore
import Derived.Lib.SliceRun
set_option linter.unusedVariables false
namespace Go.Proofs.Yteaemnjomlcfcaa.Tab
open Go.RowKit
section
variable {α : Type} {cells : α → List Value} {k : Nat} (hk : ∀ x, (cells x).length = k)
include hk
theorem flat_len : ∀ xs : List α, (xs.flatMap cells).length = xs.length * k
  | [] => by simp
  | x :: r => by rw [List.flatMap_cons, List.length_append, hk, flat_len r, List.length_cons, Nat.succ_mul, Nat.add_comm]
theorem flat_idx : ∀ (xs : List α) (q : Nat) (h : q < xs.length) (r : Nat), r < k → (xs.flatMap cells)[q * k + r]? = (cells xs[q])[r]?
  | x :: l, 0, h, r, hr => by rw [List.flatMap_cons, Nat.zero_mul, Nat.zero_add, List.getElem?_append_left (by rw [hk]; exact hr)]; rfl
  | x :: l, q + 1, h, r, hr => by
    rw [List.flatMap_cons, List.getElem?_append_right (by rw [hk, Nat.succ_mul]; omega), hk, show (q + 1) * k + r - k = q * k + r by rw [Nat.succ_mul]; omega]
    exact flat_idx l q (by simpa using h) r hr
theorem flat_get (hpos : 0 < k) {xs : List α} {j : Nat} {u : Value} (h : (xs.flatMap cells)[j]? = some u) : ∃ q, ∃ hq : q < xs.length, ∃ r, r < k ∧ j = q * k + r ∧ (cells xs[q])[r]? = some u := by
  have hj : j < xs.length * k := by rw [← flat_len hk]; exact (List.getElem?_eq_some_iff.1 h).1
  have hq : j / k < xs.length := Nat.div_lt_of_lt_mul (by rw [Nat.mul_comm]; exact hj)
  refine ⟨j / k, hq, j % k, Nat.mod_lt _ hpos, ?_, ?_⟩
  · have := Nat.div_add_mod j k; rw [Nat.mul_comm] at this; exact this.symm
  · rw [← flat_idx hk xs _ hq _ (Nat.mod_lt _ hpos), show j / k * k + j % k = j by have := Nat.div_add_mod j k; rw [Nat.mul_comm] at this; exact this]
    exact h
/-- a slice's cells, one behind the other -/
theorem Sl.flat (hpos : 0 < k) {w : World} {a : Option Addr} {c : Nat} {xs : List α} (h : Sl cells k w a c xs) {ad : Addr} (ha : a = some ad) : ∀ j u, (xs.flatMap cells)[j]? = some u → w.cell? (ad.add j) = some u := by
  intro j u hj
  obtain ⟨q, hq, r, hr, rfl, hu⟩ := flat_get hk hpos hj
  rcases h.2.2 with h0 | ⟨b, o, e1, e2, e3⟩
  · subst h0; exact absurd hq (Nat.not_lt_zero _)
  · rw [ha] at e1
    cases e1
    rw [Addr.add_lit, ← Nat.add_assoc]
    exact e3 q hq r u hu
/-- a row of one's own reads so -/
theorem Sl.owned (hpos : 0 < k) {w : World} {base : Nat} {e : TypeId} {v : Value} {n : Nat} {xs : List α} (h : w.ownsRow base e k v n (xs.flatMap cells)) (hn : n = xs.length) :
    ∃ a c, v = .slice a xs.length c ∧ Sl cells k w a c xs ∧ (∀ ad, a = some ad → base ≤ ad.block) ∧ c ≤ maxLen := by
  subst hn
  rcases h.2 with ⟨rfl, h0⟩ | ⟨g, cap, cur, rfl, hb, hg, hnc, hcm, hcs, htake⟩
  · rw [List.length_eq_zero_iff.1 h0]
    refine ⟨none, 0, rfl, Sl.nil _ _ _ _ _ (by decide), ?_, by decide⟩
    intro ad h1
    cases h1
  · refine ⟨_, _, rfl, ⟨hnc, hcm, .inr ⟨g, 0, rfl, (Array.getElem?_eq_some_iff.1 hg).1, fun j hj i u hu => ?_⟩⟩, fun ad h => by cases h; exact hb, hcm⟩
    have hi : i < k := by rw [← hk xs[j]]; exact (List.getElem?_eq_some_iff.1 hu).1
    rw [Nat.zero_add, h.cellAt _ (by
      have : (j + 1) * k ≤ xs.length * k := Nat.mul_le_mul_right _ hj
      rw [Nat.succ_mul] at this; omega), flat_idx hk xs j hj i hi]
    exact hu
end
theorem Nod.oneCells (xs : List Nod) : ∀ u ∈ xs.flatMap Nod.cells, u.oneCell' = true := by
  intro u hu
  obtain ⟨x, _, h⟩ := List.mem_flatMap.1 hu
  simp [Nod.cells] at h
  rcases h with rfl | rfl | rfl | rfl | rfl | rfl <;> rfl
/-- a list of inodes in memory of the call's own -/
def OwnNods (w : World) (base : Nat) (v : Value) (xs : List Nod) : Prop := w.ownsRow base 35 6 v xs.length (xs.flatMap Nod.cells)
theorem OwnNods.nods {w : World} {base : Nat} {v : Value} {xs : List Nod} (h : OwnNods w base v xs) (hx : ∀ x ∈ xs, NodOk w x) :
    ∃ a c, v = .slice a xs.length c ∧ Nods w a c xs ∧ (∀ ad, a = some ad → base ≤ ad.block) := by
  obtain ⟨a, c, e, h1, h2, _⟩ := Sl.owned Nod.cells_length (by decide) h rfl
  exact ⟨a, c, e, ⟨h1, hx⟩, h2⟩
end Go.Proofs.Yteaemnjomlcfcaa.Tab
