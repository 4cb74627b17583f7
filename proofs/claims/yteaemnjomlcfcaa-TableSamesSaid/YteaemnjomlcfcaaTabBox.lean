/- What stands in boxes of four and of six cells, and in blocks that were just laid. No condition. -/
import Derived.Test.YteaemnjomlcfcaaKit
import Derived.Below
namespace Go.Proofs.Yteaemnjomlcfcaa.Tab
open Go.RowKit
theorem box4 {w : World} {g : Nat} {t : TypeId} {a b c d : Value} (h : w.heap[g]? = some (.cells #[a, b, c, d] t (0, 0))) :
    w.cell? ⟨g, 0, none⟩ = some a ∧ w.cell? ⟨g, 1, none⟩ = some b ∧ w.cell? ⟨g, 2, none⟩ = some c ∧ w.cell? ⟨g, 3, none⟩ = some d ∧ ∀ o, w.frozen? ⟨g, o, none⟩ = false :=
  ⟨by rw [cell_of_row w g _ _ _ _ h]; rfl, by rw [cell_of_row w g _ _ _ _ h]; rfl, by rw [cell_of_row w g _ _ _ _ h]; rfl, by rw [cell_of_row w g _ _ _ _ h]; rfl, fun o => frozen_of_row w g o _ _ h⟩
theorem box6 {w : World} {g : Nat} {t : TypeId} {a b c d e f : Value} (h : w.heap[g]? = some (.cells #[a, b, c, d, e, f] t (0, 0))) :
    w.cell? ⟨g, 0, none⟩ = some a ∧ w.cell? ⟨g, 1, none⟩ = some b ∧ w.cell? ⟨g, 2, none⟩ = some c ∧ w.cell? ⟨g, 3, none⟩ = some d ∧ w.cell? ⟨g, 4, none⟩ = some e ∧ w.cell? ⟨g, 5, none⟩ = some f ∧ ∀ o, w.frozen? ⟨g, o, none⟩ = false :=
  ⟨by rw [cell_of_row w g _ _ _ _ h]; rfl, by rw [cell_of_row w g _ _ _ _ h]; rfl, by rw [cell_of_row w g _ _ _ _ h]; rfl, by rw [cell_of_row w g _ _ _ _ h]; rfl, by rw [cell_of_row w g _ _ _ _ h]; rfl, by rw [cell_of_row w g _ _ _ _ h]; rfl, fun o => frozen_of_row w g o _ _ h⟩
theorem laid0 (w : World) (a : Obj) : (w.alloc a).heap[w.heap.size]? = some a := by
  show (w.heap.push a)[w.heap.size]? = _
  rw [Array.getElem?_push, if_pos rfl]
theorem laid_past (w : World) (a : Obj) {i : Nat} (h : i < w.heap.size) : (w.alloc a).heap[i]? = w.heap[i]? := by
  show (w.heap.push a)[i]? = _
  rw [Array.getElem?_push, if_neg (by omega)]
theorem laid1 (w : World) (a b : Obj) : ((w.alloc a).alloc b).heap[w.heap.size]? = some a ∧ ((w.alloc a).alloc b).heap[w.heap.size + 1]? = some b :=
  ⟨by rw [laid_past _ _ (by simp), laid0], by have := laid0 (w.alloc a) b; rwa [World.size_alloc] at this⟩
theorem laid2 (w : World) (a b c : Obj) : (((w.alloc a).alloc b).alloc c).heap[w.heap.size]? = some a ∧ (((w.alloc a).alloc b).alloc c).heap[w.heap.size + 1]? = some b ∧ (((w.alloc a).alloc b).alloc c).heap[w.heap.size + 1 + 1]? = some c :=
  ⟨by rw [laid_past _ _ (by simp; omega), (laid1 w a b).1], by rw [laid_past _ _ (by simp), (laid1 w a b).2], by have := laid0 ((w.alloc a).alloc b) c; rwa [World.size_alloc, World.size_alloc] at this⟩
end Go.Proofs.Yteaemnjomlcfcaa.Tab
