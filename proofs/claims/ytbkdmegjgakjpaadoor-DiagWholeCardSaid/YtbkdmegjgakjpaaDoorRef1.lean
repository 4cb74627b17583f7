/- The reference's Same and Few of lists of texts. No condition but bounds that each states. -/
import Derived.Test.YtbkdmegjgakjpaaDoorPathN
set_option linter.unusedVariables false
set_option linter.unusedSimpArgs false
namespace Go.Proofs.YtbkdmegjgakjpaaDoor.Vcg
open Go.RowKit
abbrev strs (xs : List (List UInt8)) : List (List C) := xs.map strC
theorem strs_length (xs : List (List UInt8)) : (strs xs).length = xs.length := List.length_map _
theorem strs_snoc (xs : List (List UInt8)) (x : List UInt8) : strs xs ++ [[.str x]] = strs (xs ++ [x]) := by simp
theorem strs_get? (xs : List (List UInt8)) (k : Nat) : (strs xs)[k]? = (xs[k]?).map strC := List.getElem?_map
theorem strs_drop (xs : List (List UInt8)) (k : Nat) : (strs xs).drop k = strs (xs.drop k) := List.map_drop.symm
theorem strs_take (xs : List (List UInt8)) (k : Nat) : (strs xs).take k = strs (xs.take k) := List.map_take.symm
theorem strs_append (xs ys : List (List UInt8)) : strs xs ++ strs ys = strs (xs ++ ys) := List.map_append.symm
theorem strs_at (xs : List (List UInt8)) (k : Nat) (h : k < xs.length) : (strs xs)[k]? = some [.str (xs[k]'h)] := by rw [strs_get?, List.getElem?_eq_getElem h]; rfl
attribute [push_cast] strs_length strs_snoc strs_drop strs_take strs_append
abbrev boolC (b : Bool) : C := .sc (.bool b)
def few (l : List (List UInt8)) : Bool := (l.take 100).all (fun x => decide (x.length ≤ 300)) && decide (l.length ≤ 40)
theorem few_len {l : List (List UInt8)} (h : few l = true) : l.length ≤ 40 := by simp [few] at h; exact h.2
theorem few_size {l : List (List UInt8)} (h : few l = true) : ∀ x ∈ l, x.length ≤ 300 := by
  have h1 := few_len h
  simp only [few, Bool.and_eq_true, List.all_eq_true, decide_eq_true_eq, List.take_of_length_le (show l.length ≤ 100 by omega)] at h
  exact h.1
end Go.Proofs.YtbkdmegjgakjpaaDoor.Vcg
