/- A path's names, handed out one by one, and collected. No condition but bounds that each states. -/
import Derived.Test.YtphiahlodjblcaaDoorPath1
set_option linter.unusedVariables false
set_option linter.unusedSimpArgs false
namespace Go.Proofs.YtphiahlodjblcaaDoor.Vcg
open Go.RowKit
abbrev full (x : List UInt8) : Bool := !decide (x = [])
/-- how many of the first k are no empty ones -/
def cnt (xs : List (List UInt8)) (k : Nat) : Nat := ((xs.take k).filter full).length
theorem cnt_succ (xs : List (List UInt8)) (k : Nat) (x : List UInt8) (h : xs[k]? = some x) : cnt xs (k + 1) = if x = [] then cnt xs k else cnt xs k + 1 := by
  unfold cnt
  rw [List.take_add_one, h]
  by_cases hx : x = [] <;> simp [hx]
theorem cnt_get (xs : List (List UInt8)) (k : Nat) (x : List UInt8) (h : xs[k]? = some x) (hx : x ≠ []) : (xs.filter full)[cnt xs k]? = some x := by
  have hk : k < xs.length := (List.getElem?_eq_some_iff.1 h).1
  have e : xs = xs.take k ++ x :: xs.drop (k + 1) := by
    have := List.take_append_drop k xs
    rw [List.drop_eq_getElem_cons hk] at this
    rw [List.getElem?_eq_getElem hk] at h
    cases h; exact this.symm
  have e2 : xs.filter full = (xs.take k).filter full ++ x :: (xs.drop (k + 1)).filter full := by
    conv => lhs; rw [e]
    rw [List.filter_append, List.filter_cons]
    simp [hx]
  rw [e2]
  unfold cnt
  simp
theorem cnt_all (xs : List (List UInt8)) : cnt xs xs.length = (xs.filter full).length := by unfold cnt; rw [List.take_length]
/-- what has been handed out was not the last -/
theorem cnt_before {xs : List (List UInt8)} {sf : Nat → Bool} : ∀ k, k ≤ xs.length → (∀ j, j < k → (full (xs.getD j []) && sf (cnt xs j)) = false) → ∀ j, j < cnt xs k → sf j = false
  | 0, _, _, j, hj => by simp [cnt] at hj
  | k + 1, hk, h, j, hj => by
    have ih := cnt_before k (by omega) fun i hi => h i (by omega)
    have hx : xs[k]? = some (xs.getD k []) := by rw [List.getD_eq_getElem?_getD, List.getElem?_eq_getElem (by omega)]; rfl
    rw [cnt_succ xs k _ hx] at hj
    by_cases he : xs.getD k [] = []
    · rw [if_pos he] at hj; exact ih j hj
    · rw [if_neg he] at hj
      rcases Nat.lt_or_ge j (cnt xs k) with g | g
      · exact ih j g
      · have h2 := h k (by omega)
        have h3 : full (xs.getD k []) = true := by simp only [full, Bool.not_eq_true', decide_eq_false_iff_not]; exact he
        rw [h3, Bool.true_and] at h2
        rw [show j = cnt xs k by omega]; exact h2
theorem strs_get {xs : List (List UInt8)} {k : Nat} {it : List C} (h : (strs xs)[k]? = some it) : ∃ x, xs[k]? = some x ∧ it = [.str x] := by
  rw [List.getElem?_map] at h
  cases hq : xs[k]? with
  | none => rw [hq] at h; cases h
  | some x => rw [hq] at h; cases h; exact ⟨x, rfl, rfl⟩
end Go.Proofs.YtphiahlodjblcaaDoor.Vcg
