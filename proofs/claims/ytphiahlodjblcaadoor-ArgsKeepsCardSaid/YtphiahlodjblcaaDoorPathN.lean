/- The names of a path: the reference's way. No condition. -/
import Derived.Test.YtphiahlodjblcaaDoorVcg18
set_option linter.unusedVariables false
set_option linter.unusedSimpArgs false
namespace Go.Proofs.YtphiahlodjblcaaDoor.Vcg
open Go.RowKit
abbrev G0 : Globs := fun _ => none
abbrev strC (l : List UInt8) : List C := [.str l]
def nstep (s : List (List UInt8) × List UInt8) (b : UInt8) : List (List UInt8) × List UInt8 :=
  if b = 47 then (if s.2 = [] then s.1 else s.1 ++ [s.2], []) else (s.1, s.2 ++ [b])
def nfin (s : List (List UInt8) × List UInt8) : List (List UInt8) := if s.2 = [] then s.1 else s.1 ++ [s.2]
def nst (l : List UInt8) (k : Nat) : List (List UInt8) × List UInt8 := if k ≤ l.length then (l.take k).foldl nstep ([], []) else (nfin (l.foldl nstep ([], [])), [])
def names (l : List UInt8) : List (List UInt8) := nfin (l.foldl nstep ([], []))
theorem nst_zero (l : List UInt8) : nst l 0 = ([], []) := by simp [nst]
theorem nst_succ (l : List UInt8) (k : Nat) (b : UInt8) (h : l[k]? = some b) : nst l (k + 1) = nstep (nst l k) b := by
  have hk : k < l.length := (List.getElem?_eq_some_iff.1 h).1
  unfold nst
  rw [if_pos (by omega), if_pos (by omega), List.take_add_one, h]
  simp
theorem nst_end (l : List UInt8) : nst l (l.length + 1) = (names l, []) := by
  unfold nst names
  rw [if_neg (by omega)]
theorem nst_len (l : List UInt8) : nfin (nst l l.length) = names l := by
  unfold nst names
  rw [if_pos (Nat.le_refl _), List.take_length]
theorem nst_size (l : List UInt8) : ∀ k, k ≤ l.length → (nst l k).1.length + (nst l k).2.length ≤ k
  | 0, _ => by simp [nst_zero]
  | k + 1, h => by
    have hk : k < l.length := by omega
    have ih := nst_size l k (by omega)
    rw [nst_succ l k l[k] (List.getElem?_eq_getElem hk)]
    unfold nstep
    by_cases h47 : l[k] = 47
    · rw [if_pos h47]
      by_cases h2 : (nst l k).2 = []
      · simp [h2]; omega
      · have : 0 < (nst l k).2.length := List.length_pos_iff.2 h2
        simp [h2]; omega
    · rw [if_neg h47]; simp; omega
theorem names_size (l : List UInt8) : (names l).length ≤ l.length := by
  rw [← nst_len]
  have := nst_size l l.length (Nat.le_refl _)
  unfold nfin
  split
  · omega
  · rename_i h
    have : 0 < (nst l l.length).2.length := List.length_pos_iff.2 h
    simp; omega
theorem u8_ne {b c : UInt8} (h : b ≠ c) : ¬ ((b.toNat : Int) = (c.toNat : Int)) := fun e => h (UInt8.toNat_inj.1 (by omega))
theorem slice_one {α : Type} (l : List α) (k : Nat) (b : α) (h : l[k]? = some b) : (l.take (k + 1)).drop k = [b] := by
  have hk : k < l.length := (List.getElem?_eq_some_iff.1 h).1
  rw [List.take_add_one, h, List.drop_append]
  simp [Nat.min_eq_left (by omega : k ≤ l.length)]
end Go.Proofs.YtphiahlodjblcaaDoor.Vcg
