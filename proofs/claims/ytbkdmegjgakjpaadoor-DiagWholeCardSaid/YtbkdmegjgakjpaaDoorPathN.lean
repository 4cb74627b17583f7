/- The names of a path: the reference's way. No condition. -/
import Derived.Test.YtbkdmegjgakjpaaDoorVcg18
set_option linter.unusedVariables false
set_option linter.unusedSimpArgs false
namespace Go.Proofs.YtbkdmegjgakjpaaDoor.Vcg
open Go.RowKit
abbrev G0 : Globs := fun _ => none
abbrev strC (l : List UInt8) : List C := [.str l]
def nstep (s : List (List UInt8) × List UInt8) (b : UInt8) : List (List UInt8) × List UInt8 :=
  if b = 47 then (if s.2 = [] then s.1 else s.1 ++ [s.2], []) else (s.1, s.2 ++ [b])
def nfin (s : List (List UInt8) × List UInt8) : List (List UInt8) := if s.2 = [] then s.1 else s.1 ++ [s.2]
def nst (l : List UInt8) (k : Nat) : List (List UInt8) × List UInt8 := if k ≤ l.length then (l.take k).foldl nstep ([], []) else (nfin (l.foldl nstep ([], [])), [])
def names (l : List UInt8) : List (List UInt8) := nfin (l.foldl nstep ([], []))
theorem nst_zero (l : List UInt8) : nst l 0 = ([], []) := by simp [nst]
theorem nst_succ (l : List UInt8) (k : Nat) (b : UInt8) (h : l[k]? = some b) : nst l (k + 1) = nstep (nst l k) b := by
  have hk : k < l.length := (List.getElem?_eq_some_iff.1 h).1
  unfold nst
  rw [if_pos (by omega), if_pos (by omega), List.take_add_one, h]
  simp
theorem nst_end (l : List UInt8) : nst l (l.length + 1) = (names l, []) := by
  unfold nst names
  rw [if_neg (by omega)]
theorem nst_len (l : List UInt8) : nfin (nst l l.length) = names l := by
  unfold nst names
  rw [if_pos (Nat.le_refl _), List.take_length]
theorem nst_size (l : List UInt8) : ∀ k, k ≤ l.length → (nst l k).1.length + (nst l k).2.length ≤ k
  | 0, _ => by simp [nst_zero]
  | k + 1, h => by
    have hk : k < l.length := by omega
    have ih := nst_size l k (by omega)
    rw [nst_succ l k l[k] (List.getElem?_eq_getElem hk)]
    unfold nstep
    by_cases h47 : l[k] = 47
    · rw [if_pos h47]
      by_cases h2 : (nst l k).2 = []
      · simp [h2]; omega
      · have : 0 < (nst l k).2.length := List.length_pos_iff.2 h2
        simp [h2]; omega
    · rw [if_neg h47]; simp; omega
theorem names_size (l : List UInt8) : (names l).length ≤ l.length := by
  rw [← nst_len]
  have := nst_size l l.length (Nat.le_refl _)
  unfold nfin
  split
  · omega
  · rename_i h
    have : 0 < (nst l l.length).2.length := List.length_pos_iff.2 h
    simp; omega
theorem u8_ne {b c : UInt8} (h : b ≠ c) : ¬ ((b.toNat : Int) = (c.toNat : Int)) := fun e => h (UInt8.toNat_inj.1 (by omega))
theorem slice_one {α : Type} (l : List α) (k : Nat) (b : α) (h : l[k]? = some b) : (l.take (k + 1)).drop k = [b] := by
  have hk : k < l.length := (List.getElem?_eq_some_iff.1 h).1
  rw [List.take_add_one, h, List.drop_append]
  simp [Nat.min_eq_left (by omega : k ≤ l.length)]
set_option maxHeartbeats 1000000 in
theorem names_fun (l : List UInt8) (h : l.length ≤ 100000) : Fun Tryd.prog G0 60 [.str l] (.own 0 9 1 ((names l).map strC)) 1 := by
  refine Fun.of (fun _ => []) (by kernel_rfl) Tryd.func60 rfl rfl (Nat.le_of_ble_eq_true rfl) (by kernel_rfl) ?_; dsimp only [Tryd.f60, List.append_eq, List.cons_append, List.nil_append]
  simp -dsimp only [push_cast, ↓reduceIte, Nat.reduceAdd, Nat.reduceMul, Nat.reduceSub, Nat.reduceLeDiff, Nat.reduceEqDiff, Nat.reduceBEq, Int.reduceToNat, Nat.reduceLT, Int.reduceEq, Int.reduceLT, Int.reduceLE, Int.reduceAdd, Int.reduceSub, Int.reduceMul, reduceCtorEq, Bool.not_false, Bool.not_true, Bool.true_beq, Bool.false_beq, beq_self_eq_true]
  refine loop (fun k : Nat => ⟨[(0, .str l), (3, .own 0 9 1 ((nst l k).1.map strC)), (4, .str (nst l k).2), (5, .sc (.int .i64 k))], [], 1, 0⟩) (fun k => k ≤ l.length + 1) (fun k => l.length + 1 - k) 0 (Nat.zero_le _) ?_ ?_
  · refine Weak.mk [.inr (9, 1)] rfl rfl (Nat.le_refl _) rfl ?_ trivial
    simp -dsimp only [WeakTm, WeakBx, CLe, CLeL, push_cast, ↓reduceIte, Nat.reduceAdd, Nat.reduceMul, Nat.reduceSub, Nat.reduceLeDiff, Nat.reduceEqDiff, Nat.reduceBEq, Int.reduceToNat, Nat.reduceLT, Int.reduceEq, Int.reduceLT, Int.reduceLE, Int.reduceAdd, Int.reduceSub, Int.reduceMul, reduceCtorEq, Bool.not_false, Bool.not_true, Bool.true_beq, Bool.false_beq, beq_self_eq_true]
    simp [nst_zero]
  · intro k hk
    simp -dsimp only [push_cast, ↓reduceIte, Nat.reduceAdd, Nat.reduceMul, Nat.reduceSub, Nat.reduceLeDiff, Nat.reduceEqDiff, Nat.reduceBEq, Int.reduceToNat, Nat.reduceLT, Int.reduceEq, Int.reduceLT, Int.reduceLE, Int.reduceAdd, Int.reduceSub, Int.reduceMul, reduceCtorEq, Bool.not_false, Bool.not_true, Bool.true_beq, Bool.false_beq, beq_self_eq_true]
    by_cases h1 : k ≤ l.length
    · have hs := nst_size l k h1
      by_cases h2 : k < l.length
      · obtain ⟨b, hb⟩ : ∃ b, l[k]? = some b := ⟨l[k], List.getElem?_eq_getElem h2⟩
        have hn := nst_succ l k b hb
        by_cases h3 : b = 47
        · have h3' : (b.toNat : Int) = 47 := by subst h3; rfl
          by_cases h4 : (nst l k).2 = []
          · simp -dsimp only [push_cast, ↓reduceIte, Nat.reduceAdd, Nat.reduceMul, Nat.reduceSub, Nat.reduceLeDiff, Nat.reduceEqDiff, Nat.reduceBEq, Int.reduceToNat, Nat.reduceLT, Int.reduceEq, Int.reduceLT, Int.reduceLE, Int.reduceAdd, Int.reduceSub, Int.reduceMul, reduceCtorEq, Bool.not_false, Bool.not_true, Bool.true_beq, Bool.false_beq, beq_self_eq_true, h1, h2, h3', hb, h4]
            and_intros <;> try omega
            refine ⟨k + 1, by omega, by omega, Weak.mk [.inl 0] rfl rfl (Nat.le_refl _) rfl ?_ trivial⟩
            simp -dsimp only [WeakTm, WeakBx, CLe, CLeL, push_cast, ↓reduceIte, Nat.reduceAdd, Nat.reduceMul, Nat.reduceSub, Nat.reduceLeDiff, Nat.reduceEqDiff, Nat.reduceBEq, Int.reduceToNat, Nat.reduceLT, Int.reduceEq, Int.reduceLT, Int.reduceLE, Int.reduceAdd, Int.reduceSub, Int.reduceMul, reduceCtorEq, Bool.not_false, Bool.not_true, Bool.true_beq, Bool.false_beq, beq_self_eq_true]
            simp [hn, nstep, h3, h4]
          · simp -dsimp only [push_cast, ↓reduceIte, Nat.reduceAdd, Nat.reduceMul, Nat.reduceSub, Nat.reduceLeDiff, Nat.reduceEqDiff, Nat.reduceBEq, Int.reduceToNat, Nat.reduceLT, Int.reduceEq, Int.reduceLT, Int.reduceLE, Int.reduceAdd, Int.reduceSub, Int.reduceMul, reduceCtorEq, Bool.not_false, Bool.not_true, Bool.true_beq, Bool.false_beq, beq_self_eq_true, h1, h2, h3', hb, h4]
            simp only [List.length_map, List.length_cons, List.length_nil]
            and_intros <;> try omega
            refine ⟨k + 1, by omega, by omega, Weak.mk [.inl 0] rfl rfl (Nat.le_refl _) rfl ?_ trivial⟩
            simp -dsimp only [WeakTm, WeakBx, CLe, CLeL, push_cast, ↓reduceIte, Nat.reduceAdd, Nat.reduceMul, Nat.reduceSub, Nat.reduceLeDiff, Nat.reduceEqDiff, Nat.reduceBEq, Int.reduceToNat, Nat.reduceLT, Int.reduceEq, Int.reduceLT, Int.reduceLE, Int.reduceAdd, Int.reduceSub, Int.reduceMul, reduceCtorEq, Bool.not_false, Bool.not_true, Bool.true_beq, Bool.false_beq, beq_self_eq_true]
            simp [hn, nstep, h3, h4, strC]
        · have h3' : ¬ ((b.toNat : Int) = 47) := u8_ne h3
          simp -dsimp only [push_cast, ↓reduceIte, Nat.reduceAdd, Nat.reduceMul, Nat.reduceSub, Nat.reduceLeDiff, Nat.reduceEqDiff, Nat.reduceBEq, Int.reduceToNat, Nat.reduceLT, Int.reduceEq, Int.reduceLT, Int.reduceLE, Int.reduceAdd, Int.reduceSub, Int.reduceMul, reduceCtorEq, Bool.not_false, Bool.not_true, Bool.true_beq, Bool.false_beq, beq_self_eq_true, h1, h2, h3', hb]
          rw [slice_one l k b hb]
          and_intros <;> try omega
          · simp; omega
          refine ⟨k + 1, by omega, by omega, Weak.mk [.inl 0] rfl rfl (Nat.le_refl _) rfl ?_ trivial⟩
          simp -dsimp only [WeakTm, WeakBx, CLe, CLeL, push_cast, ↓reduceIte, Nat.reduceAdd, Nat.reduceMul, Nat.reduceSub, Nat.reduceLeDiff, Nat.reduceEqDiff, Nat.reduceBEq, Int.reduceToNat, Nat.reduceLT, Int.reduceEq, Int.reduceLT, Int.reduceLE, Int.reduceAdd, Int.reduceSub, Int.reduceMul, reduceCtorEq, Bool.not_false, Bool.not_true, Bool.true_beq, Bool.false_beq, beq_self_eq_true]
          simp [hn, nstep, h3]
      · obtain rfl : k = l.length := by omega
        have hl := nst_len l
        have he := nst_end l
        have hz := names_size l
        by_cases h4 : (nst l l.length).2 = []
        · simp -dsimp only [push_cast, ↓reduceIte, Nat.reduceAdd, Nat.reduceMul, Nat.reduceSub, Nat.reduceLeDiff, Nat.reduceEqDiff, Nat.reduceBEq, Int.reduceToNat, Nat.reduceLT, Int.reduceEq, Int.reduceLT, Int.reduceLE, Int.reduceAdd, Int.reduceSub, Int.reduceMul, reduceCtorEq, Bool.not_false, Bool.not_true, Bool.true_beq, Bool.false_beq, beq_self_eq_true, h1, h2, h4]
          and_intros <;> try omega
          refine ⟨l.length + 1, by omega, by omega, Weak.mk [.inl 0] rfl rfl (Nat.le_refl _) rfl ?_ trivial⟩
          simp -dsimp only [WeakTm, WeakBx, CLe, CLeL, push_cast, ↓reduceIte, Nat.reduceAdd, Nat.reduceMul, Nat.reduceSub, Nat.reduceLeDiff, Nat.reduceEqDiff, Nat.reduceBEq, Int.reduceToNat, Nat.reduceLT, Int.reduceEq, Int.reduceLT, Int.reduceLE, Int.reduceAdd, Int.reduceSub, Int.reduceMul, reduceCtorEq, Bool.not_false, Bool.not_true, Bool.true_beq, Bool.false_beq, beq_self_eq_true]
          simp [he, ← hl, nfin, h4]
        · simp -dsimp only [push_cast, ↓reduceIte, Nat.reduceAdd, Nat.reduceMul, Nat.reduceSub, Nat.reduceLeDiff, Nat.reduceEqDiff, Nat.reduceBEq, Int.reduceToNat, Nat.reduceLT, Int.reduceEq, Int.reduceLT, Int.reduceLE, Int.reduceAdd, Int.reduceSub, Int.reduceMul, reduceCtorEq, Bool.not_false, Bool.not_true, Bool.true_beq, Bool.false_beq, beq_self_eq_true, h1, h2, h4]
          simp only [List.length_map, List.length_cons, List.length_nil]
          and_intros <;> try omega
          refine ⟨l.length + 1, by omega, by omega, Weak.mk [.inl 0] rfl rfl (Nat.le_refl _) rfl ?_ trivial⟩
          simp -dsimp only [WeakTm, WeakBx, CLe, CLeL, push_cast, ↓reduceIte, Nat.reduceAdd, Nat.reduceMul, Nat.reduceSub, Nat.reduceLeDiff, Nat.reduceEqDiff, Nat.reduceBEq, Int.reduceToNat, Nat.reduceLT, Int.reduceEq, Int.reduceLT, Int.reduceLE, Int.reduceAdd, Int.reduceSub, Int.reduceMul, reduceCtorEq, Bool.not_false, Bool.not_true, Bool.true_beq, Bool.false_beq, beq_self_eq_true]
          simp [he, ← hl, nfin, h4, strC]
    · obtain rfl : k = l.length + 1 := by omega
      have he := nst_end l
      simp -dsimp only [push_cast, ↓reduceIte, Nat.reduceAdd, Nat.reduceMul, Nat.reduceSub, Nat.reduceLeDiff, Nat.reduceEqDiff, Nat.reduceBEq, Int.reduceToNat, Nat.reduceLT, Int.reduceEq, Int.reduceLT, Int.reduceLE, Int.reduceAdd, Int.reduceSub, Int.reduceMul, reduceCtorEq, Bool.not_false, Bool.not_true, Bool.true_beq, Bool.false_beq, beq_self_eq_true, h1]
      exact ⟨[.inl 0], rfl, rfl, by simp -dsimp only [WeakTm, WeakBx, CLe, CLeL, push_cast, ↓reduceIte, Nat.reduceAdd, Nat.reduceMul, Nat.reduceSub, Nat.reduceLeDiff, Nat.reduceEqDiff, Nat.reduceBEq, Int.reduceToNat, Nat.reduceLT, Int.reduceEq, Int.reduceLT, Int.reduceLE, Int.reduceAdd, Int.reduceSub, Int.reduceMul, reduceCtorEq, Bool.not_false, Bool.not_true, Bool.true_beq, Bool.false_beq, beq_self_eq_true, he]⟩
end Go.Proofs.YtbkdmegjgakjpaaDoor.Vcg
