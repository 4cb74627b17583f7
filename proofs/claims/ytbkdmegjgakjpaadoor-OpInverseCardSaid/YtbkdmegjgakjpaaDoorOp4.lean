/- op.Slots, as what it answers. No condition but a bound that it states. -/
import Derived.Test.YtbkdmegjgakjpaaDoorOp3
set_option linter.unusedVariables false
set_option linter.unusedSimpArgs false
namespace Go.Proofs.YtbkdmegjgakjpaaDoor.Vcg
open Go.RowKit
def slotsV (l : List OpV) : List Int := (l.filter fun o => slotted o.kind).map (·.slot)
theorem slotsV_take (l : List OpV) (k : Nat) (h : k < l.length) : slotsV (l.take (k + 1)) = if slotted (l[k]'h).kind then slotsV (l.take k) ++ [(l[k]'h).slot] else slotsV (l.take k) := by
  unfold slotsV
  rw [List.take_add_one, List.getElem?_eq_getElem h, List.filter_append]
  cases hf : slotted (l[k]'h).kind <;> simp [hf]
theorem slotsV_len (l : List OpV) (k : Nat) : (slotsV (l.take k)).length ≤ k := by
  unfold slotsV
  rw [List.length_map]
  have := List.length_filter_le (fun o : OpV => slotted o.kind) (l.take k)
  have : (l.take k).length ≤ k := by rw [List.length_take]; omega
  omega
set_option maxRecDepth 100000 in
set_option maxHeartbeats 2000000 in
theorem slots_fun (l : List OpV) (hl : l.length ≤ 100000) : Fun Tryd.prog G1 19 [.sl 5 (opsC l)] (.own 0 3 1 (ints (slotsV l))) 1 := by
  refine Fun.of (fun _ => []) (by kernel_rfl) Tryd.func19 rfl rfl (Nat.le_of_ble_eq_true rfl) (by kernel_rfl) ?_; dsimp only [Tryd.f19, List.append_eq, List.cons_append, List.nil_append]
  simp -dsimp only [push_cast, ↓reduceIte, Nat.reduceAdd, Nat.reduceMul, Nat.reduceSub, Nat.reduceLeDiff, Nat.reduceEqDiff, Nat.reduceBEq, Int.reduceToNat, Nat.reduceLT, Int.reduceEq, Int.reduceLT, Int.reduceLE, Int.reduceAdd, Int.reduceSub, Int.reduceMul, reduceCtorEq, Bool.not_false, Bool.not_true, Bool.true_beq, Bool.false_beq, beq_self_eq_true]
  refine loop (fun k : Nat => ⟨[(0, .sl 5 (opsC l)), (3, .own 0 3 1 (ints (slotsV (l.take k)))), (6, .sl 5 (opsC l)), (7, .sc (.int .i64 (l.length : Int))), (8, .sc (.int .i64 k))], [], 1, 0⟩) (fun k => k ≤ l.length) (fun k => l.length - k) 0 (Nat.zero_le _) ?_ ?_
  · exact Weak.mk [.inr (3, 1)] rfl rfl (Nat.zero_le _) rfl (by simp -dsimp only [WeakTm, WeakBx, CLe, CLeL, push_cast, ↓reduceIte, Nat.reduceAdd, Nat.reduceMul, Nat.reduceSub, Nat.reduceLeDiff, Nat.reduceEqDiff, Nat.reduceBEq, Int.reduceToNat, Nat.reduceLT, Int.reduceEq, Int.reduceLT, Int.reduceLE, Int.reduceAdd, Int.reduceSub, Int.reduceMul, reduceCtorEq, Bool.not_false, Bool.not_true, Bool.true_beq, Bool.false_beq, beq_self_eq_true] <;> simp [slotsV]) (by simp -dsimp only [WeakTm, WeakBx, CLe, CLeL, push_cast, ↓reduceIte, Nat.reduceAdd, Nat.reduceMul, Nat.reduceSub, Nat.reduceLeDiff, Nat.reduceEqDiff, Nat.reduceBEq, Int.reduceToNat, Nat.reduceLT, Int.reduceEq, Int.reduceLT, Int.reduceLE, Int.reduceAdd, Int.reduceSub, Int.reduceMul, reduceCtorEq, Bool.not_false, Bool.not_true, Bool.true_beq, Bool.false_beq, beq_self_eq_true])
  · intro k hk
    by_cases h : k < l.length
    · have hg := opsC_at l k h
      have hst := slotsV_take l k h
      have hsl := slotsV_len l k
      cases ho : l[k]'h with
      | mk kd s a b d =>
        rw [ho] at hg hst
        simp only [opL] at hg
        simp only at hst
        have hnext : ∀ b, slotted kd = b → (if slotted kd = true then slotsV (l.take k) ++ [s] else slotsV (l.take k)) = (if b = true then slotsV (l.take k) ++ [s] else slotsV (l.take k)) := fun b hb => by rw [hb]
        by_cases h0 : 0 ≤ kd
        · by_cases h1 : kd ≤ 10
          · have hc : kd = 0 ∨ kd = 1 ∨ kd = 2 ∨ kd = 3 ∨ kd = 4 ∨ kd = 5 ∨ kd = 6 ∨ kd = 7 ∨ kd = 8 ∨ kd = 9 ∨ kd = 10 := by omega
            clear h0 h1
            rcases hc with rfl | rfl | rfl | rfl | rfl | rfl | rfl | rfl | rfl | rfl | rfl
            all_goals
              simp only [slotted] at hst
              simp at hst
              simp -dsimp only [push_cast, ↓reduceIte, Nat.reduceAdd, Nat.reduceMul, Nat.reduceSub, Nat.reduceLeDiff, Nat.reduceEqDiff, Nat.reduceBEq, Int.reduceToNat, Nat.reduceLT, Int.reduceEq, Int.reduceLT, Int.reduceLE, Int.reduceAdd, Int.reduceSub, Int.reduceMul, reduceCtorEq, Bool.not_false, Bool.not_true, Bool.true_beq, Bool.false_beq, beq_self_eq_true, h, hg]
              (try simp only [List.length_append, List.length_cons, List.length_nil, List.length_map, List.length_take]); repeat (refine And.intro (by omega) ?_)
              refine ⟨k + 1, by omega, by omega, Weak.mk [.inl 0] rfl rfl (Nat.zero_le _) rfl (by simp -dsimp only [WeakTm, WeakBx, CLe, CLeL, push_cast, ↓reduceIte, Nat.reduceAdd, Nat.reduceMul, Nat.reduceSub, Nat.reduceLeDiff, Nat.reduceEqDiff, Nat.reduceBEq, Int.reduceToNat, Nat.reduceLT, Int.reduceEq, Int.reduceLT, Int.reduceLE, Int.reduceAdd, Int.reduceSub, Int.reduceMul, reduceCtorEq, Bool.not_false, Bool.not_true, Bool.true_beq, Bool.false_beq, beq_self_eq_true, hst]) (by simp -dsimp only [WeakTm, WeakBx, CLe, CLeL, push_cast, ↓reduceIte, Nat.reduceAdd, Nat.reduceMul, Nat.reduceSub, Nat.reduceLeDiff, Nat.reduceEqDiff, Nat.reduceBEq, Int.reduceToNat, Nat.reduceLT, Int.reduceEq, Int.reduceLT, Int.reduceLE, Int.reduceAdd, Int.reduceSub, Int.reduceMul, reduceCtorEq, Bool.not_false, Bool.not_true, Bool.true_beq, Bool.false_beq, beq_self_eq_true])⟩
          · have hs : slotted kd = false := by
              have h3 : ¬ kd = 3 := by omega
              have h7 : ¬ kd = 7 := by omega
              have h9 : ¬ kd = 9 := by omega
              have h10 : ¬ kd = 10 := by omega
              simp [slotted, h3, h7, h9, h10]
            rw [hs, if_neg (by simp)] at hst
            simp -dsimp only [push_cast, ↓reduceIte, Nat.reduceAdd, Nat.reduceMul, Nat.reduceSub, Nat.reduceLeDiff, Nat.reduceEqDiff, Nat.reduceBEq, Int.reduceToNat, Nat.reduceLT, Int.reduceEq, Int.reduceLT, Int.reduceLE, Int.reduceAdd, Int.reduceSub, Int.reduceMul, reduceCtorEq, Bool.not_false, Bool.not_true, Bool.true_beq, Bool.false_beq, beq_self_eq_true, h, hg, h0, h1]
            (try simp only [List.length_append, List.length_cons, List.length_nil, List.length_map, List.length_take]); repeat (refine And.intro (by omega) ?_)
            refine ⟨k + 1, by omega, by omega, Weak.mk [.inl 0] rfl rfl (Nat.zero_le _) rfl (by simp -dsimp only [WeakTm, WeakBx, CLe, CLeL, push_cast, ↓reduceIte, Nat.reduceAdd, Nat.reduceMul, Nat.reduceSub, Nat.reduceLeDiff, Nat.reduceEqDiff, Nat.reduceBEq, Int.reduceToNat, Nat.reduceLT, Int.reduceEq, Int.reduceLT, Int.reduceLE, Int.reduceAdd, Int.reduceSub, Int.reduceMul, reduceCtorEq, Bool.not_false, Bool.not_true, Bool.true_beq, Bool.false_beq, beq_self_eq_true, hst]) (by simp -dsimp only [WeakTm, WeakBx, CLe, CLeL, push_cast, ↓reduceIte, Nat.reduceAdd, Nat.reduceMul, Nat.reduceSub, Nat.reduceLeDiff, Nat.reduceEqDiff, Nat.reduceBEq, Int.reduceToNat, Nat.reduceLT, Int.reduceEq, Int.reduceLT, Int.reduceLE, Int.reduceAdd, Int.reduceSub, Int.reduceMul, reduceCtorEq, Bool.not_false, Bool.not_true, Bool.true_beq, Bool.false_beq, beq_self_eq_true])⟩
        · have hs : slotted kd = false := by
            have h3 : ¬ kd = 3 := by omega
            have h7 : ¬ kd = 7 := by omega
            have h9 : ¬ kd = 9 := by omega
            have h10 : ¬ kd = 10 := by omega
            simp [slotted, h3, h7, h9, h10]
          rw [hs, if_neg (by simp)] at hst
          simp -dsimp only [push_cast, ↓reduceIte, Nat.reduceAdd, Nat.reduceMul, Nat.reduceSub, Nat.reduceLeDiff, Nat.reduceEqDiff, Nat.reduceBEq, Int.reduceToNat, Nat.reduceLT, Int.reduceEq, Int.reduceLT, Int.reduceLE, Int.reduceAdd, Int.reduceSub, Int.reduceMul, reduceCtorEq, Bool.not_false, Bool.not_true, Bool.true_beq, Bool.false_beq, beq_self_eq_true, h, hg, h0]
          (try simp only [List.length_append, List.length_cons, List.length_nil, List.length_map, List.length_take]); repeat (refine And.intro (by omega) ?_)
          refine ⟨k + 1, by omega, by omega, Weak.mk [.inl 0] rfl rfl (Nat.zero_le _) rfl (by simp -dsimp only [WeakTm, WeakBx, CLe, CLeL, push_cast, ↓reduceIte, Nat.reduceAdd, Nat.reduceMul, Nat.reduceSub, Nat.reduceLeDiff, Nat.reduceEqDiff, Nat.reduceBEq, Int.reduceToNat, Nat.reduceLT, Int.reduceEq, Int.reduceLT, Int.reduceLE, Int.reduceAdd, Int.reduceSub, Int.reduceMul, reduceCtorEq, Bool.not_false, Bool.not_true, Bool.true_beq, Bool.false_beq, beq_self_eq_true, hst]) (by simp -dsimp only [WeakTm, WeakBx, CLe, CLeL, push_cast, ↓reduceIte, Nat.reduceAdd, Nat.reduceMul, Nat.reduceSub, Nat.reduceLeDiff, Nat.reduceEqDiff, Nat.reduceBEq, Int.reduceToNat, Nat.reduceLT, Int.reduceEq, Int.reduceLT, Int.reduceLE, Int.reduceAdd, Int.reduceSub, Int.reduceMul, reduceCtorEq, Bool.not_false, Bool.not_true, Bool.true_beq, Bool.false_beq, beq_self_eq_true])⟩
    · obtain rfl : k = l.length := by omega
      rw [List.take_length]
      simp -dsimp only [push_cast, ↓reduceIte, Nat.reduceAdd, Nat.reduceMul, Nat.reduceSub, Nat.reduceLeDiff, Nat.reduceEqDiff, Nat.reduceBEq, Int.reduceToNat, Nat.reduceLT, Int.reduceEq, Int.reduceLT, Int.reduceLE, Int.reduceAdd, Int.reduceSub, Int.reduceMul, reduceCtorEq, Bool.not_false, Bool.not_true, Bool.true_beq, Bool.false_beq, beq_self_eq_true, h]
      exact ⟨[.inl 0], rfl, rfl, by simp -dsimp only [WeakTm, WeakBx, CLe, CLeL, push_cast, ↓reduceIte, Nat.reduceAdd, Nat.reduceMul, Nat.reduceSub, Nat.reduceLeDiff, Nat.reduceEqDiff, Nat.reduceBEq, Int.reduceToNat, Nat.reduceLT, Int.reduceEq, Int.reduceLT, Int.reduceLE, Int.reduceAdd, Int.reduceSub, Int.reduceMul, reduceCtorEq, Bool.not_false, Bool.not_true, Bool.true_beq, Bool.false_beq, beq_self_eq_true]⟩
end Go.Proofs.YtbkdmegjgakjpaaDoor.Vcg
