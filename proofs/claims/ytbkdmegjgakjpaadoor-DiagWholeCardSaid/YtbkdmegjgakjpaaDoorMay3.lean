/- path.May and path.Plain, as what they answer. No condition but bounds that each states. -/
import Derived.Test.YtbkdmegjgakjpaaDoorMay2
set_option linter.unusedVariables false
set_option linter.unusedSimpArgs false
namespace Go.Proofs.YtbkdmegjgakjpaaDoor.Vcg
open Go.RowKit Go.Shelf
theorem zero_ascii (w : World) : (zeroValue 83).run Tryd.prog w = .ok (.agg (Array.replicate 256 (.bool false))) w := by kernel_rfl
theorem indexAny_bad : ∀ l : List UInt8, decide (0 ≤ Lib.indexAny l [47, 0]) = l.any bad
  | [] => rfl
  | b :: l => by
    have ih := indexAny_bad l
    have hg := Lib.indexAny_ge [47, 0] l
    unfold Lib.indexAny
    rw [contains_bad, List.any_cons]
    cases hb : bad b with
    | true => simp
    | false =>
      simp only [Bool.false_eq_true, if_false, Bool.false_or, ← ih]
      split
      · rename_i h
        have := beq_iff_eq.1 h
        first | rw [this]; done | (rw [this]; rfl)
      · rename_i h
        have h' : Lib.indexAny l [47, 0] ≠ -1 := by simpa using h
        rw [decide_eq_decide]; omega
theorem indexAny_fun (l : List UInt8) (hl : l.length ≤ 1000000) : Fun Tryd.prog G0 101 [.str l, .str [47, 0]] (.sc (.int .i64 (Lib.indexAny l [47, 0]))) 0 := by
  refine Fun.wrap (by kernel_rfl) fun R vs h => ?_
  obtain ⟨v1, us1, rfl, h1, h⟩ := repL_cons.1 h
  obtain ⟨v2, us2, rfl, h2, h⟩ := repL_cons.1 h
  rw [repL_nil] at h
  subst h
  rw [rep_str] at h1 h2
  subst h1 h2
  have hsz : (ByteArray.mk l.toArray).size = l.length := by simp [ByteArray.size]
  by_cases h8 : l.length ≤ 8
  · refine (indexAny_short ⟨l.toArray⟩ R.w (by omega)).mono ?_
    rintro e w' ⟨rfl, hb⟩
    exact ⟨_, rfl, hb, fun R' _ => rep_sc.2 (by simp)⟩
  · refine (Tryd.strings_IndexAny_long zero_ascii ⟨l.toArray⟩ ⟨#[47, 0]⟩ R.w (by decide) (by omega) (by omega) (by decide) ?_).mono ?_
    · intro j b hb
      have : b = 47 ∨ b = 0 := by
        have := List.mem_of_getElem? hb
        simpa using this
      rcases this with rfl | rfl <;> decide
    · rintro e w' ⟨rfl, rfl⟩
      exact ⟨_, rfl, ((Below.refl _ _).alloc (Nat.le_refl _) _).alloc (by simp) _, fun R' _ => rep_sc.2 (by simp)⟩
theorem containsAny_fun (l : List UInt8) (hl : l.length ≤ 1000000) : Fun Tryd.prog G0 94 [.str l, .str [47, 0]] (boolC (l.any bad)) 0 := by
  have h := indexAny_bad l
  refine Fun.of (fun _ => []) (by kernel_rfl) Tryd.func94 rfl rfl (Nat.le_of_ble_eq_true rfl) (by kernel_rfl) ?_; dsimp only [Tryd.f94, List.append_eq, List.cons_append, List.nil_append]
  simp -dsimp only [push_cast, ↓reduceIte, Nat.reduceAdd, Nat.reduceMul, Nat.reduceSub, Nat.reduceLeDiff, Nat.reduceEqDiff, Nat.reduceBEq, Int.reduceToNat, Nat.reduceLT, Int.reduceEq, Int.reduceLT, Int.reduceLE, Int.reduceAdd, Int.reduceSub, Int.reduceMul, reduceCtorEq, Bool.not_false, Bool.not_true, Bool.true_beq, Bool.false_beq, beq_self_eq_true]
  refine call (indexAny_fun l hl) ?_
  simp -dsimp only [push_cast, ↓reduceIte, Nat.reduceAdd, Nat.reduceMul, Nat.reduceSub, Nat.reduceLeDiff, Nat.reduceEqDiff, Nat.reduceBEq, Int.reduceToNat, Nat.reduceLT, Int.reduceEq, Int.reduceLT, Int.reduceLE, Int.reduceAdd, Int.reduceSub, Int.reduceMul, reduceCtorEq, Bool.not_false, Bool.not_true, Bool.true_beq, Bool.false_beq, beq_self_eq_true]
  exact ⟨[], rfl, rfl, by simp -dsimp only [WeakTm, WeakBx, CLe, CLeL, push_cast, ↓reduceIte, Nat.reduceAdd, Nat.reduceMul, Nat.reduceSub, Nat.reduceLeDiff, Nat.reduceEqDiff, Nat.reduceBEq, Int.reduceToNat, Nat.reduceLT, Int.reduceEq, Int.reduceLT, Int.reduceLE, Int.reduceAdd, Int.reduceSub, Int.reduceMul, reduceCtorEq, Bool.not_false, Bool.not_true, Bool.true_beq, Bool.false_beq, beq_self_eq_true, h]⟩
/-- may it be a name? -/
def may (l : List UInt8) : Bool := !decide (l = []) && decide (l.length ≤ 255) && !l.any bad && !decide (l = [46]) && !decide (l = [46, 46])
set_option maxHeartbeats 1000000 in
theorem may_fun (l : List UInt8) (hl : l.length ≤ 1000000) : Fun Tryd.prog G0 79 [.str l] (boolC (may l)) 0 := by
  by_cases h1 : l = []
  · refine Fun.of (fun _ => []) (by kernel_rfl) Tryd.func79 rfl rfl (Nat.le_of_ble_eq_true rfl) (by kernel_rfl) ?_; dsimp only [Tryd.f79, List.append_eq, List.cons_append, List.nil_append]
    simp -dsimp only [push_cast, ↓reduceIte, Nat.reduceAdd, Nat.reduceMul, Nat.reduceSub, Nat.reduceLeDiff, Nat.reduceEqDiff, Nat.reduceBEq, Int.reduceToNat, Nat.reduceLT, Int.reduceEq, Int.reduceLT, Int.reduceLE, Int.reduceAdd, Int.reduceSub, Int.reduceMul, reduceCtorEq, Bool.not_false, Bool.not_true, Bool.true_beq, Bool.false_beq, beq_self_eq_true, h1]
    exact ⟨[], rfl, rfl, by simp -dsimp only [WeakTm, WeakBx, CLe, CLeL, push_cast, ↓reduceIte, Nat.reduceAdd, Nat.reduceMul, Nat.reduceSub, Nat.reduceLeDiff, Nat.reduceEqDiff, Nat.reduceBEq, Int.reduceToNat, Nat.reduceLT, Int.reduceEq, Int.reduceLT, Int.reduceLE, Int.reduceAdd, Int.reduceSub, Int.reduceMul, reduceCtorEq, Bool.not_false, Bool.not_true, Bool.true_beq, Bool.false_beq, beq_self_eq_true]; simp [may]⟩
  · by_cases h2 : l.length ≤ 255
    · have h2' : (l.length : Int) ≤ 255 := by omega
      cases h3 : l.any bad with
      | true =>
        refine Fun.of (fun _ => []) (by kernel_rfl) Tryd.func79 rfl rfl (Nat.le_of_ble_eq_true rfl) (by kernel_rfl) ?_; dsimp only [Tryd.f79, List.append_eq, List.cons_append, List.nil_append]
        simp -dsimp only [push_cast, ↓reduceIte, Nat.reduceAdd, Nat.reduceMul, Nat.reduceSub, Nat.reduceLeDiff, Nat.reduceEqDiff, Nat.reduceBEq, Int.reduceToNat, Nat.reduceLT, Int.reduceEq, Int.reduceLT, Int.reduceLE, Int.reduceAdd, Int.reduceSub, Int.reduceMul, reduceCtorEq, Bool.not_false, Bool.not_true, Bool.true_beq, Bool.false_beq, beq_self_eq_true, h1, h2']
        refine call (containsAny_fun l hl) ?_
        simp -dsimp only [push_cast, ↓reduceIte, Nat.reduceAdd, Nat.reduceMul, Nat.reduceSub, Nat.reduceLeDiff, Nat.reduceEqDiff, Nat.reduceBEq, Int.reduceToNat, Nat.reduceLT, Int.reduceEq, Int.reduceLT, Int.reduceLE, Int.reduceAdd, Int.reduceSub, Int.reduceMul, reduceCtorEq, Bool.not_false, Bool.not_true, Bool.true_beq, Bool.false_beq, beq_self_eq_true, h3]
        exact ⟨[], rfl, rfl, by simp -dsimp only [WeakTm, WeakBx, CLe, CLeL, push_cast, ↓reduceIte, Nat.reduceAdd, Nat.reduceMul, Nat.reduceSub, Nat.reduceLeDiff, Nat.reduceEqDiff, Nat.reduceBEq, Int.reduceToNat, Nat.reduceLT, Int.reduceEq, Int.reduceLT, Int.reduceLE, Int.reduceAdd, Int.reduceSub, Int.reduceMul, reduceCtorEq, Bool.not_false, Bool.not_true, Bool.true_beq, Bool.false_beq, beq_self_eq_true]; simp [may, h3]⟩
      | false =>
        by_cases h4 : l = [46]
        · subst h4
          refine Fun.of (fun _ => []) (by kernel_rfl) Tryd.func79 rfl rfl (Nat.le_of_ble_eq_true rfl) (by kernel_rfl) ?_; dsimp only [Tryd.f79, List.append_eq, List.cons_append, List.nil_append]
          simp -dsimp only [push_cast, ↓reduceIte, Nat.reduceAdd, Nat.reduceMul, Nat.reduceSub, Nat.reduceLeDiff, Nat.reduceEqDiff, Nat.reduceBEq, Int.reduceToNat, Nat.reduceLT, Int.reduceEq, Int.reduceLT, Int.reduceLE, Int.reduceAdd, Int.reduceSub, Int.reduceMul, reduceCtorEq, Bool.not_false, Bool.not_true, Bool.true_beq, Bool.false_beq, beq_self_eq_true, h2']
          refine call (containsAny_fun _ hl) ?_
          simp -dsimp only [push_cast, ↓reduceIte, Nat.reduceAdd, Nat.reduceMul, Nat.reduceSub, Nat.reduceLeDiff, Nat.reduceEqDiff, Nat.reduceBEq, Int.reduceToNat, Nat.reduceLT, Int.reduceEq, Int.reduceLT, Int.reduceLE, Int.reduceAdd, Int.reduceSub, Int.reduceMul, reduceCtorEq, Bool.not_false, Bool.not_true, Bool.true_beq, Bool.false_beq, beq_self_eq_true, h3]
          exact ⟨[], rfl, rfl, by simp -dsimp only [WeakTm, WeakBx, CLe, CLeL, push_cast, ↓reduceIte, Nat.reduceAdd, Nat.reduceMul, Nat.reduceSub, Nat.reduceLeDiff, Nat.reduceEqDiff, Nat.reduceBEq, Int.reduceToNat, Nat.reduceLT, Int.reduceEq, Int.reduceLT, Int.reduceLE, Int.reduceAdd, Int.reduceSub, Int.reduceMul, reduceCtorEq, Bool.not_false, Bool.not_true, Bool.true_beq, Bool.false_beq, beq_self_eq_true]; simp [may]⟩
        · refine Fun.of (fun _ => []) (by kernel_rfl) Tryd.func79 rfl rfl (Nat.le_of_ble_eq_true rfl) (by kernel_rfl) ?_; dsimp only [Tryd.f79, List.append_eq, List.cons_append, List.nil_append]
          simp -dsimp only [push_cast, ↓reduceIte, Nat.reduceAdd, Nat.reduceMul, Nat.reduceSub, Nat.reduceLeDiff, Nat.reduceEqDiff, Nat.reduceBEq, Int.reduceToNat, Nat.reduceLT, Int.reduceEq, Int.reduceLT, Int.reduceLE, Int.reduceAdd, Int.reduceSub, Int.reduceMul, reduceCtorEq, Bool.not_false, Bool.not_true, Bool.true_beq, Bool.false_beq, beq_self_eq_true, h1, h2']
          refine call (containsAny_fun l hl) ?_
          simp -dsimp only [push_cast, ↓reduceIte, Nat.reduceAdd, Nat.reduceMul, Nat.reduceSub, Nat.reduceLeDiff, Nat.reduceEqDiff, Nat.reduceBEq, Int.reduceToNat, Nat.reduceLT, Int.reduceEq, Int.reduceLT, Int.reduceLE, Int.reduceAdd, Int.reduceSub, Int.reduceMul, reduceCtorEq, Bool.not_false, Bool.not_true, Bool.true_beq, Bool.false_beq, beq_self_eq_true, h3, h4]
          exact ⟨[], rfl, rfl, by simp -dsimp only [WeakTm, WeakBx, CLe, CLeL, push_cast, ↓reduceIte, Nat.reduceAdd, Nat.reduceMul, Nat.reduceSub, Nat.reduceLeDiff, Nat.reduceEqDiff, Nat.reduceBEq, Int.reduceToNat, Nat.reduceLT, Int.reduceEq, Int.reduceLT, Int.reduceLE, Int.reduceAdd, Int.reduceSub, Int.reduceMul, reduceCtorEq, Bool.not_false, Bool.not_true, Bool.true_beq, Bool.false_beq, beq_self_eq_true]; simp [may, h1, h2, h3, h4]⟩
    · have h2' : ¬ (l.length : Int) ≤ 255 := by omega
      refine Fun.of (fun _ => []) (by kernel_rfl) Tryd.func79 rfl rfl (Nat.le_of_ble_eq_true rfl) (by kernel_rfl) ?_; dsimp only [Tryd.f79, List.append_eq, List.cons_append, List.nil_append]
      simp -dsimp only [push_cast, ↓reduceIte, Nat.reduceAdd, Nat.reduceMul, Nat.reduceSub, Nat.reduceLeDiff, Nat.reduceEqDiff, Nat.reduceBEq, Int.reduceToNat, Nat.reduceLT, Int.reduceEq, Int.reduceLT, Int.reduceLE, Int.reduceAdd, Int.reduceSub, Int.reduceMul, reduceCtorEq, Bool.not_false, Bool.not_true, Bool.true_beq, Bool.false_beq, beq_self_eq_true, h1, h2']
      exact ⟨[], rfl, rfl, by simp -dsimp only [WeakTm, WeakBx, CLe, CLeL, push_cast, ↓reduceIte, Nat.reduceAdd, Nat.reduceMul, Nat.reduceSub, Nat.reduceLeDiff, Nat.reduceEqDiff, Nat.reduceBEq, Int.reduceToNat, Nat.reduceLT, Int.reduceEq, Int.reduceLT, Int.reduceLE, Int.reduceAdd, Int.reduceSub, Int.reduceMul, reduceCtorEq, Bool.not_false, Bool.not_true, Bool.true_beq, Bool.false_beq, beq_self_eq_true]; simp [may, h2]⟩
theorem notMay_fun (l : List UInt8) (hl : l.length ≤ 1000000) : Fun Tryd.prog G0 78 [.str l] (boolC (!may l)) 0 := by
  refine Fun.of (fun _ => []) (by kernel_rfl) Tryd.func78 rfl rfl (Nat.le_of_ble_eq_true rfl) (by kernel_rfl) ?_; dsimp only [Tryd.f78, List.append_eq, List.cons_append, List.nil_append]
  simp -dsimp only [push_cast, ↓reduceIte, Nat.reduceAdd, Nat.reduceMul, Nat.reduceSub, Nat.reduceLeDiff, Nat.reduceEqDiff, Nat.reduceBEq, Int.reduceToNat, Nat.reduceLT, Int.reduceEq, Int.reduceLT, Int.reduceLE, Int.reduceAdd, Int.reduceSub, Int.reduceMul, reduceCtorEq, Bool.not_false, Bool.not_true, Bool.true_beq, Bool.false_beq, beq_self_eq_true]
  refine call (may_fun l hl) ?_
  simp -dsimp only [push_cast, ↓reduceIte, Nat.reduceAdd, Nat.reduceMul, Nat.reduceSub, Nat.reduceLeDiff, Nat.reduceEqDiff, Nat.reduceBEq, Int.reduceToNat, Nat.reduceLT, Int.reduceEq, Int.reduceLT, Int.reduceLE, Int.reduceAdd, Int.reduceSub, Int.reduceMul, reduceCtorEq, Bool.not_false, Bool.not_true, Bool.true_beq, Bool.false_beq, beq_self_eq_true]
  exact ⟨[], rfl, rfl, by simp -dsimp only [WeakTm, WeakBx, CLe, CLeL, push_cast, ↓reduceIte, Nat.reduceAdd, Nat.reduceMul, Nat.reduceSub, Nat.reduceLeDiff, Nat.reduceEqDiff, Nat.reduceBEq, Int.reduceToNat, Nat.reduceLT, Int.reduceEq, Int.reduceLT, Int.reduceLE, Int.reduceAdd, Int.reduceSub, Int.reduceMul, reduceCtorEq, Bool.not_false, Bool.not_true, Bool.true_beq, Bool.false_beq, beq_self_eq_true]⟩
end Go.Proofs.YtbkdmegjgakjpaaDoor.Vcg
