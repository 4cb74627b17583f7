/- op.Plan and op.Undo, as what they answer. No condition but bounds that each states. -/
import Derived.Test.YtbkdmegjgakjpaaDoorOp4
set_option linter.unusedVariables false
set_option linter.unusedSimpArgs false
namespace Go.Proofs.YtbkdmegjgakjpaaDoor.Vcg
open Go.RowKit
def planBad (o : OpV) : Bool := !mayB o || decide (7 < o.kind)
def undoBad (o : OpV) : Bool := !mayB o || (decide (o.kind < 8) && !decide (o.kind = 6))
set_option maxRecDepth 100000 in
set_option maxHeartbeats 1000000 in
theorem planBad_fun (o : OpV) (hs : short o) : Fun Tryd.prog G1 44 [.agg (opL o)] (boolC (planBad o)) 0 := by
  have h1 := opMay_fun o.kind o.slot o.a o.b o.d hs
  obtain ⟨k, s, a, b, d⟩ := o
  simp only [opL] at h1 ⊢
  cases hm : mayB ⟨k, s, a, b, d⟩ with
  | true =>
    rw [hm] at h1
    refine Fun.of (fun _ => []) (by kernel_rfl) Tryd.func44 rfl rfl (Nat.le_of_ble_eq_true rfl) (by kernel_rfl) ?_; dsimp only [Tryd.f44, List.append_eq, List.cons_append, List.nil_append]
    simp -dsimp only [push_cast, ↓reduceIte, Nat.reduceAdd, Nat.reduceMul, Nat.reduceSub, Nat.reduceLeDiff, Nat.reduceEqDiff, Nat.reduceBEq, Int.reduceToNat, Nat.reduceLT, Int.reduceEq, Int.reduceLT, Int.reduceLE, Int.reduceAdd, Int.reduceSub, Int.reduceMul, reduceCtorEq, Bool.not_false, Bool.not_true, Bool.true_beq, Bool.false_beq, beq_self_eq_true, Bool.true_and]
    (first | refine call (h1) ?_ | refine callP (h1) ?_); simp -dsimp only [push_cast, ↓reduceIte, Nat.reduceAdd, Nat.reduceMul, Nat.reduceSub, Nat.reduceLeDiff, Nat.reduceEqDiff, Nat.reduceBEq, Int.reduceToNat, Nat.reduceLT, Int.reduceEq, Int.reduceLT, Int.reduceLE, Int.reduceAdd, Int.reduceSub, Int.reduceMul, reduceCtorEq, Bool.not_false, Bool.not_true, Bool.true_beq, Bool.false_beq, beq_self_eq_true, Bool.true_and]
    exact ⟨[], rfl, rfl, by simp -dsimp only [WeakTm, WeakBx, CLe, CLeL, push_cast, ↓reduceIte, Nat.reduceAdd, Nat.reduceMul, Nat.reduceSub, Nat.reduceLeDiff, Nat.reduceEqDiff, Nat.reduceBEq, Int.reduceToNat, Nat.reduceLT, Int.reduceEq, Int.reduceLT, Int.reduceLE, Int.reduceAdd, Int.reduceSub, Int.reduceMul, reduceCtorEq, Bool.not_false, Bool.not_true, Bool.true_beq, Bool.false_beq, beq_self_eq_true, Bool.true_and]; simp [planBad, hm]⟩
  | false =>
    rw [hm] at h1
    refine Fun.of (fun _ => []) (by kernel_rfl) Tryd.func44 rfl rfl (Nat.le_of_ble_eq_true rfl) (by kernel_rfl) ?_; dsimp only [Tryd.f44, List.append_eq, List.cons_append, List.nil_append]
    simp -dsimp only [push_cast, ↓reduceIte, Nat.reduceAdd, Nat.reduceMul, Nat.reduceSub, Nat.reduceLeDiff, Nat.reduceEqDiff, Nat.reduceBEq, Int.reduceToNat, Nat.reduceLT, Int.reduceEq, Int.reduceLT, Int.reduceLE, Int.reduceAdd, Int.reduceSub, Int.reduceMul, reduceCtorEq, Bool.not_false, Bool.not_true, Bool.true_beq, Bool.false_beq, beq_self_eq_true, Bool.true_and]
    (first | refine call (h1) ?_ | refine callP (h1) ?_); simp -dsimp only [push_cast, ↓reduceIte, Nat.reduceAdd, Nat.reduceMul, Nat.reduceSub, Nat.reduceLeDiff, Nat.reduceEqDiff, Nat.reduceBEq, Int.reduceToNat, Nat.reduceLT, Int.reduceEq, Int.reduceLT, Int.reduceLE, Int.reduceAdd, Int.reduceSub, Int.reduceMul, reduceCtorEq, Bool.not_false, Bool.not_true, Bool.true_beq, Bool.false_beq, beq_self_eq_true, Bool.true_and]
    exact ⟨[], rfl, rfl, by simp -dsimp only [WeakTm, WeakBx, CLe, CLeL, push_cast, ↓reduceIte, Nat.reduceAdd, Nat.reduceMul, Nat.reduceSub, Nat.reduceLeDiff, Nat.reduceEqDiff, Nat.reduceBEq, Int.reduceToNat, Nat.reduceLT, Int.reduceEq, Int.reduceLT, Int.reduceLE, Int.reduceAdd, Int.reduceSub, Int.reduceMul, reduceCtorEq, Bool.not_false, Bool.not_true, Bool.true_beq, Bool.false_beq, beq_self_eq_true, Bool.true_and]; simp [planBad, hm]⟩
set_option maxRecDepth 100000 in
set_option maxHeartbeats 1000000 in
theorem undoBad_fun (o : OpV) (hs : short o) : Fun Tryd.prog G1 46 [.agg (opL o)] (boolC (undoBad o)) 0 := by
  have h1 := opMay_fun o.kind o.slot o.a o.b o.d hs
  obtain ⟨k, s, a, b, d⟩ := o
  simp only [opL] at h1 ⊢
  cases hm : mayB ⟨k, s, a, b, d⟩ with
  | true =>
    rw [hm] at h1
    by_cases hk : k < 8
    · refine Fun.of (fun _ => []) (by kernel_rfl) Tryd.func46 rfl rfl (Nat.le_of_ble_eq_true rfl) (by kernel_rfl) ?_; dsimp only [Tryd.f46, List.append_eq, List.cons_append, List.nil_append]
      simp -dsimp only [push_cast, ↓reduceIte, Nat.reduceAdd, Nat.reduceMul, Nat.reduceSub, Nat.reduceLeDiff, Nat.reduceEqDiff, Nat.reduceBEq, Int.reduceToNat, Nat.reduceLT, Int.reduceEq, Int.reduceLT, Int.reduceLE, Int.reduceAdd, Int.reduceSub, Int.reduceMul, reduceCtorEq, Bool.not_false, Bool.not_true, Bool.true_beq, Bool.false_beq, beq_self_eq_true, Bool.true_and]
      (first | refine call (h1) ?_ | refine callP (h1) ?_); simp -dsimp only [push_cast, ↓reduceIte, Nat.reduceAdd, Nat.reduceMul, Nat.reduceSub, Nat.reduceLeDiff, Nat.reduceEqDiff, Nat.reduceBEq, Int.reduceToNat, Nat.reduceLT, Int.reduceEq, Int.reduceLT, Int.reduceLE, Int.reduceAdd, Int.reduceSub, Int.reduceMul, reduceCtorEq, Bool.not_false, Bool.not_true, Bool.true_beq, Bool.false_beq, beq_self_eq_true, Bool.true_and, hk]
      exact ⟨[], rfl, rfl, by simp -dsimp only [WeakTm, WeakBx, CLe, CLeL, push_cast, ↓reduceIte, Nat.reduceAdd, Nat.reduceMul, Nat.reduceSub, Nat.reduceLeDiff, Nat.reduceEqDiff, Nat.reduceBEq, Int.reduceToNat, Nat.reduceLT, Int.reduceEq, Int.reduceLT, Int.reduceLE, Int.reduceAdd, Int.reduceSub, Int.reduceMul, reduceCtorEq, Bool.not_false, Bool.not_true, Bool.true_beq, Bool.false_beq, beq_self_eq_true, Bool.true_and]; simp [undoBad, hm, hk]⟩
    · refine Fun.of (fun _ => []) (by kernel_rfl) Tryd.func46 rfl rfl (Nat.le_of_ble_eq_true rfl) (by kernel_rfl) ?_; dsimp only [Tryd.f46, List.append_eq, List.cons_append, List.nil_append]
      simp -dsimp only [push_cast, ↓reduceIte, Nat.reduceAdd, Nat.reduceMul, Nat.reduceSub, Nat.reduceLeDiff, Nat.reduceEqDiff, Nat.reduceBEq, Int.reduceToNat, Nat.reduceLT, Int.reduceEq, Int.reduceLT, Int.reduceLE, Int.reduceAdd, Int.reduceSub, Int.reduceMul, reduceCtorEq, Bool.not_false, Bool.not_true, Bool.true_beq, Bool.false_beq, beq_self_eq_true, Bool.true_and]
      (first | refine call (h1) ?_ | refine callP (h1) ?_); simp -dsimp only [push_cast, ↓reduceIte, Nat.reduceAdd, Nat.reduceMul, Nat.reduceSub, Nat.reduceLeDiff, Nat.reduceEqDiff, Nat.reduceBEq, Int.reduceToNat, Nat.reduceLT, Int.reduceEq, Int.reduceLT, Int.reduceLE, Int.reduceAdd, Int.reduceSub, Int.reduceMul, reduceCtorEq, Bool.not_false, Bool.not_true, Bool.true_beq, Bool.false_beq, beq_self_eq_true, Bool.true_and, hk]
      exact ⟨[], rfl, rfl, by simp -dsimp only [WeakTm, WeakBx, CLe, CLeL, push_cast, ↓reduceIte, Nat.reduceAdd, Nat.reduceMul, Nat.reduceSub, Nat.reduceLeDiff, Nat.reduceEqDiff, Nat.reduceBEq, Int.reduceToNat, Nat.reduceLT, Int.reduceEq, Int.reduceLT, Int.reduceLE, Int.reduceAdd, Int.reduceSub, Int.reduceMul, reduceCtorEq, Bool.not_false, Bool.not_true, Bool.true_beq, Bool.false_beq, beq_self_eq_true, Bool.true_and]; simp [undoBad, hm, hk]⟩
  | false =>
    rw [hm] at h1
    refine Fun.of (fun _ => []) (by kernel_rfl) Tryd.func46 rfl rfl (Nat.le_of_ble_eq_true rfl) (by kernel_rfl) ?_; dsimp only [Tryd.f46, List.append_eq, List.cons_append, List.nil_append]
    simp -dsimp only [push_cast, ↓reduceIte, Nat.reduceAdd, Nat.reduceMul, Nat.reduceSub, Nat.reduceLeDiff, Nat.reduceEqDiff, Nat.reduceBEq, Int.reduceToNat, Nat.reduceLT, Int.reduceEq, Int.reduceLT, Int.reduceLE, Int.reduceAdd, Int.reduceSub, Int.reduceMul, reduceCtorEq, Bool.not_false, Bool.not_true, Bool.true_beq, Bool.false_beq, beq_self_eq_true, Bool.true_and]
    (first | refine call (h1) ?_ | refine callP (h1) ?_); simp -dsimp only [push_cast, ↓reduceIte, Nat.reduceAdd, Nat.reduceMul, Nat.reduceSub, Nat.reduceLeDiff, Nat.reduceEqDiff, Nat.reduceBEq, Int.reduceToNat, Nat.reduceLT, Int.reduceEq, Int.reduceLT, Int.reduceLE, Int.reduceAdd, Int.reduceSub, Int.reduceMul, reduceCtorEq, Bool.not_false, Bool.not_true, Bool.true_beq, Bool.false_beq, beq_self_eq_true, Bool.true_and]
    exact ⟨[], rfl, rfl, by simp -dsimp only [WeakTm, WeakBx, CLe, CLeL, push_cast, ↓reduceIte, Nat.reduceAdd, Nat.reduceMul, Nat.reduceSub, Nat.reduceLeDiff, Nat.reduceEqDiff, Nat.reduceBEq, Int.reduceToNat, Nat.reduceLT, Int.reduceEq, Int.reduceLT, Int.reduceLE, Int.reduceAdd, Int.reduceSub, Int.reduceMul, reduceCtorEq, Bool.not_false, Bool.not_true, Bool.true_beq, Bool.false_beq, beq_self_eq_true, Bool.true_and]; simp [undoBad, hm]⟩
def ixOp (bad : OpV → Bool) (xs : List OpV) : Int := match xs.findIdx? bad with | some i => (i : Int) | none => -1
theorem ixOp_ge (bad : OpV → Bool) (xs : List OpV) : decide (0 ≤ ixOp bad xs) = xs.any bad := by
  unfold ixOp
  cases h : xs.findIdx? bad with
  | none =>
    have := List.findIdx?_eq_none_iff.1 h
    have h2 : xs.any bad = false := List.any_eq_false.2 fun x hx => by simpa using this x hx
    rw [h2]; rfl
  | some i =>
    have h1 := List.findIdx?_eq_some_iff_getElem.1 h
    obtain ⟨hi, hp, _⟩ := h1
    have h2 : xs.any bad = true := List.any_eq_true.2 ⟨xs[i], List.getElem_mem hi, hp⟩
    rw [h2]; simp
def shortL (l : List OpV) : Prop := ∀ o ∈ l, short o
set_option maxRecDepth 100000 in
set_option maxHeartbeats 1000000 in
theorem indexOp_fun (bad : OpV → Bool) (f : FuncId) (hb : ∀ o, short o → Fun Tryd.prog G1 f [.agg (opL o)] (boolC (bad o)) 0) (xs : List OpV) (hx : xs.length ≤ 1000001) (hl : shortL xs) : Fun Tryd.prog G1 61 [.sl 5 (opsC xs), .clo (.func f) [] []] (.sc (.int .i64 (ixOp bad xs))) 0 := by
  refine Fun.of (fun _ => []) (by kernel_rfl) Tryd.func61 rfl rfl (Nat.le_of_ble_eq_true rfl) (by kernel_rfl) ?_; dsimp only [Tryd.f61, List.append_eq, List.cons_append, List.nil_append]
  simp -dsimp only [push_cast, ↓reduceIte, Nat.reduceAdd, Nat.reduceMul, Nat.reduceSub, Nat.reduceLeDiff, Nat.reduceEqDiff, Nat.reduceBEq, Int.reduceToNat, Nat.reduceLT, Int.reduceEq, Int.reduceLT, Int.reduceLE, Int.reduceAdd, Int.reduceSub, Int.reduceMul, reduceCtorEq, Bool.not_false, Bool.not_true, Bool.true_beq, Bool.false_beq, beq_self_eq_true, Bool.true_and]
  refine loop (fun k : Nat => ⟨[(0, .sl 5 (opsC xs)), (1, .clo (.func f) [] []), (7, .sc (.int .i64 (xs.length : Int))), (8, .sc (.int .i64 k))], [], 0, 0⟩) (fun k => k ≤ xs.length ∧ ∀ j (hj : j < xs.length), j < k → bad (xs[j]'hj) = false) (fun k => xs.length - k) 0 ⟨Nat.zero_le _, fun j _ hj => by omega⟩ ?_ ?_
  · exact Weak.mk [] rfl rfl (Nat.le_refl _) rfl (by simp -dsimp only [WeakTm, WeakBx, CLe, CLeL, push_cast, ↓reduceIte, Nat.reduceAdd, Nat.reduceMul, Nat.reduceSub, Nat.reduceLeDiff, Nat.reduceEqDiff, Nat.reduceBEq, Int.reduceToNat, Nat.reduceLT, Int.reduceEq, Int.reduceLT, Int.reduceLE, Int.reduceAdd, Int.reduceSub, Int.reduceMul, reduceCtorEq, Bool.not_false, Bool.not_true, Bool.true_beq, Bool.false_beq, beq_self_eq_true, Bool.true_and]) (by simp -dsimp only [WeakTm, WeakBx, CLe, CLeL, push_cast, ↓reduceIte, Nat.reduceAdd, Nat.reduceMul, Nat.reduceSub, Nat.reduceLeDiff, Nat.reduceEqDiff, Nat.reduceBEq, Int.reduceToNat, Nat.reduceLT, Int.reduceEq, Int.reduceLT, Int.reduceLE, Int.reduceAdd, Int.reduceSub, Int.reduceMul, reduceCtorEq, Bool.not_false, Bool.not_true, Bool.true_beq, Bool.false_beq, beq_self_eq_true, Bool.true_and])
  · intro k hk
    have hk1 := hk.1
    have hk2 := hk.2
    by_cases h : k < xs.length
    · have hg := opsC_at xs k h
      have hbk := hb (xs[k]'h) (hl _ (List.getElem_mem h))
      generalize hr : opL (xs[k]'h) = row at hg hbk
      have hrow : ∃ a b c d e, row = [.sc (.int .i64 a), .sc (.int .i64 b), .str c, .str d, .str e] := ⟨_, _, _, _, _, hr.symm⟩
      obtain ⟨a, b, c, d, e, rfl⟩ := hrow
      cases hm : bad (xs[k]'h) with
      | false =>
        rw [hm] at hbk
        simp -dsimp only [push_cast, ↓reduceIte, Nat.reduceAdd, Nat.reduceMul, Nat.reduceSub, Nat.reduceLeDiff, Nat.reduceEqDiff, Nat.reduceBEq, Int.reduceToNat, Nat.reduceLT, Int.reduceEq, Int.reduceLT, Int.reduceLE, Int.reduceAdd, Int.reduceSub, Int.reduceMul, reduceCtorEq, Bool.not_false, Bool.not_true, Bool.true_beq, Bool.false_beq, beq_self_eq_true, Bool.true_and, h, hg]
        refine ⟨by omega, ?_⟩
        (first | refine call (hbk) ?_ | refine callP (hbk) ?_); simp -dsimp only [push_cast, ↓reduceIte, Nat.reduceAdd, Nat.reduceMul, Nat.reduceSub, Nat.reduceLeDiff, Nat.reduceEqDiff, Nat.reduceBEq, Int.reduceToNat, Nat.reduceLT, Int.reduceEq, Int.reduceLT, Int.reduceLE, Int.reduceAdd, Int.reduceSub, Int.reduceMul, reduceCtorEq, Bool.not_false, Bool.not_true, Bool.true_beq, Bool.false_beq, beq_self_eq_true, Bool.true_and]
        refine ⟨by omega, k + 1, ⟨by omega, fun j hj hjk => ?_⟩, by omega, Weak.mk [] rfl rfl (Nat.le_refl _) rfl (by simp -dsimp only [WeakTm, WeakBx, CLe, CLeL, push_cast, ↓reduceIte, Nat.reduceAdd, Nat.reduceMul, Nat.reduceSub, Nat.reduceLeDiff, Nat.reduceEqDiff, Nat.reduceBEq, Int.reduceToNat, Nat.reduceLT, Int.reduceEq, Int.reduceLT, Int.reduceLE, Int.reduceAdd, Int.reduceSub, Int.reduceMul, reduceCtorEq, Bool.not_false, Bool.not_true, Bool.true_beq, Bool.false_beq, beq_self_eq_true, Bool.true_and]) (by simp -dsimp only [WeakTm, WeakBx, CLe, CLeL, push_cast, ↓reduceIte, Nat.reduceAdd, Nat.reduceMul, Nat.reduceSub, Nat.reduceLeDiff, Nat.reduceEqDiff, Nat.reduceBEq, Int.reduceToNat, Nat.reduceLT, Int.reduceEq, Int.reduceLT, Int.reduceLE, Int.reduceAdd, Int.reduceSub, Int.reduceMul, reduceCtorEq, Bool.not_false, Bool.not_true, Bool.true_beq, Bool.false_beq, beq_self_eq_true, Bool.true_and])⟩
        rcases Nat.lt_or_ge j k with g | g
        · exact hk2 j hj g
        · have : j = k := by omega
          subst this; exact hm
      | true =>
        rw [hm] at hbk
        simp -dsimp only [push_cast, ↓reduceIte, Nat.reduceAdd, Nat.reduceMul, Nat.reduceSub, Nat.reduceLeDiff, Nat.reduceEqDiff, Nat.reduceBEq, Int.reduceToNat, Nat.reduceLT, Int.reduceEq, Int.reduceLT, Int.reduceLE, Int.reduceAdd, Int.reduceSub, Int.reduceMul, reduceCtorEq, Bool.not_false, Bool.not_true, Bool.true_beq, Bool.false_beq, beq_self_eq_true, Bool.true_and, h, hg]
        refine ⟨by omega, ?_⟩
        (first | refine call (hbk) ?_ | refine callP (hbk) ?_); simp -dsimp only [push_cast, ↓reduceIte, Nat.reduceAdd, Nat.reduceMul, Nat.reduceSub, Nat.reduceLeDiff, Nat.reduceEqDiff, Nat.reduceBEq, Int.reduceToNat, Nat.reduceLT, Int.reduceEq, Int.reduceLT, Int.reduceLE, Int.reduceAdd, Int.reduceSub, Int.reduceMul, reduceCtorEq, Bool.not_false, Bool.not_true, Bool.true_beq, Bool.false_beq, beq_self_eq_true, Bool.true_and]
        refine ⟨[], rfl, rfl, ?_⟩
        simp -dsimp only [WeakTm, WeakBx, CLe, CLeL, push_cast, ↓reduceIte, Nat.reduceAdd, Nat.reduceMul, Nat.reduceSub, Nat.reduceLeDiff, Nat.reduceEqDiff, Nat.reduceBEq, Int.reduceToNat, Nat.reduceLT, Int.reduceEq, Int.reduceLT, Int.reduceLE, Int.reduceAdd, Int.reduceSub, Int.reduceMul, reduceCtorEq, Bool.not_false, Bool.not_true, Bool.true_beq, Bool.false_beq, beq_self_eq_true, Bool.true_and]
        have : xs.findIdx? bad = some k := List.findIdx?_eq_some_iff_getElem.2 ⟨h, hm, fun j hj => by simp [hk2 j (by omega) hj]⟩
        simp [ixOp, this]
    · simp -dsimp only [push_cast, ↓reduceIte, Nat.reduceAdd, Nat.reduceMul, Nat.reduceSub, Nat.reduceLeDiff, Nat.reduceEqDiff, Nat.reduceBEq, Int.reduceToNat, Nat.reduceLT, Int.reduceEq, Int.reduceLT, Int.reduceLE, Int.reduceAdd, Int.reduceSub, Int.reduceMul, reduceCtorEq, Bool.not_false, Bool.not_true, Bool.true_beq, Bool.false_beq, beq_self_eq_true, Bool.true_and, h]
      refine ⟨[], rfl, rfl, ?_⟩
      simp -dsimp only [WeakTm, WeakBx, CLe, CLeL, push_cast, ↓reduceIte, Nat.reduceAdd, Nat.reduceMul, Nat.reduceSub, Nat.reduceLeDiff, Nat.reduceEqDiff, Nat.reduceBEq, Int.reduceToNat, Nat.reduceLT, Int.reduceEq, Int.reduceLT, Int.reduceLE, Int.reduceAdd, Int.reduceSub, Int.reduceMul, reduceCtorEq, Bool.not_false, Bool.not_true, Bool.true_beq, Bool.false_beq, beq_self_eq_true, Bool.true_and]
      have : xs.findIdx? bad = none := List.findIdx?_eq_none_iff.2 fun x hx => by
        obtain ⟨j, hj, rfl⟩ := List.getElem_of_mem hx
        simp [hk2 j hj (by omega)]
      simp [ixOp, this]
theorem containsOp_fun (bad : OpV → Bool) (f : FuncId) (hb : ∀ o, short o → Fun Tryd.prog G1 f [.agg (opL o)] (boolC (bad o)) 0) (xs : List OpV) (hx : xs.length ≤ 1000001) (hl : shortL xs) : Fun Tryd.prog G1 43 [.sl 5 (opsC xs), .clo (.func f) [] []] (boolC (xs.any bad)) 0 := by
  have h := ixOp_ge bad xs
  refine Fun.of (fun _ => []) (by kernel_rfl) Tryd.func43 rfl rfl (Nat.le_of_ble_eq_true rfl) (by kernel_rfl) ?_; dsimp only [Tryd.f43, List.append_eq, List.cons_append, List.nil_append]
  simp -dsimp only [push_cast, ↓reduceIte, Nat.reduceAdd, Nat.reduceMul, Nat.reduceSub, Nat.reduceLeDiff, Nat.reduceEqDiff, Nat.reduceBEq, Int.reduceToNat, Nat.reduceLT, Int.reduceEq, Int.reduceLT, Int.reduceLE, Int.reduceAdd, Int.reduceSub, Int.reduceMul, reduceCtorEq, Bool.not_false, Bool.not_true, Bool.true_beq, Bool.false_beq, beq_self_eq_true, Bool.true_and]
  (first | refine call (indexOp_fun bad f hb xs hx hl) ?_ | refine callP (indexOp_fun bad f hb xs hx hl) ?_); simp -dsimp only [push_cast, ↓reduceIte, Nat.reduceAdd, Nat.reduceMul, Nat.reduceSub, Nat.reduceLeDiff, Nat.reduceEqDiff, Nat.reduceBEq, Int.reduceToNat, Nat.reduceLT, Int.reduceEq, Int.reduceLT, Int.reduceLE, Int.reduceAdd, Int.reduceSub, Int.reduceMul, reduceCtorEq, Bool.not_false, Bool.not_true, Bool.true_beq, Bool.false_beq, beq_self_eq_true, Bool.true_and]
  exact ⟨[], rfl, rfl, by simp -dsimp only [WeakTm, WeakBx, CLe, CLeL, push_cast, ↓reduceIte, Nat.reduceAdd, Nat.reduceMul, Nat.reduceSub, Nat.reduceLeDiff, Nat.reduceEqDiff, Nat.reduceBEq, Int.reduceToNat, Nat.reduceLT, Int.reduceEq, Int.reduceLT, Int.reduceLE, Int.reduceAdd, Int.reduceSub, Int.reduceMul, reduceCtorEq, Bool.not_false, Bool.not_true, Bool.true_beq, Bool.false_beq, beq_self_eq_true, Bool.true_and, h]⟩
def planB (l : List OpV) : Bool := !l.any planBad && runB 1 (slotsV l)
def undoB (l : List OpV) : Bool := !l.any undoBad && runB (-1) (slotsV l)
theorem slotsV_le (l : List OpV) : (slotsV l).length ≤ l.length := by
  have := slotsV_len l l.length
  rw [List.take_length] at this
  exact this
set_option maxRecDepth 100000 in
set_option maxHeartbeats 1000000 in
theorem plan19_fun (l : List OpV) (hx : l.length ≤ 100000) (hl : shortL l) : Fun Tryd.prog G1 21 [.sl 5 (opsC l)] (boolC (planB l)) 0 := by
  have h1 := containsOp_fun planBad 44 planBad_fun l (by omega) hl
  have h2 := slots_fun l hx
  have h3 := (run_fun (slotsV l) 1 (by have := slotsV_le l; omega)).glob0 (G' := G1)
  cases hb : l.any planBad with
  | true =>
    rw [hb] at h1
    refine Fun.of (fun _ => []) (by kernel_rfl) Tryd.func21 rfl rfl (Nat.le_of_ble_eq_true rfl) (by kernel_rfl) ?_; dsimp only [Tryd.f21, List.append_eq, List.cons_append, List.nil_append]
    simp -dsimp only [push_cast, ↓reduceIte, Nat.reduceAdd, Nat.reduceMul, Nat.reduceSub, Nat.reduceLeDiff, Nat.reduceEqDiff, Nat.reduceBEq, Int.reduceToNat, Nat.reduceLT, Int.reduceEq, Int.reduceLT, Int.reduceLE, Int.reduceAdd, Int.reduceSub, Int.reduceMul, reduceCtorEq, Bool.not_false, Bool.not_true, Bool.true_beq, Bool.false_beq, beq_self_eq_true, Bool.true_and]
    (first | refine call (h1) ?_ | refine callP (h1) ?_); simp -dsimp only [push_cast, ↓reduceIte, Nat.reduceAdd, Nat.reduceMul, Nat.reduceSub, Nat.reduceLeDiff, Nat.reduceEqDiff, Nat.reduceBEq, Int.reduceToNat, Nat.reduceLT, Int.reduceEq, Int.reduceLT, Int.reduceLE, Int.reduceAdd, Int.reduceSub, Int.reduceMul, reduceCtorEq, Bool.not_false, Bool.not_true, Bool.true_beq, Bool.false_beq, beq_self_eq_true, Bool.true_and]
    exact ⟨[], rfl, rfl, by simp -dsimp only [WeakTm, WeakBx, CLe, CLeL, push_cast, ↓reduceIte, Nat.reduceAdd, Nat.reduceMul, Nat.reduceSub, Nat.reduceLeDiff, Nat.reduceEqDiff, Nat.reduceBEq, Int.reduceToNat, Nat.reduceLT, Int.reduceEq, Int.reduceLT, Int.reduceLE, Int.reduceAdd, Int.reduceSub, Int.reduceMul, reduceCtorEq, Bool.not_false, Bool.not_true, Bool.true_beq, Bool.false_beq, beq_self_eq_true, Bool.true_and]; simp [planB, hb]⟩
  | false =>
    rw [hb] at h1
    refine Fun.of (fun _ => []) (by kernel_rfl) Tryd.func21 rfl rfl (Nat.le_of_ble_eq_true rfl) (by kernel_rfl) ?_; dsimp only [Tryd.f21, List.append_eq, List.cons_append, List.nil_append]
    simp -dsimp only [push_cast, ↓reduceIte, Nat.reduceAdd, Nat.reduceMul, Nat.reduceSub, Nat.reduceLeDiff, Nat.reduceEqDiff, Nat.reduceBEq, Int.reduceToNat, Nat.reduceLT, Int.reduceEq, Int.reduceLT, Int.reduceLE, Int.reduceAdd, Int.reduceSub, Int.reduceMul, reduceCtorEq, Bool.not_false, Bool.not_true, Bool.true_beq, Bool.false_beq, beq_self_eq_true, Bool.true_and]
    (first | refine call (h1) ?_ | refine callP (h1) ?_); simp -dsimp only [push_cast, ↓reduceIte, Nat.reduceAdd, Nat.reduceMul, Nat.reduceSub, Nat.reduceLeDiff, Nat.reduceEqDiff, Nat.reduceBEq, Int.reduceToNat, Nat.reduceLT, Int.reduceEq, Int.reduceLT, Int.reduceLE, Int.reduceAdd, Int.reduceSub, Int.reduceMul, reduceCtorEq, Bool.not_false, Bool.not_true, Bool.true_beq, Bool.false_beq, beq_self_eq_true, Bool.true_and]
    (first | refine call (h2) ?_ | refine callP (h2) ?_); simp -dsimp only [push_cast, ↓reduceIte, Nat.reduceAdd, Nat.reduceMul, Nat.reduceSub, Nat.reduceLeDiff, Nat.reduceEqDiff, Nat.reduceBEq, Int.reduceToNat, Nat.reduceLT, Int.reduceEq, Int.reduceLT, Int.reduceLE, Int.reduceAdd, Int.reduceSub, Int.reduceMul, reduceCtorEq, Bool.not_false, Bool.not_true, Bool.true_beq, Bool.false_beq, beq_self_eq_true, Bool.true_and]
    (first | refine call (h3) ?_ | refine callP (h3) ?_); simp -dsimp only [push_cast, ↓reduceIte, Nat.reduceAdd, Nat.reduceMul, Nat.reduceSub, Nat.reduceLeDiff, Nat.reduceEqDiff, Nat.reduceBEq, Int.reduceToNat, Nat.reduceLT, Int.reduceEq, Int.reduceLT, Int.reduceLE, Int.reduceAdd, Int.reduceSub, Int.reduceMul, reduceCtorEq, Bool.not_false, Bool.not_true, Bool.true_beq, Bool.false_beq, beq_self_eq_true, Bool.true_and]
    exact ⟨[], rfl, rfl, by simp -dsimp only [WeakTm, WeakBx, CLe, CLeL, push_cast, ↓reduceIte, Nat.reduceAdd, Nat.reduceMul, Nat.reduceSub, Nat.reduceLeDiff, Nat.reduceEqDiff, Nat.reduceBEq, Int.reduceToNat, Nat.reduceLT, Int.reduceEq, Int.reduceLT, Int.reduceLE, Int.reduceAdd, Int.reduceSub, Int.reduceMul, reduceCtorEq, Bool.not_false, Bool.not_true, Bool.true_beq, Bool.false_beq, beq_self_eq_true, Bool.true_and]; simp [planB, hb]⟩
set_option maxRecDepth 100000 in
set_option maxHeartbeats 1000000 in
theorem undo19_fun (l : List OpV) (hx : l.length ≤ 100000) (hl : shortL l) : Fun Tryd.prog G1 23 [.sl 5 (opsC l)] (boolC (undoB l)) 0 := by
  have h1 := containsOp_fun undoBad 46 undoBad_fun l (by omega) hl
  have h2 := slots_fun l hx
  have h3 := (run_fun (slotsV l) (-1) (by have := slotsV_le l; omega)).glob0 (G' := G1)
  cases hb : l.any undoBad with
  | true =>
    rw [hb] at h1
    refine Fun.of (fun _ => []) (by kernel_rfl) Tryd.func23 rfl rfl (Nat.le_of_ble_eq_true rfl) (by kernel_rfl) ?_; dsimp only [Tryd.f23, List.append_eq, List.cons_append, List.nil_append]
    simp -dsimp only [push_cast, ↓reduceIte, Nat.reduceAdd, Nat.reduceMul, Nat.reduceSub, Nat.reduceLeDiff, Nat.reduceEqDiff, Nat.reduceBEq, Int.reduceToNat, Nat.reduceLT, Int.reduceEq, Int.reduceLT, Int.reduceLE, Int.reduceAdd, Int.reduceSub, Int.reduceMul, reduceCtorEq, Bool.not_false, Bool.not_true, Bool.true_beq, Bool.false_beq, beq_self_eq_true, Bool.true_and]
    (first | refine call (h1) ?_ | refine callP (h1) ?_); simp -dsimp only [push_cast, ↓reduceIte, Nat.reduceAdd, Nat.reduceMul, Nat.reduceSub, Nat.reduceLeDiff, Nat.reduceEqDiff, Nat.reduceBEq, Int.reduceToNat, Nat.reduceLT, Int.reduceEq, Int.reduceLT, Int.reduceLE, Int.reduceAdd, Int.reduceSub, Int.reduceMul, reduceCtorEq, Bool.not_false, Bool.not_true, Bool.true_beq, Bool.false_beq, beq_self_eq_true, Bool.true_and]
    exact ⟨[], rfl, rfl, by simp -dsimp only [WeakTm, WeakBx, CLe, CLeL, push_cast, ↓reduceIte, Nat.reduceAdd, Nat.reduceMul, Nat.reduceSub, Nat.reduceLeDiff, Nat.reduceEqDiff, Nat.reduceBEq, Int.reduceToNat, Nat.reduceLT, Int.reduceEq, Int.reduceLT, Int.reduceLE, Int.reduceAdd, Int.reduceSub, Int.reduceMul, reduceCtorEq, Bool.not_false, Bool.not_true, Bool.true_beq, Bool.false_beq, beq_self_eq_true, Bool.true_and]; simp [undoB, hb]⟩
  | false =>
    rw [hb] at h1
    refine Fun.of (fun _ => []) (by kernel_rfl) Tryd.func23 rfl rfl (Nat.le_of_ble_eq_true rfl) (by kernel_rfl) ?_; dsimp only [Tryd.f23, List.append_eq, List.cons_append, List.nil_append]
    simp -dsimp only [push_cast, ↓reduceIte, Nat.reduceAdd, Nat.reduceMul, Nat.reduceSub, Nat.reduceLeDiff, Nat.reduceEqDiff, Nat.reduceBEq, Int.reduceToNat, Nat.reduceLT, Int.reduceEq, Int.reduceLT, Int.reduceLE, Int.reduceAdd, Int.reduceSub, Int.reduceMul, reduceCtorEq, Bool.not_false, Bool.not_true, Bool.true_beq, Bool.false_beq, beq_self_eq_true, Bool.true_and]
    (first | refine call (h1) ?_ | refine callP (h1) ?_); simp -dsimp only [push_cast, ↓reduceIte, Nat.reduceAdd, Nat.reduceMul, Nat.reduceSub, Nat.reduceLeDiff, Nat.reduceEqDiff, Nat.reduceBEq, Int.reduceToNat, Nat.reduceLT, Int.reduceEq, Int.reduceLT, Int.reduceLE, Int.reduceAdd, Int.reduceSub, Int.reduceMul, reduceCtorEq, Bool.not_false, Bool.not_true, Bool.true_beq, Bool.false_beq, beq_self_eq_true, Bool.true_and]
    (first | refine call (h2) ?_ | refine callP (h2) ?_); simp -dsimp only [push_cast, ↓reduceIte, Nat.reduceAdd, Nat.reduceMul, Nat.reduceSub, Nat.reduceLeDiff, Nat.reduceEqDiff, Nat.reduceBEq, Int.reduceToNat, Nat.reduceLT, Int.reduceEq, Int.reduceLT, Int.reduceLE, Int.reduceAdd, Int.reduceSub, Int.reduceMul, reduceCtorEq, Bool.not_false, Bool.not_true, Bool.true_beq, Bool.false_beq, beq_self_eq_true, Bool.true_and]
    (first | refine call (h3) ?_ | refine callP (h3) ?_); simp -dsimp only [push_cast, ↓reduceIte, Nat.reduceAdd, Nat.reduceMul, Nat.reduceSub, Nat.reduceLeDiff, Nat.reduceEqDiff, Nat.reduceBEq, Int.reduceToNat, Nat.reduceLT, Int.reduceEq, Int.reduceLT, Int.reduceLE, Int.reduceAdd, Int.reduceSub, Int.reduceMul, reduceCtorEq, Bool.not_false, Bool.not_true, Bool.true_beq, Bool.false_beq, beq_self_eq_true, Bool.true_and]
    exact ⟨[], rfl, rfl, by simp -dsimp only [WeakTm, WeakBx, CLe, CLeL, push_cast, ↓reduceIte, Nat.reduceAdd, Nat.reduceMul, Nat.reduceSub, Nat.reduceLeDiff, Nat.reduceEqDiff, Nat.reduceBEq, Int.reduceToNat, Nat.reduceLT, Int.reduceEq, Int.reduceLT, Int.reduceLE, Int.reduceAdd, Int.reduceSub, Int.reduceMul, reduceCtorEq, Bool.not_false, Bool.not_true, Bool.true_beq, Bool.false_beq, beq_self_eq_true, Bool.true_and]; simp [undoB, hb]⟩
def eqOp (o p : OpV) : Bool := decide (o.kind = p.kind) && decide (o.slot = p.slot) && decide (o.a = p.a) && decide (o.b = p.b) && decide (o.d = p.d)
def sameOps : List OpV → List OpV → Bool
  | [], [] => true
  | o :: r, p :: s => eqOp o p && sameOps r s
  | _, _ => false
theorem sameOps_iff : ∀ l m : List OpV, sameOps l m = true ↔ l.length = m.length ∧ ∀ (j : Nat) (h : j < l.length) (h' : j < m.length), eqOp (l[j]'h) (m[j]'h') = true
  | [], [] => by simp [sameOps]
  | [], p :: s => by simp [sameOps]
  | o :: r, [] => by simp [sameOps]
  | o :: r, p :: s => by
    have ih := sameOps_iff r s
    simp only [sameOps, Bool.and_eq_true, ih, List.length_cons]
    constructor
    · rintro ⟨h1, h2, h3⟩
      refine ⟨by omega, fun j hj hj' => ?_⟩
      cases j with
      | zero => exact h1
      | succ j => exact h3 j (by omega) (by omega)
    · rintro ⟨h1, h2⟩
      exact ⟨h2 0 (by omega) (by omega), by omega, fun j hj hj' => h2 (j + 1) (by omega) (by omega)⟩
theorem eqOp_refl (o : OpV) : eqOp o o = true := by simp [eqOp]
theorem sameOps_refl (l : List OpV) : sameOps l l = true := (sameOps_iff l l).2 ⟨rfl, fun j h h' => eqOp_refl _⟩
set_option maxRecDepth 100000 in
set_option maxHeartbeats 1000000 in
theorem equalOps_fun (a b : List OpV) (ha : a.length ≤ 100000) : Fun Tryd.prog G0 47 [.sl 5 (opsC a), .sl 5 (opsC b)] (boolC (sameOps a b)) 0 := by
  by_cases hl : a.length = b.length
  · refine Fun.of (fun _ => []) (by kernel_rfl) Tryd.func47 rfl rfl (Nat.le_of_ble_eq_true rfl) (by kernel_rfl) ?_; dsimp only [Tryd.f47, List.append_eq, List.cons_append, List.nil_append]
    simp -dsimp only [push_cast, ↓reduceIte, Nat.reduceAdd, Nat.reduceMul, Nat.reduceSub, Nat.reduceLeDiff, Nat.reduceEqDiff, Nat.reduceBEq, Int.reduceToNat, Nat.reduceLT, Int.reduceEq, Int.reduceLT, Int.reduceLE, Int.reduceAdd, Int.reduceSub, Int.reduceMul, reduceCtorEq, Bool.not_false, Bool.not_true, Bool.true_beq, Bool.false_beq, beq_self_eq_true, Bool.true_and, hl]
    refine loop (fun k : Nat => ⟨[(0, .sl 5 (opsC a)), (1, .sl 5 (opsC b)), (12, .sc (.int .i64 (a.length : Int))), (13, .sc (.int .i64 k))], [], 0, 0⟩) (fun k => k ≤ a.length ∧ ∀ (j : Nat) (h : j < a.length) (h' : j < b.length), j < k → eqOp (a[j]'h) (b[j]'h') = true) (fun k => a.length - k) 0 ⟨Nat.zero_le _, fun j _ _ hj => by omega⟩ ?_ ?_
    · exact Weak.mk [] rfl rfl (Nat.le_refl _) rfl (by simp -dsimp only [WeakTm, WeakBx, CLe, CLeL, push_cast, ↓reduceIte, Nat.reduceAdd, Nat.reduceMul, Nat.reduceSub, Nat.reduceLeDiff, Nat.reduceEqDiff, Nat.reduceBEq, Int.reduceToNat, Nat.reduceLT, Int.reduceEq, Int.reduceLT, Int.reduceLE, Int.reduceAdd, Int.reduceSub, Int.reduceMul, reduceCtorEq, Bool.not_false, Bool.not_true, Bool.true_beq, Bool.false_beq, beq_self_eq_true, Bool.true_and, hl]) (by simp -dsimp only [WeakTm, WeakBx, CLe, CLeL, push_cast, ↓reduceIte, Nat.reduceAdd, Nat.reduceMul, Nat.reduceSub, Nat.reduceLeDiff, Nat.reduceEqDiff, Nat.reduceBEq, Int.reduceToNat, Nat.reduceLT, Int.reduceEq, Int.reduceLT, Int.reduceLE, Int.reduceAdd, Int.reduceSub, Int.reduceMul, reduceCtorEq, Bool.not_false, Bool.not_true, Bool.true_beq, Bool.false_beq, beq_self_eq_true, Bool.true_and])
    · intro k hk
      have hk1 := hk.1
      have hk2 := hk.2
      by_cases h : k < a.length
      · have hga := opsC_at a k h
        have hgb := opsC_at b k (by omega)
        have heq : eqOp (a[k]'h) (b[k]'(by omega)) = eqOp (a[k]'h) (b[k]'(by omega)) := rfl
        simp only [opL] at hga hgb
        conv at heq => lhs; unfold eqOp
        cases he : eqOp (a[k]'h) (b[k]'(by omega)) with
        | true =>
          rw [he] at heq
          simp -dsimp only [push_cast, ↓reduceIte, Nat.reduceAdd, Nat.reduceMul, Nat.reduceSub, Nat.reduceLeDiff, Nat.reduceEqDiff, Nat.reduceBEq, Int.reduceToNat, Nat.reduceLT, Int.reduceEq, Int.reduceLT, Int.reduceLE, Int.reduceAdd, Int.reduceSub, Int.reduceMul, reduceCtorEq, Bool.not_false, Bool.not_true, Bool.true_beq, Bool.false_beq, beq_self_eq_true, Bool.true_and, h, hga, hgb, heq]
          (try simp only [List.length_append, List.length_cons, List.length_nil, List.length_map, List.length_take]); repeat (refine And.intro (by omega) ?_)
          refine ⟨k + 1, ⟨by omega, fun j hj hj' hjk => ?_⟩, by omega, Weak.mk [] rfl rfl (Nat.le_refl _) rfl (by simp -dsimp only [WeakTm, WeakBx, CLe, CLeL, push_cast, ↓reduceIte, Nat.reduceAdd, Nat.reduceMul, Nat.reduceSub, Nat.reduceLeDiff, Nat.reduceEqDiff, Nat.reduceBEq, Int.reduceToNat, Nat.reduceLT, Int.reduceEq, Int.reduceLT, Int.reduceLE, Int.reduceAdd, Int.reduceSub, Int.reduceMul, reduceCtorEq, Bool.not_false, Bool.not_true, Bool.true_beq, Bool.false_beq, beq_self_eq_true, Bool.true_and]) (by simp -dsimp only [WeakTm, WeakBx, CLe, CLeL, push_cast, ↓reduceIte, Nat.reduceAdd, Nat.reduceMul, Nat.reduceSub, Nat.reduceLeDiff, Nat.reduceEqDiff, Nat.reduceBEq, Int.reduceToNat, Nat.reduceLT, Int.reduceEq, Int.reduceLT, Int.reduceLE, Int.reduceAdd, Int.reduceSub, Int.reduceMul, reduceCtorEq, Bool.not_false, Bool.not_true, Bool.true_beq, Bool.false_beq, beq_self_eq_true, Bool.true_and])⟩
          rcases Nat.lt_or_ge j k with g | g
          · exact hk2 j hj hj' g
          · have : j = k := by omega
            subst this; exact he
        | false =>
          rw [he] at heq
          simp -dsimp only [push_cast, ↓reduceIte, Nat.reduceAdd, Nat.reduceMul, Nat.reduceSub, Nat.reduceLeDiff, Nat.reduceEqDiff, Nat.reduceBEq, Int.reduceToNat, Nat.reduceLT, Int.reduceEq, Int.reduceLT, Int.reduceLE, Int.reduceAdd, Int.reduceSub, Int.reduceMul, reduceCtorEq, Bool.not_false, Bool.not_true, Bool.true_beq, Bool.false_beq, beq_self_eq_true, Bool.true_and, h, hga, hgb, heq]
          (try simp only [List.length_append, List.length_cons, List.length_nil, List.length_map, List.length_take]); repeat (refine And.intro (by omega) ?_)
          refine ⟨[], rfl, rfl, ?_⟩
          simp -dsimp only [WeakTm, WeakBx, CLe, CLeL, push_cast, ↓reduceIte, Nat.reduceAdd, Nat.reduceMul, Nat.reduceSub, Nat.reduceLeDiff, Nat.reduceEqDiff, Nat.reduceBEq, Int.reduceToNat, Nat.reduceLT, Int.reduceEq, Int.reduceLT, Int.reduceLE, Int.reduceAdd, Int.reduceSub, Int.reduceMul, reduceCtorEq, Bool.not_false, Bool.not_true, Bool.true_beq, Bool.false_beq, beq_self_eq_true, Bool.true_and]
          have : ¬ sameOps a b = true := fun e => by
            have := ((sameOps_iff a b).1 e).2 k h (by omega)
            rw [he] at this; cases this
          simp [this]
      · simp -dsimp only [push_cast, ↓reduceIte, Nat.reduceAdd, Nat.reduceMul, Nat.reduceSub, Nat.reduceLeDiff, Nat.reduceEqDiff, Nat.reduceBEq, Int.reduceToNat, Nat.reduceLT, Int.reduceEq, Int.reduceLT, Int.reduceLE, Int.reduceAdd, Int.reduceSub, Int.reduceMul, reduceCtorEq, Bool.not_false, Bool.not_true, Bool.true_beq, Bool.false_beq, beq_self_eq_true, Bool.true_and, h]
        refine ⟨[], rfl, rfl, ?_⟩
        simp -dsimp only [WeakTm, WeakBx, CLe, CLeL, push_cast, ↓reduceIte, Nat.reduceAdd, Nat.reduceMul, Nat.reduceSub, Nat.reduceLeDiff, Nat.reduceEqDiff, Nat.reduceBEq, Int.reduceToNat, Nat.reduceLT, Int.reduceEq, Int.reduceLT, Int.reduceLE, Int.reduceAdd, Int.reduceSub, Int.reduceMul, reduceCtorEq, Bool.not_false, Bool.not_true, Bool.true_beq, Bool.false_beq, beq_self_eq_true, Bool.true_and]
        have : sameOps a b = true := (sameOps_iff a b).2 ⟨hl, fun j hj hj' => hk2 j hj hj' (by omega)⟩
        simp [this]
  · have hl' : ¬ ((a.length : Int) = (b.length : Int)) := by omega
    refine Fun.of (fun _ => []) (by kernel_rfl) Tryd.func47 rfl rfl (Nat.le_of_ble_eq_true rfl) (by kernel_rfl) ?_; dsimp only [Tryd.f47, List.append_eq, List.cons_append, List.nil_append]
    simp -dsimp only [push_cast, ↓reduceIte, Nat.reduceAdd, Nat.reduceMul, Nat.reduceSub, Nat.reduceLeDiff, Nat.reduceEqDiff, Nat.reduceBEq, Int.reduceToNat, Nat.reduceLT, Int.reduceEq, Int.reduceLT, Int.reduceLE, Int.reduceAdd, Int.reduceSub, Int.reduceMul, reduceCtorEq, Bool.not_false, Bool.not_true, Bool.true_beq, Bool.false_beq, beq_self_eq_true, Bool.true_and, hl]
    refine ⟨[], rfl, rfl, ?_⟩
    simp -dsimp only [WeakTm, WeakBx, CLe, CLeL, push_cast, ↓reduceIte, Nat.reduceAdd, Nat.reduceMul, Nat.reduceSub, Nat.reduceLeDiff, Nat.reduceEqDiff, Nat.reduceBEq, Int.reduceToNat, Nat.reduceLT, Int.reduceEq, Int.reduceLT, Int.reduceLE, Int.reduceAdd, Int.reduceSub, Int.reduceMul, reduceCtorEq, Bool.not_false, Bool.not_true, Bool.true_beq, Bool.false_beq, beq_self_eq_true, Bool.true_and]
    have : ¬ sameOps a b = true := fun e => hl ((sameOps_iff a b).1 e).1
    simp [this]
theorem opSame_fun (a b : List OpV) (ha : a.length ≤ 100000) : Fun Tryd.prog G0 25 [.sl 5 (opsC a), .sl 5 (opsC b)] (boolC (sameOps a b)) 0 := by
  refine Fun.of (fun _ => []) (by kernel_rfl) Tryd.func25 rfl rfl (Nat.le_of_ble_eq_true rfl) (by kernel_rfl) ?_; dsimp only [Tryd.f25, List.append_eq, List.cons_append, List.nil_append]
  simp -dsimp only [push_cast, ↓reduceIte, Nat.reduceAdd, Nat.reduceMul, Nat.reduceSub, Nat.reduceLeDiff, Nat.reduceEqDiff, Nat.reduceBEq, Int.reduceToNat, Nat.reduceLT, Int.reduceEq, Int.reduceLT, Int.reduceLE, Int.reduceAdd, Int.reduceSub, Int.reduceMul, reduceCtorEq, Bool.not_false, Bool.not_true, Bool.true_beq, Bool.false_beq, beq_self_eq_true, Bool.true_and]
  (first | refine call (equalOps_fun a b ha) ?_ | refine callP (equalOps_fun a b ha) ?_); simp -dsimp only [push_cast, ↓reduceIte, Nat.reduceAdd, Nat.reduceMul, Nat.reduceSub, Nat.reduceLeDiff, Nat.reduceEqDiff, Nat.reduceBEq, Int.reduceToNat, Nat.reduceLT, Int.reduceEq, Int.reduceLT, Int.reduceLE, Int.reduceAdd, Int.reduceSub, Int.reduceMul, reduceCtorEq, Bool.not_false, Bool.not_true, Bool.true_beq, Bool.false_beq, beq_self_eq_true, Bool.true_and]
  exact ⟨[], rfl, rfl, by simp -dsimp only [WeakTm, WeakBx, CLe, CLeL, push_cast, ↓reduceIte, Nat.reduceAdd, Nat.reduceMul, Nat.reduceSub, Nat.reduceLeDiff, Nat.reduceEqDiff, Nat.reduceBEq, Int.reduceToNat, Nat.reduceLT, Int.reduceEq, Int.reduceLT, Int.reduceLE, Int.reduceAdd, Int.reduceSub, Int.reduceMul, reduceCtorEq, Bool.not_false, Bool.not_true, Bool.true_beq, Bool.false_beq, beq_self_eq_true, Bool.true_and]⟩
end Go.Proofs.YtbkdmegjgakjpaaDoor.Vcg
