/- Layer 17: words of options, read; the plain law of them. No condition but bounds that each states. -/
import Derived.Test.YtphiahlodjblcaaDoorArgsA
import Derived.Test.YtphiahlodjblcaaDoorRef1
set_option linter.unusedVariables false
set_option linter.unusedSimpArgs false
namespace Go.Proofs.YtphiahlodjblcaaDoor.Vcg
open Go.RowKit QuotePlain
theorem clone_fun (l : List (List UInt8)) (hl : l.length ≤ 100000) : Fun Tryd.prog G0 21 [.sl 1 (strs l)] (.own 0 9 1 (strs l)) 1 := by
  refine Fun.bySlice (fun h => ?_) (fun h a cap hr => ?_)
  · refine Fun.of (fun _ => []) (by kernel_rfl) Tryd.func21 rfl rfl (Nat.le_of_ble_eq_true rfl) (by kernel_rfl) ?_; dsimp only [Tryd.f21, List.append_eq, List.cons_append, List.nil_append]
    simp -dsimp only [push_cast, Int.ofNat_eq_natCast, ↓reduceIte, Nat.reduceAdd, Nat.reduceMul, Nat.reduceSub, Nat.reduceLeDiff, Nat.reduceEqDiff, Nat.reduceBEq, Int.reduceToNat, Nat.reduceLT, Int.reduceEq, Int.reduceLT, Int.reduceLE, Int.reduceAdd, Int.reduceSub, Int.reduceMul, reduceCtorEq, Bool.not_false, Bool.not_true, Bool.true_beq, Bool.false_beq, beq_self_eq_true, Bool.true_and]
    exact ⟨h, by omega, by omega, [.inl 0], rfl, rfl, by simp -dsimp only [WeakTm, WeakBx, CLe, CLeL, push_cast, Int.ofNat_eq_natCast, ↓reduceIte, Nat.reduceAdd, Nat.reduceMul, Nat.reduceSub, Nat.reduceLeDiff, Nat.reduceEqDiff, Nat.reduceBEq, Int.reduceToNat, Nat.reduceLT, Int.reduceEq, Int.reduceLT, Int.reduceLE, Int.reduceAdd, Int.reduceSub, Int.reduceMul, reduceCtorEq, Bool.not_false, Bool.not_true, Bool.true_beq, Bool.false_beq, beq_self_eq_true, Bool.true_and]⟩
  · rw [h]
    cases a with
    | none =>
      refine Fun.of (fun _ => []) (by kernel_rfl) Tryd.func21 rfl rfl (Nat.le_of_ble_eq_true rfl) (by kernel_rfl) ?_; dsimp only [Tryd.f21, List.append_eq, List.cons_append, List.nil_append]
      simp -dsimp only [push_cast, Int.ofNat_eq_natCast, ↓reduceIte, Nat.reduceAdd, Nat.reduceMul, Nat.reduceSub, Nat.reduceLeDiff, Nat.reduceEqDiff, Nat.reduceBEq, Int.reduceToNat, Nat.reduceLT, Int.reduceEq, Int.reduceLT, Int.reduceLE, Int.reduceAdd, Int.reduceSub, Int.reduceMul, reduceCtorEq, Bool.not_false, Bool.not_true, Bool.true_beq, Bool.false_beq, beq_self_eq_true, Bool.true_and, hr, Option.isNone_none]
      exact ⟨[.inr (9, 1)], rfl, rfl, by simp -dsimp only [WeakTm, WeakBx, CLe, CLeL, push_cast, Int.ofNat_eq_natCast, ↓reduceIte, Nat.reduceAdd, Nat.reduceMul, Nat.reduceSub, Nat.reduceLeDiff, Nat.reduceEqDiff, Nat.reduceBEq, Int.reduceToNat, Nat.reduceLT, Int.reduceEq, Int.reduceLT, Int.reduceLE, Int.reduceAdd, Int.reduceSub, Int.reduceMul, reduceCtorEq, Bool.not_false, Bool.not_true, Bool.true_beq, Bool.false_beq, beq_self_eq_true, Bool.true_and] <;> rfl⟩
    | some a =>
      refine Fun.of (fun _ => []) (by kernel_rfl) Tryd.func21 rfl rfl (Nat.le_of_ble_eq_true rfl) (by kernel_rfl) ?_; dsimp only [Tryd.f21, List.append_eq, List.cons_append, List.nil_append]
      simp -dsimp only [push_cast, Int.ofNat_eq_natCast, ↓reduceIte, Nat.reduceAdd, Nat.reduceMul, Nat.reduceSub, Nat.reduceLeDiff, Nat.reduceEqDiff, Nat.reduceBEq, Int.reduceToNat, Nat.reduceLT, Int.reduceEq, Int.reduceLT, Int.reduceLE, Int.reduceAdd, Int.reduceSub, Int.reduceMul, reduceCtorEq, Bool.not_false, Bool.not_true, Bool.true_beq, Bool.false_beq, beq_self_eq_true, Bool.true_and, hr, Option.isNone_some]
      exact ⟨[.inl 0], rfl, rfl, by simp -dsimp only [WeakTm, WeakBx, CLe, CLeL, push_cast, Int.ofNat_eq_natCast, ↓reduceIte, Nat.reduceAdd, Nat.reduceMul, Nat.reduceSub, Nat.reduceLeDiff, Nat.reduceEqDiff, Nat.reduceBEq, Int.reduceToNat, Nat.reduceLT, Int.reduceEq, Int.reduceLT, Int.reduceLE, Int.reduceAdd, Int.reduceSub, Int.reduceMul, reduceCtorEq, Bool.not_false, Bool.not_true, Bool.true_beq, Bool.false_beq, beq_self_eq_true, Bool.true_and]⟩
abbrev Acc := List UInt8 → UInt8 → List UInt8
def wordG (all : List UInt8) (f : Acc) : List UInt8 → List UInt8 → List UInt8 × List UInt8
  | a, [] => (a, [])
  | a, c :: r => if c ∈ all then wordG all f (f a c) r else (a, [c])
def lettersG (all : List UInt8) (f : Acc) : List UInt8 → Nat → List (List UInt8) → List UInt8 × Nat × List UInt8
  | a, n, [] => (a, n, [])
  | a, n, w :: r => if w = [45, 45] then (a, n + 1, []) else if w.length < 2 ∨ w[0]? ≠ some 45 then (a, n, []) else
      if (wordG all f a w.tail).2 = [] then lettersG all f (wordG all f a w.tail).1 (n + 1) r else ((wordG all f a w.tail).1, n, (wordG all f a w.tail).2)
def refAll (k : Int) : List UInt8 := if k = 1 then [112] else if k = 2 then [100, 102, 114, 82] else if k = 3 then [102, 110, 115, 84] else if k = 4 then [102, 110, 84] else if k = 5 then [102, 110, 114, 82, 80, 84] else []
abbrev snocF : Acc := fun s c => s ++ [c]
theorem wordG_step {all : List UInt8} {f : Acc} {a w : List UInt8} {i : Nat} (hi : i < w.length) : wordG all f a (w.drop i) = if w[i] ∈ all then wordG all f (f a w[i]) (w.drop (i + 1)) else (a, [w[i]]) := by
  rw [List.drop_eq_getElem_cons hi, wordG]
theorem lettersG_step {all : List UInt8} {f : Acc} {a : List UInt8} {l : List (List UInt8)} {n : Nat} (hn : n < l.length) : lettersG all f a n (l.drop n) = if l[n] = [45, 45] then (a, n + 1, []) else if l[n].length < 2 ∨ l[n][0]? ≠ some 45 then (a, n, []) else
      if (wordG all f a l[n].tail).2 = [] then lettersG all f (wordG all f a l[n].tail).1 (n + 1) (l.drop (n + 1)) else ((wordG all f a l[n].tail).1, n, (wordG all f a l[n].tail).2) := by
  rw [List.drop_eq_getElem_cons hn, lettersG]
theorem one_at {w : List UInt8} {i : Nat} (hi : i < w.length) : (w.take (i + 1)).drop i = [w[i]] := by
  rw [List.take_add_one, List.getElem?_eq_getElem hi]
  exact List.drop_left' (by rw [List.length_take]; omega)
set_option maxRecDepth 8000 in
theorem letters_fun (k : Int) (l : List (List UInt8)) (hk : k = 1 ∨ k = 2 ∨ k = 3 ∨ k = 4 ∨ k = 5) (hl : l.length ≤ 100) (hs : ∀ x ∈ l, x.length ≤ 300) :
    Fun Tryd.prog G0 24 [.sc (.int .i64 k), .sl 1 (strs l)] (.tup [.str (lettersG (refAll k) snocF [] 0 l).1, .sc (.int .i64 (lettersG (refAll k) snocF [] 0 l).2.1), .str (lettersG (refAll k) snocF [] 0 l).2.2]) 0 := by
  obtain ⟨A, hA⟩ : ∃ A, refAll k = A := ⟨_, rfl⟩
  have hall : A.length ≤ 1000000 := by
    subst hA
    rcases hk with rfl | rfl | rfl | rfl | rfl <;> decide
  rw [hA]
  refine Fun.of (fun _ => []) (by kernel_rfl) Tryd.func24 rfl rfl (Nat.le_of_ble_eq_true rfl) (by kernel_rfl) ?_; dsimp only [Tryd.f24, List.append_eq, List.cons_append, List.nil_append]
  rcases hk with rfl | rfl | rfl | rfl | rfl
  case' inl => have e : A = [112] := hA.symm.trans rfl
  case' inr.inl => have e : A = [100, 102, 114, 82] := hA.symm.trans rfl
  case' inr.inr.inl => have e : A = [102, 110, 115, 84] := hA.symm.trans rfl
  case' inr.inr.inr.inl => have e : A = [102, 110, 84] := hA.symm.trans rfl
  case' inr.inr.inr.inr => have e : A = [102, 110, 114, 82, 80, 84] := hA.symm.trans rfl
  all_goals
    simp -dsimp only [push_cast, Int.ofNat_eq_natCast, ↓reduceIte, Nat.reduceAdd, Nat.reduceMul, Nat.reduceSub, Nat.reduceLeDiff, Nat.reduceEqDiff, Nat.reduceBEq, Int.reduceToNat, Nat.reduceLT, Int.reduceEq, Int.reduceLT, Int.reduceLE, Int.reduceAdd, Int.reduceSub, Int.reduceMul, reduceCtorEq, Bool.not_false, Bool.not_true, Bool.true_beq, Bool.false_beq, beq_self_eq_true, Bool.true_and]
    refine loop (fun p : Nat × List UInt8 => ⟨[(1, .sl 1 (strs l)), (7, .str A), (8, .str p.2), (9, .sc (.int .i64 p.1))], [], 0, 0⟩) (fun p => p.1 ≤ l.length ∧ lettersG A snocF [] 0 l = lettersG A snocF p.2 p.1 (l.drop p.1) ∧ p.2.length ≤ 300 * p.1) (fun p => l.length - p.1) (0, []) ⟨Nat.zero_le _, rfl, Nat.zero_le _⟩ ?_ ?_
    · exact Weak.mk [] rfl rfl (Nat.le_refl _) rfl (by simp -dsimp only [WeakTm, WeakBx, CLe, CLeL, push_cast, Int.ofNat_eq_natCast, ↓reduceIte, Nat.reduceAdd, Nat.reduceMul, Nat.reduceSub, Nat.reduceLeDiff, Nat.reduceEqDiff, Nat.reduceBEq, Int.reduceToNat, Nat.reduceLT, Int.reduceEq, Int.reduceLT, Int.reduceLE, Int.reduceAdd, Int.reduceSub, Int.reduceMul, reduceCtorEq, Bool.not_false, Bool.not_true, Bool.true_beq, Bool.false_beq, beq_self_eq_true, Bool.true_and, e]) (by simp -dsimp only [WeakTm, WeakBx, CLe, CLeL, push_cast, Int.ofNat_eq_natCast, ↓reduceIte, Nat.reduceAdd, Nat.reduceMul, Nat.reduceSub, Nat.reduceLeDiff, Nat.reduceEqDiff, Nat.reduceBEq, Int.reduceToNat, Nat.reduceLT, Int.reduceEq, Int.reduceLT, Int.reduceLE, Int.reduceAdd, Int.reduceSub, Int.reduceMul, reduceCtorEq, Bool.not_false, Bool.not_true, Bool.true_beq, Bool.false_beq, beq_self_eq_true, Bool.true_and])
    · clear e hA
      rintro ⟨n, s⟩ ⟨hn, hq, hsl⟩
      dsimp only at hn hq hsl ⊢
      by_cases h : n < l.length
      · have hg := strs_at l n h
        have hlw := hs l[n] (List.getElem_mem h)
        have hstep := lettersG_step (all := A) (f := snocF) (a := s) h
        generalize hw : l[n] = w at hg hlw hstep
        by_cases h45 : w = [45, 45]
        · rw [if_pos h45] at hstep
          have hr := hq.trans hstep
          simp -dsimp only [push_cast, Int.ofNat_eq_natCast, ↓reduceIte, Nat.reduceAdd, Nat.reduceMul, Nat.reduceSub, Nat.reduceLeDiff, Nat.reduceEqDiff, Nat.reduceBEq, Int.reduceToNat, Nat.reduceLT, Int.reduceEq, Int.reduceLT, Int.reduceLE, Int.reduceAdd, Int.reduceSub, Int.reduceMul, reduceCtorEq, Bool.not_false, Bool.not_true, Bool.true_beq, Bool.false_beq, beq_self_eq_true, Bool.true_and, h, hg, h45]
          (try simp only [List.length_append, List.length_cons, List.length_nil, List.length_map, List.length_take, List.length_drop]); repeat (refine And.intro (by omega) ?_)
          exact ⟨[], rfl, rfl, by simp -dsimp only [WeakTm, WeakBx, CLe, CLeL, push_cast, Int.ofNat_eq_natCast, ↓reduceIte, Nat.reduceAdd, Nat.reduceMul, Nat.reduceSub, Nat.reduceLeDiff, Nat.reduceEqDiff, Nat.reduceBEq, Int.reduceToNat, Nat.reduceLT, Int.reduceEq, Int.reduceLT, Int.reduceLE, Int.reduceAdd, Int.reduceSub, Int.reduceMul, reduceCtorEq, Bool.not_false, Bool.not_true, Bool.true_beq, Bool.false_beq, beq_self_eq_true, Bool.true_and, hr]⟩
        · rw [if_neg h45] at hstep
          by_cases h2 : w.length < 2
          · rw [if_pos (.inl h2)] at hstep
            have hr := hq.trans hstep
            have h2' : ((w.length : Int) < 2) = True := eq_true (by omega)
            simp -dsimp only [push_cast, Int.ofNat_eq_natCast, ↓reduceIte, Nat.reduceAdd, Nat.reduceMul, Nat.reduceSub, Nat.reduceLeDiff, Nat.reduceEqDiff, Nat.reduceBEq, Int.reduceToNat, Nat.reduceLT, Int.reduceEq, Int.reduceLT, Int.reduceLE, Int.reduceAdd, Int.reduceSub, Int.reduceMul, reduceCtorEq, Bool.not_false, Bool.not_true, Bool.true_beq, Bool.false_beq, beq_self_eq_true, Bool.true_and, h, hg, h45, h2']
            (try simp only [List.length_append, List.length_cons, List.length_nil, List.length_map, List.length_take, List.length_drop]); repeat (refine And.intro (by omega) ?_)
            exact ⟨[], rfl, rfl, by simp -dsimp only [WeakTm, WeakBx, CLe, CLeL, push_cast, Int.ofNat_eq_natCast, ↓reduceIte, Nat.reduceAdd, Nat.reduceMul, Nat.reduceSub, Nat.reduceLeDiff, Nat.reduceEqDiff, Nat.reduceBEq, Int.reduceToNat, Nat.reduceLT, Int.reduceEq, Int.reduceLT, Int.reduceLE, Int.reduceAdd, Int.reduceSub, Int.reduceMul, reduceCtorEq, Bool.not_false, Bool.not_true, Bool.true_beq, Bool.false_beq, beq_self_eq_true, Bool.true_and, hr]⟩
          · have h2' : ((w.length : Int) < 2) = False := eq_false (by omega)
            have h0 : w[0]? = some w[0] := List.getElem?_eq_getElem (by omega)
            by_cases h3 : w[0] = 45
            · have h3' : ((w[0].toNat : Int) = 45) = True := eq_true (by rw [h3]; rfl)
              rw [if_neg (by rw [h0, h3]; simp; omega)] at hstep
              simp -dsimp only [push_cast, Int.ofNat_eq_natCast, ↓reduceIte, Nat.reduceAdd, Nat.reduceMul, Nat.reduceSub, Nat.reduceLeDiff, Nat.reduceEqDiff, Nat.reduceBEq, Int.reduceToNat, Nat.reduceLT, Int.reduceEq, Int.reduceLT, Int.reduceLE, Int.reduceAdd, Int.reduceSub, Int.reduceMul, reduceCtorEq, Bool.not_false, Bool.not_true, Bool.true_beq, Bool.false_beq, beq_self_eq_true, Bool.true_and, h, hg, h45, h2', h0, h3']
              (try simp only [List.length_append, List.length_cons, List.length_nil, List.length_map, List.length_take, List.length_drop]); repeat (refine And.intro (by omega) ?_)
              refine loop (fun q : Nat × List UInt8 => ⟨[(1, .sl 1 (strs l)), (7, .str A), (8, .str q.2), (9, .sc (.int .i64 n)), (10, .sc (.int .i64 q.1))], [], 0, 0⟩) (fun q => 1 ≤ q.1 ∧ q.1 ≤ w.length ∧ wordG A snocF s w.tail = wordG A snocF q.2 (w.drop q.1) ∧ q.2.length + 1 ≤ 300 * n + q.1) (fun q => w.length - q.1) (1, s) ⟨Nat.le_refl _, by dsimp only; omega, by simp, by dsimp only; omega⟩ ?_ ?_
              · exact Weak.mk [] rfl rfl (Nat.le_refl _) rfl (by simp -dsimp only [WeakTm, WeakBx, CLe, CLeL, push_cast, Int.ofNat_eq_natCast, ↓reduceIte, Nat.reduceAdd, Nat.reduceMul, Nat.reduceSub, Nat.reduceLeDiff, Nat.reduceEqDiff, Nat.reduceBEq, Int.reduceToNat, Nat.reduceLT, Int.reduceEq, Int.reduceLT, Int.reduceLE, Int.reduceAdd, Int.reduceSub, Int.reduceMul, reduceCtorEq, Bool.not_false, Bool.not_true, Bool.true_beq, Bool.false_beq, beq_self_eq_true, Bool.true_and]) (by simp -dsimp only [WeakTm, WeakBx, CLe, CLeL, push_cast, Int.ofNat_eq_natCast, ↓reduceIte, Nat.reduceAdd, Nat.reduceMul, Nat.reduceSub, Nat.reduceLeDiff, Nat.reduceEqDiff, Nat.reduceBEq, Int.reduceToNat, Nat.reduceLT, Int.reduceEq, Int.reduceLT, Int.reduceLE, Int.reduceAdd, Int.reduceSub, Int.reduceMul, reduceCtorEq, Bool.not_false, Bool.not_true, Bool.true_beq, Bool.false_beq, beq_self_eq_true, Bool.true_and])
              · rintro ⟨i, t⟩ ⟨hi1, hi2, hi3, hi4⟩
                dsimp only at hi1 hi2 hi3 hi4 ⊢
                by_cases hi : i < w.length
                · have hgi : w[i]? = some w[i] := List.getElem?_eq_getElem hi
                  have hws := wordG_step (all := A) (f := snocF) (a := t) hi
                  simp -dsimp only [push_cast, Int.ofNat_eq_natCast, ↓reduceIte, Nat.reduceAdd, Nat.reduceMul, Nat.reduceSub, Nat.reduceLeDiff, Nat.reduceEqDiff, Nat.reduceBEq, Int.reduceToNat, Nat.reduceLT, Int.reduceEq, Int.reduceLT, Int.reduceLE, Int.reduceAdd, Int.reduceSub, Int.reduceMul, reduceCtorEq, Bool.not_false, Bool.not_true, Bool.true_beq, Bool.false_beq, beq_self_eq_true, Bool.true_and, h, hg, hi, hgi]
                  (try simp only [List.length_append, List.length_cons, List.length_nil, List.length_map, List.length_take, List.length_drop]); repeat (refine And.intro (by omega) ?_)
                  (first | refine call (in_fun A w[i] hall) ?_ | refine callP (in_fun A w[i] hall) ?_); simp -dsimp only [push_cast, Int.ofNat_eq_natCast, ↓reduceIte, Nat.reduceAdd, Nat.reduceMul, Nat.reduceSub, Nat.reduceLeDiff, Nat.reduceEqDiff, Nat.reduceBEq, Int.reduceToNat, Nat.reduceLT, Int.reduceEq, Int.reduceLT, Int.reduceLE, Int.reduceAdd, Int.reduceSub, Int.reduceMul, reduceCtorEq, Bool.not_false, Bool.not_true, Bool.true_beq, Bool.false_beq, beq_self_eq_true, Bool.true_and]
                  by_cases hm : w[i] ∈ A
                  · rw [if_pos hm] at hws
                    simp -dsimp only [push_cast, Int.ofNat_eq_natCast, ↓reduceIte, Nat.reduceAdd, Nat.reduceMul, Nat.reduceSub, Nat.reduceLeDiff, Nat.reduceEqDiff, Nat.reduceBEq, Int.reduceToNat, Nat.reduceLT, Int.reduceEq, Int.reduceLT, Int.reduceLE, Int.reduceAdd, Int.reduceSub, Int.reduceMul, reduceCtorEq, Bool.not_false, Bool.not_true, Bool.true_beq, Bool.false_beq, beq_self_eq_true, Bool.true_and, hm, hg, hgi]
                    (try simp only [List.length_append, List.length_cons, List.length_nil, List.length_map, List.length_take, List.length_drop]); repeat (refine And.intro (by omega) ?_)
                    refine ⟨(i + 1, t ++ [w[i]]), ⟨by omega, by dsimp only; omega, hi3.trans hws, by simp; omega⟩, by dsimp only; omega, Weak.mk [] rfl rfl (Nat.le_refl _) rfl (by simp -dsimp only [WeakTm, WeakBx, CLe, CLeL, push_cast, Int.ofNat_eq_natCast, ↓reduceIte, Nat.reduceAdd, Nat.reduceMul, Nat.reduceSub, Nat.reduceLeDiff, Nat.reduceEqDiff, Nat.reduceBEq, Int.reduceToNat, Nat.reduceLT, Int.reduceEq, Int.reduceLT, Int.reduceLE, Int.reduceAdd, Int.reduceSub, Int.reduceMul, reduceCtorEq, Bool.not_false, Bool.not_true, Bool.true_beq, Bool.false_beq, beq_self_eq_true, Bool.true_and, one_at hi]) (by simp -dsimp only [WeakTm, WeakBx, CLe, CLeL, push_cast, Int.ofNat_eq_natCast, ↓reduceIte, Nat.reduceAdd, Nat.reduceMul, Nat.reduceSub, Nat.reduceLeDiff, Nat.reduceEqDiff, Nat.reduceBEq, Int.reduceToNat, Nat.reduceLT, Int.reduceEq, Int.reduceLT, Int.reduceLE, Int.reduceAdd, Int.reduceSub, Int.reduceMul, reduceCtorEq, Bool.not_false, Bool.not_true, Bool.true_beq, Bool.false_beq, beq_self_eq_true, Bool.true_and])⟩
                  · rw [if_neg hm] at hws
                    rw [if_neg (by rw [hi3, hws]; simp), hi3, hws] at hstep
                    have hr := hq.trans hstep
                    simp -dsimp only [push_cast, Int.ofNat_eq_natCast, ↓reduceIte, Nat.reduceAdd, Nat.reduceMul, Nat.reduceSub, Nat.reduceLeDiff, Nat.reduceEqDiff, Nat.reduceBEq, Int.reduceToNat, Nat.reduceLT, Int.reduceEq, Int.reduceLT, Int.reduceLE, Int.reduceAdd, Int.reduceSub, Int.reduceMul, reduceCtorEq, Bool.not_false, Bool.not_true, Bool.true_beq, Bool.false_beq, beq_self_eq_true, Bool.true_and, hm, hg, hgi]
                    (try simp only [List.length_append, List.length_cons, List.length_nil, List.length_map, List.length_take, List.length_drop]); repeat (refine And.intro (by omega) ?_)
                    exact ⟨[], rfl, rfl, by simp -dsimp only [WeakTm, WeakBx, CLe, CLeL, push_cast, Int.ofNat_eq_natCast, ↓reduceIte, Nat.reduceAdd, Nat.reduceMul, Nat.reduceSub, Nat.reduceLeDiff, Nat.reduceEqDiff, Nat.reduceBEq, Int.reduceToNat, Nat.reduceLT, Int.reduceEq, Int.reduceLT, Int.reduceLE, Int.reduceAdd, Int.reduceSub, Int.reduceMul, reduceCtorEq, Bool.not_false, Bool.not_true, Bool.true_beq, Bool.false_beq, beq_self_eq_true, Bool.true_and, hr, one_at hi]⟩
                · have hil : i = w.length := by omega
                  rw [hil, List.drop_length, wordG] at hi3
                  rw [if_pos (by rw [hi3]), hi3] at hstep
                  simp -dsimp only [push_cast, Int.ofNat_eq_natCast, ↓reduceIte, Nat.reduceAdd, Nat.reduceMul, Nat.reduceSub, Nat.reduceLeDiff, Nat.reduceEqDiff, Nat.reduceBEq, Int.reduceToNat, Nat.reduceLT, Int.reduceEq, Int.reduceLT, Int.reduceLE, Int.reduceAdd, Int.reduceSub, Int.reduceMul, reduceCtorEq, Bool.not_false, Bool.not_true, Bool.true_beq, Bool.false_beq, beq_self_eq_true, Bool.true_and, h, hg, hi]
                  (try simp only [List.length_append, List.length_cons, List.length_nil, List.length_map, List.length_take, List.length_drop]); repeat (refine And.intro (by omega) ?_)
                  exact ⟨(n + 1, t), ⟨by dsimp only; omega, hq.trans hstep, by dsimp only; omega⟩, by dsimp only; omega, Weak.mk [] rfl rfl (Nat.le_refl _) rfl (by simp -dsimp only [WeakTm, WeakBx, CLe, CLeL, push_cast, Int.ofNat_eq_natCast, ↓reduceIte, Nat.reduceAdd, Nat.reduceMul, Nat.reduceSub, Nat.reduceLeDiff, Nat.reduceEqDiff, Nat.reduceBEq, Int.reduceToNat, Nat.reduceLT, Int.reduceEq, Int.reduceLT, Int.reduceLE, Int.reduceAdd, Int.reduceSub, Int.reduceMul, reduceCtorEq, Bool.not_false, Bool.not_true, Bool.true_beq, Bool.false_beq, beq_self_eq_true, Bool.true_and]) (by simp -dsimp only [WeakTm, WeakBx, CLe, CLeL, push_cast, Int.ofNat_eq_natCast, ↓reduceIte, Nat.reduceAdd, Nat.reduceMul, Nat.reduceSub, Nat.reduceLeDiff, Nat.reduceEqDiff, Nat.reduceBEq, Int.reduceToNat, Nat.reduceLT, Int.reduceEq, Int.reduceLT, Int.reduceLE, Int.reduceAdd, Int.reduceSub, Int.reduceMul, reduceCtorEq, Bool.not_false, Bool.not_true, Bool.true_beq, Bool.false_beq, beq_self_eq_true, Bool.true_and])⟩
            · have h3' : ((w[0].toNat : Int) = 45) = False := eq_false (fun hh => h3 (UInt8.toNat_inj.1 (by show _ = 45; omega)))
              rw [if_pos (.inr (by rw [h0]; simpa using h3))] at hstep
              have hr := hq.trans hstep
              simp -dsimp only [push_cast, Int.ofNat_eq_natCast, ↓reduceIte, Nat.reduceAdd, Nat.reduceMul, Nat.reduceSub, Nat.reduceLeDiff, Nat.reduceEqDiff, Nat.reduceBEq, Int.reduceToNat, Nat.reduceLT, Int.reduceEq, Int.reduceLT, Int.reduceLE, Int.reduceAdd, Int.reduceSub, Int.reduceMul, reduceCtorEq, Bool.not_false, Bool.not_true, Bool.true_beq, Bool.false_beq, beq_self_eq_true, Bool.true_and, h, hg, h45, h2', h0, h3']
              (try simp only [List.length_append, List.length_cons, List.length_nil, List.length_map, List.length_take, List.length_drop]); repeat (refine And.intro (by omega) ?_)
              exact ⟨[], rfl, rfl, by simp -dsimp only [WeakTm, WeakBx, CLe, CLeL, push_cast, Int.ofNat_eq_natCast, ↓reduceIte, Nat.reduceAdd, Nat.reduceMul, Nat.reduceSub, Nat.reduceLeDiff, Nat.reduceEqDiff, Nat.reduceBEq, Int.reduceToNat, Nat.reduceLT, Int.reduceEq, Int.reduceLT, Int.reduceLE, Int.reduceAdd, Int.reduceSub, Int.reduceMul, reduceCtorEq, Bool.not_false, Bool.not_true, Bool.true_beq, Bool.false_beq, beq_self_eq_true, Bool.true_and, hr]⟩
      · have hkl : n = l.length := by omega
        subst hkl
        have hr := hq
        rw [List.drop_length, lettersG] at hr
        simp -dsimp only [push_cast, Int.ofNat_eq_natCast, ↓reduceIte, Nat.reduceAdd, Nat.reduceMul, Nat.reduceSub, Nat.reduceLeDiff, Nat.reduceEqDiff, Nat.reduceBEq, Int.reduceToNat, Nat.reduceLT, Int.reduceEq, Int.reduceLT, Int.reduceLE, Int.reduceAdd, Int.reduceSub, Int.reduceMul, reduceCtorEq, Bool.not_false, Bool.not_true, Bool.true_beq, Bool.false_beq, beq_self_eq_true, Bool.true_and, h]
        exact ⟨[], rfl, rfl, by simp -dsimp only [WeakTm, WeakBx, CLe, CLeL, push_cast, Int.ofNat_eq_natCast, ↓reduceIte, Nat.reduceAdd, Nat.reduceMul, Nat.reduceSub, Nat.reduceLeDiff, Nat.reduceEqDiff, Nat.reduceBEq, Int.reduceToNat, Nat.reduceLT, Int.reduceEq, Int.reduceLT, Int.reduceLE, Int.reduceAdd, Int.reduceSub, Int.reduceMul, reduceCtorEq, Bool.not_false, Bool.not_true, Bool.true_beq, Bool.false_beq, beq_self_eq_true, Bool.true_and, hr]⟩
end Go.Proofs.YtphiahlodjblcaaDoor.Vcg
set_option linter.unusedVariables false
set_option linter.unusedSimpArgs false
namespace Go.Proofs.YtphiahlodjblcaaDoor.Vcg
open Go.RowKit QuotePlain
theorem nodup_le {l : List UInt8} : ∀ {m : List UInt8}, l.Nodup → (∀ x ∈ l, x ∈ m) → l.length ≤ m.length := by
  induction l with
  | nil => intro m _ _; exact Nat.zero_le _
  | cons a l ih =>
    intro m hn hs
    rw [List.nodup_cons] at hn
    have ha := hs a (List.mem_cons_self ..)
    have := ih (m := m.erase a) hn.2 fun x hx => (List.mem_erase_of_ne (fun e => hn.1 (by rw [← e]; exact hx))).2 (hs x (List.mem_cons_of_mem _ hx))
    rw [List.length_erase_of_mem ha] at this
    have : 0 < m.length := List.length_pos_of_mem ha
    simp; omega
abbrev withF (k : Int) : Acc := fun o c => withV o k c
def outOk (k : Int) (o : List UInt8) : Prop := o.Nodup ∧ ∀ x ∈ o, x ∈ optsV k
theorem outOk.len {k : Int} {o : List UInt8} (h : outOk k o) : o.length ≤ 6 := Nat.le_trans (nodup_le h.1 h.2) (by unfold optsV; (repeat' split) <;> simp)
theorem mem_withV {o : List UInt8} {k : Int} {c x : UInt8} : x ∈ withV o k c ↔ x = lowV c ∨ (x ∈ o ∧ x ∉ pairV k c) := by
  unfold withV sortB keepV
  rw [(List.mergeSort_perm _ _).mem_iff]
  simp only [List.mem_append, List.mem_filter, List.mem_singleton, decide_eq_true_eq]
  constructor
  · rintro (⟨h1, h2, h3⟩ | h)
    · exact .inr ⟨h1, h3⟩
    · exact .inl h
  · rintro (h | ⟨h1, h2⟩)
    · exact .inr h
    · by_cases e : x = lowV c
      · exact .inr e
      · exact .inl ⟨h1, e, h2⟩
theorem withV_ok {k : Int} {o : List UInt8} {c : UInt8} (hk : k = 1 ∨ k = 2 ∨ k = 3 ∨ k = 4 ∨ k = 5) (h : outOk k o) (hc : c ∈ optsV k) : outOk k (withV o k c) := by
  constructor
  · unfold withV sortB
    rw [(List.mergeSort_perm _ _).nodup_iff, List.nodup_append]
    refine ⟨h.1.sublist List.filter_sublist, by simp, ?_⟩
    intro a ha b hb e
    simp at hb
    subst e hb
    unfold keepV at ha
    rw [List.mem_filter] at ha
    simp at ha
  · intro x hx
    rcases mem_withV.1 hx with rfl | ⟨h1, _⟩
    · unfold lowV
      split
      · rename_i e
        subst e
        rcases hk with rfl | rfl | rfl | rfl | rfl <;> revert hc <;> decide
      · exact hc
    · exact h.2 x h1
def optRes (k : Int) (l : List (List UInt8)) : List UInt8 × List (List UInt8) × List UInt8 :=
  let r := lettersG (optsV k) (withF k) [] 0 l
  if r.2.2 = [] then (r.1, l.drop r.2.1, []) else ([], [], r.2.2)
set_option maxRecDepth 8000 in
theorem optread_fun (k : Int) (l : List (List UInt8)) (hk : k = 1 ∨ k = 2 ∨ k = 3 ∨ k = 4 ∨ k = 5) (hl : l.length ≤ 100) (hs : ∀ x ∈ l, x.length ≤ 300) :
    Fun Tryd.prog G3 20 [.sc (.int .i64 k), .sl 1 (strs l)] (.tup [.str (optRes k l).1, .sl 1 (strs (optRes k l).2.1), .str (optRes k l).2.2]) 0 := by
  obtain ⟨A, hA⟩ : ∃ A, optsV k = A := ⟨_, rfl⟩
  have hkk := hk
  have hpq : optRes k l = (if (lettersG A (withF k) [] 0 l).2.2 = [] then ((lettersG A (withF k) [] 0 l).1, l.drop (lettersG A (withF k) [] 0 l).2.1, []) else ([], [], (lettersG A (withF k) [] 0 l).2.2)) := by rw [← hA]; rfl
  refine Fun.of (fun _ => []) (by kernel_rfl) Tryd.func20 rfl rfl (Nat.le_of_ble_eq_true rfl) (by kernel_rfl) ?_; dsimp only [Tryd.f20, List.append_eq, List.cons_append, List.nil_append]
  rcases hk with hk | hk | hk | hk | hk
  case' inl => have e : A = [112] := hA.symm.trans (by rw [hk]; rfl)
  case' inr.inl => have e : A = [82, 100, 102, 114] := hA.symm.trans (by rw [hk]; rfl)
  case' inr.inr.inl => have e : A = [84, 102, 110, 115] := hA.symm.trans (by rw [hk]; rfl)
  case' inr.inr.inr.inl => have e : A = [84, 102, 110] := hA.symm.trans (by rw [hk]; rfl)
  case' inr.inr.inr.inr => have e : A = [80, 82, 84, 102, 110, 114] := hA.symm.trans (by rw [hk]; rfl)
  all_goals
    simp -dsimp only [push_cast, Int.ofNat_eq_natCast, ↓reduceIte, Nat.reduceAdd, Nat.reduceMul, Nat.reduceSub, Nat.reduceLeDiff, Nat.reduceEqDiff, Nat.reduceBEq, Int.reduceToNat, Nat.reduceLT, Int.reduceEq, Int.reduceLT, Int.reduceLE, Int.reduceAdd, Int.reduceSub, Int.reduceMul, reduceCtorEq, Bool.not_false, Bool.not_true, Bool.true_beq, Bool.false_beq, beq_self_eq_true, Bool.true_and]
    refine loop (fun p : Nat × List UInt8 => ⟨[(0, .sc (.int .i64 k)), (1, .sl 1 (strs (l.drop p.1))), (7, .str p.2)], [], 0, 0⟩) (fun p => p.1 ≤ l.length ∧ lettersG A (withF k) [] 0 l = lettersG A (withF k) p.2 p.1 (l.drop p.1) ∧ outOk k p.2) (fun p => l.length - p.1) (0, []) ⟨Nat.zero_le _, rfl, List.nodup_nil, fun x hx => by cases hx⟩ ?_ ?_
    · exact Weak.mk [] rfl rfl (Nat.le_refl _) rfl (by simp -dsimp only [WeakTm, WeakBx, CLe, CLeL, push_cast, Int.ofNat_eq_natCast, ↓reduceIte, Nat.reduceAdd, Nat.reduceMul, Nat.reduceSub, Nat.reduceLeDiff, Nat.reduceEqDiff, Nat.reduceBEq, Int.reduceToNat, Nat.reduceLT, Int.reduceEq, Int.reduceLT, Int.reduceLE, Int.reduceAdd, Int.reduceSub, Int.reduceMul, reduceCtorEq, Bool.not_false, Bool.not_true, Bool.true_beq, Bool.false_beq, beq_self_eq_true, Bool.true_and]) (by simp -dsimp only [WeakTm, WeakBx, CLe, CLeL, push_cast, Int.ofNat_eq_natCast, ↓reduceIte, Nat.reduceAdd, Nat.reduceMul, Nat.reduceSub, Nat.reduceLeDiff, Nat.reduceEqDiff, Nat.reduceBEq, Int.reduceToNat, Nat.reduceLT, Int.reduceEq, Int.reduceLT, Int.reduceLE, Int.reduceAdd, Int.reduceSub, Int.reduceMul, reduceCtorEq, Bool.not_false, Bool.not_true, Bool.true_beq, Bool.false_beq, beq_self_eq_true, Bool.true_and])
    · rintro ⟨n, o⟩ ⟨hn, hq, hok⟩
      dsimp only at hn hq hok ⊢
      by_cases h : n < l.length
      · have hg : l.drop n = l[n] :: l.drop (n + 1) := List.drop_eq_getElem_cons h
        have hlw := hs l[n] (List.getElem_mem h)
        have hstep := lettersG_step (all := A) (f := withF k) (a := o) h
        generalize hw : l[n] = w at hg hlw hstep
        have hgs : strs (l.drop n) = [.str w] :: strs (l.drop (n + 1)) := by rw [hg]; rfl
        rw [hgs]
        have hpos : (0 < ((l.drop (n + 1)).length : Int) + 1) = True := eq_true (by omega)
        by_cases h45 : w = [45, 45]
        · rw [if_pos h45] at hstep
          have hr := hpq
          rw [hq, hstep, if_pos rfl] at hr
          simp -dsimp only [push_cast, Int.ofNat_eq_natCast, ↓reduceIte, Nat.reduceAdd, Nat.reduceMul, Nat.reduceSub, Nat.reduceLeDiff, Nat.reduceEqDiff, Nat.reduceBEq, Int.reduceToNat, Nat.reduceLT, Int.reduceEq, Int.reduceLT, Int.reduceLE, Int.reduceAdd, Int.reduceSub, Int.reduceMul, reduceCtorEq, Bool.not_false, Bool.not_true, Bool.true_beq, Bool.false_beq, beq_self_eq_true, Bool.true_and, h45, hpos]
          (try simp only [List.length_append, List.length_cons, List.length_nil, List.length_map, List.length_take, List.length_drop]); repeat (refine And.intro (by omega) ?_)
          exact ⟨[], rfl, rfl, by simp -dsimp only [WeakTm, WeakBx, CLe, CLeL, push_cast, Int.ofNat_eq_natCast, ↓reduceIte, Nat.reduceAdd, Nat.reduceMul, Nat.reduceSub, Nat.reduceLeDiff, Nat.reduceEqDiff, Nat.reduceBEq, Int.reduceToNat, Nat.reduceLT, Int.reduceEq, Int.reduceLT, Int.reduceLE, Int.reduceAdd, Int.reduceSub, Int.reduceMul, reduceCtorEq, Bool.not_false, Bool.not_true, Bool.true_beq, Bool.false_beq, beq_self_eq_true, Bool.true_and, hr]⟩
        · rw [if_neg h45] at hstep
          by_cases h2 : w.length < 2
          · rw [if_pos (.inl h2)] at hstep
            have hr := hpq
            rw [hq, hstep, if_pos rfl] at hr
            have h2' : ((w.length : Int) < 2) = True := eq_true (by omega)
            simp -dsimp only [push_cast, Int.ofNat_eq_natCast, ↓reduceIte, Nat.reduceAdd, Nat.reduceMul, Nat.reduceSub, Nat.reduceLeDiff, Nat.reduceEqDiff, Nat.reduceBEq, Int.reduceToNat, Nat.reduceLT, Int.reduceEq, Int.reduceLT, Int.reduceLE, Int.reduceAdd, Int.reduceSub, Int.reduceMul, reduceCtorEq, Bool.not_false, Bool.not_true, Bool.true_beq, Bool.false_beq, beq_self_eq_true, Bool.true_and, h45, hpos, h2']
            (try simp only [List.length_append, List.length_cons, List.length_nil, List.length_map, List.length_take, List.length_drop]); repeat (refine And.intro (by omega) ?_)
            exact ⟨[], rfl, rfl, by simp -dsimp only [WeakTm, WeakBx, CLe, CLeL, push_cast, Int.ofNat_eq_natCast, ↓reduceIte, Nat.reduceAdd, Nat.reduceMul, Nat.reduceSub, Nat.reduceLeDiff, Nat.reduceEqDiff, Nat.reduceBEq, Int.reduceToNat, Nat.reduceLT, Int.reduceEq, Int.reduceLT, Int.reduceLE, Int.reduceAdd, Int.reduceSub, Int.reduceMul, reduceCtorEq, Bool.not_false, Bool.not_true, Bool.true_beq, Bool.false_beq, beq_self_eq_true, Bool.true_and, hr, hgs]⟩
          · have h2' : ((w.length : Int) < 2) = False := eq_false (by omega)
            have h0 : w[0]? = some w[0] := List.getElem?_eq_getElem (by omega)
            by_cases h3 : w[0] = 45
            · have h3' : ((w[0].toNat : Int) = 45) = True := eq_true (by rw [h3]; rfl)
              rw [if_neg (by rw [h0, h3]; simp; omega)] at hstep
              simp -dsimp only [push_cast, Int.ofNat_eq_natCast, ↓reduceIte, Nat.reduceAdd, Nat.reduceMul, Nat.reduceSub, Nat.reduceLeDiff, Nat.reduceEqDiff, Nat.reduceBEq, Int.reduceToNat, Nat.reduceLT, Int.reduceEq, Int.reduceLT, Int.reduceLE, Int.reduceAdd, Int.reduceSub, Int.reduceMul, reduceCtorEq, Bool.not_false, Bool.not_true, Bool.true_beq, Bool.false_beq, beq_self_eq_true, Bool.true_and, h45, hpos, h2', h0, h3']
              (try simp only [List.length_append, List.length_cons, List.length_nil, List.length_map, List.length_take, List.length_drop]); repeat (refine And.intro (by omega) ?_)
              refine loop (fun q : Nat × List UInt8 => ⟨[(0, .sc (.int .i64 k)), (1, .sl 1 (strs (l.drop (n + 1)))), (7, .str q.2), (8, .str w), (9, .sc (.int .i64 q.1))], [], 0, 0⟩) (fun q => 1 ≤ q.1 ∧ q.1 ≤ w.length ∧ wordG A (withF k) o w.tail = wordG A (withF k) q.2 (w.drop q.1) ∧ outOk k q.2) (fun q => w.length - q.1) (1, o) ⟨Nat.le_refl _, by dsimp only; omega, by simp, hok⟩ ?_ ?_
              · exact Weak.mk [] rfl rfl (Nat.le_refl _) rfl (by simp -dsimp only [WeakTm, WeakBx, CLe, CLeL, push_cast, Int.ofNat_eq_natCast, ↓reduceIte, Nat.reduceAdd, Nat.reduceMul, Nat.reduceSub, Nat.reduceLeDiff, Nat.reduceEqDiff, Nat.reduceBEq, Int.reduceToNat, Nat.reduceLT, Int.reduceEq, Int.reduceLT, Int.reduceLE, Int.reduceAdd, Int.reduceSub, Int.reduceMul, reduceCtorEq, Bool.not_false, Bool.not_true, Bool.true_beq, Bool.false_beq, beq_self_eq_true, Bool.true_and]) (by simp -dsimp only [WeakTm, WeakBx, CLe, CLeL, push_cast, Int.ofNat_eq_natCast, ↓reduceIte, Nat.reduceAdd, Nat.reduceMul, Nat.reduceSub, Nat.reduceLeDiff, Nat.reduceEqDiff, Nat.reduceBEq, Int.reduceToNat, Nat.reduceLT, Int.reduceEq, Int.reduceLT, Int.reduceLE, Int.reduceAdd, Int.reduceSub, Int.reduceMul, reduceCtorEq, Bool.not_false, Bool.not_true, Bool.true_beq, Bool.false_beq, beq_self_eq_true, Bool.true_and])
              · rintro ⟨i, t⟩ ⟨hi1, hi2, hi3, hi4⟩
                dsimp only at hi1 hi2 hi3 hi4 ⊢
                by_cases hi : i < w.length
                · have hgi : w[i]? = some w[i] := List.getElem?_eq_getElem hi
                  have hws := wordG_step (all := A) (f := withF k) (a := t) hi
                  have hib := (indexByte_fun A w[i]).glob0 (G' := G3)
                  have hin := indexByte_neg A w[i]
                  have hwi := (with_fun t k w[i] (by have := hi4.len; omega)).glob0 (G' := G3)
                  rw [hk] at hwi
                  simp -dsimp only [push_cast, Int.ofNat_eq_natCast, ↓reduceIte, Nat.reduceAdd, Nat.reduceMul, Nat.reduceSub, Nat.reduceLeDiff, Nat.reduceEqDiff, Nat.reduceBEq, Int.reduceToNat, Nat.reduceLT, Int.reduceEq, Int.reduceLT, Int.reduceLE, Int.reduceAdd, Int.reduceSub, Int.reduceMul, reduceCtorEq, Bool.not_false, Bool.not_true, Bool.true_beq, Bool.false_beq, beq_self_eq_true, Bool.true_and, h, hi, hgi, hk]
                  (try simp only [List.length_append, List.length_cons, List.length_nil, List.length_map, List.length_take, List.length_drop]); repeat (refine And.intro (by omega) ?_)
                  by_cases hm : w[i] ∈ A
                  · have g2 : (Lib.indexByte A w[i] < 0) = False := by rw [hin]; simp [hm]
                    have hok' : outOk k (withV t k w[i]) := withV_ok hkk hi4 (by rw [hA]; exact hm)
                    rw [if_pos hm] at hws
                    rw [e] at hib g2
                    (first | refine call (hib) ?_ | refine callP (hib) ?_); simp -dsimp only [push_cast, Int.ofNat_eq_natCast, ↓reduceIte, Nat.reduceAdd, Nat.reduceMul, Nat.reduceSub, Nat.reduceLeDiff, Nat.reduceEqDiff, Nat.reduceBEq, Int.reduceToNat, Nat.reduceLT, Int.reduceEq, Int.reduceLT, Int.reduceLE, Int.reduceAdd, Int.reduceSub, Int.reduceMul, reduceCtorEq, Bool.not_false, Bool.not_true, Bool.true_beq, Bool.false_beq, beq_self_eq_true, Bool.true_and, g2, hgi]
                    (try simp only [List.length_append, List.length_cons, List.length_nil, List.length_map, List.length_take, List.length_drop]); repeat (refine And.intro (by omega) ?_)
                    (first | refine call (hwi) ?_ | refine callP (hwi) ?_); simp -dsimp only [push_cast, Int.ofNat_eq_natCast, ↓reduceIte, Nat.reduceAdd, Nat.reduceMul, Nat.reduceSub, Nat.reduceLeDiff, Nat.reduceEqDiff, Nat.reduceBEq, Int.reduceToNat, Nat.reduceLT, Int.reduceEq, Int.reduceLT, Int.reduceLE, Int.reduceAdd, Int.reduceSub, Int.reduceMul, reduceCtorEq, Bool.not_false, Bool.not_true, Bool.true_beq, Bool.false_beq, beq_self_eq_true, Bool.true_and]
                    (try simp only [List.length_append, List.length_cons, List.length_nil, List.length_map, List.length_take, List.length_drop]); repeat (refine And.intro (by omega) ?_)
                    exact ⟨(i + 1, withV t k w[i]), ⟨by omega, by dsimp only; omega, hi3.trans hws, hok'⟩, by dsimp only; omega, Weak.mk [] rfl rfl (Nat.le_refl _) rfl (by simp -dsimp only [WeakTm, WeakBx, CLe, CLeL, push_cast, Int.ofNat_eq_natCast, ↓reduceIte, Nat.reduceAdd, Nat.reduceMul, Nat.reduceSub, Nat.reduceLeDiff, Nat.reduceEqDiff, Nat.reduceBEq, Int.reduceToNat, Nat.reduceLT, Int.reduceEq, Int.reduceLT, Int.reduceLE, Int.reduceAdd, Int.reduceSub, Int.reduceMul, reduceCtorEq, Bool.not_false, Bool.not_true, Bool.true_beq, Bool.false_beq, beq_self_eq_true, Bool.true_and, hk]) (by simp -dsimp only [WeakTm, WeakBx, CLe, CLeL, push_cast, Int.ofNat_eq_natCast, ↓reduceIte, Nat.reduceAdd, Nat.reduceMul, Nat.reduceSub, Nat.reduceLeDiff, Nat.reduceEqDiff, Nat.reduceBEq, Int.reduceToNat, Nat.reduceLT, Int.reduceEq, Int.reduceLT, Int.reduceLE, Int.reduceAdd, Int.reduceSub, Int.reduceMul, reduceCtorEq, Bool.not_false, Bool.not_true, Bool.true_beq, Bool.false_beq, beq_self_eq_true, Bool.true_and])⟩
                  · have g2 : (Lib.indexByte A w[i] < 0) = True := by rw [hin]; simp [hm]
                    rw [if_neg hm] at hws
                    rw [if_neg (by rw [hi3, hws]; simp), hi3, hws] at hstep
                    have hr := hpq
                    rw [hq, hstep, if_neg (by simp)] at hr
                    rw [e] at hib g2
                    (first | refine call (hib) ?_ | refine callP (hib) ?_); simp -dsimp only [push_cast, Int.ofNat_eq_natCast, ↓reduceIte, Nat.reduceAdd, Nat.reduceMul, Nat.reduceSub, Nat.reduceLeDiff, Nat.reduceEqDiff, Nat.reduceBEq, Int.reduceToNat, Nat.reduceLT, Int.reduceEq, Int.reduceLT, Int.reduceLE, Int.reduceAdd, Int.reduceSub, Int.reduceMul, reduceCtorEq, Bool.not_false, Bool.not_true, Bool.true_beq, Bool.false_beq, beq_self_eq_true, Bool.true_and, g2, hgi]
                    (try simp only [List.length_append, List.length_cons, List.length_nil, List.length_map, List.length_take, List.length_drop]); repeat (refine And.intro (by omega) ?_)
                    exact ⟨[], rfl, rfl, by simp -dsimp only [WeakTm, WeakBx, CLe, CLeL, push_cast, Int.ofNat_eq_natCast, ↓reduceIte, Nat.reduceAdd, Nat.reduceMul, Nat.reduceSub, Nat.reduceLeDiff, Nat.reduceEqDiff, Nat.reduceBEq, Int.reduceToNat, Nat.reduceLT, Int.reduceEq, Int.reduceLT, Int.reduceLE, Int.reduceAdd, Int.reduceSub, Int.reduceMul, reduceCtorEq, Bool.not_false, Bool.not_true, Bool.true_beq, Bool.false_beq, beq_self_eq_true, Bool.true_and, hr, one_at hi] <;> rfl⟩
                · have hil : i = w.length := by omega
                  rw [hil, List.drop_length, wordG] at hi3
                  rw [if_pos (by rw [hi3]), hi3] at hstep
                  simp -dsimp only [push_cast, Int.ofNat_eq_natCast, ↓reduceIte, Nat.reduceAdd, Nat.reduceMul, Nat.reduceSub, Nat.reduceLeDiff, Nat.reduceEqDiff, Nat.reduceBEq, Int.reduceToNat, Nat.reduceLT, Int.reduceEq, Int.reduceLT, Int.reduceLE, Int.reduceAdd, Int.reduceSub, Int.reduceMul, reduceCtorEq, Bool.not_false, Bool.not_true, Bool.true_beq, Bool.false_beq, beq_self_eq_true, Bool.true_and, h, hi]
                  (try simp only [List.length_append, List.length_cons, List.length_nil, List.length_map, List.length_take, List.length_drop]); repeat (refine And.intro (by omega) ?_)
                  exact ⟨(n + 1, t), ⟨by dsimp only; omega, hq.trans hstep, hi4⟩, by dsimp only; omega, Weak.mk [] rfl rfl (Nat.le_refl _) rfl (by simp -dsimp only [WeakTm, WeakBx, CLe, CLeL, push_cast, Int.ofNat_eq_natCast, ↓reduceIte, Nat.reduceAdd, Nat.reduceMul, Nat.reduceSub, Nat.reduceLeDiff, Nat.reduceEqDiff, Nat.reduceBEq, Int.reduceToNat, Nat.reduceLT, Int.reduceEq, Int.reduceLT, Int.reduceLE, Int.reduceAdd, Int.reduceSub, Int.reduceMul, reduceCtorEq, Bool.not_false, Bool.not_true, Bool.true_beq, Bool.false_beq, beq_self_eq_true, Bool.true_and]) (by simp -dsimp only [WeakTm, WeakBx, CLe, CLeL, push_cast, Int.ofNat_eq_natCast, ↓reduceIte, Nat.reduceAdd, Nat.reduceMul, Nat.reduceSub, Nat.reduceLeDiff, Nat.reduceEqDiff, Nat.reduceBEq, Int.reduceToNat, Nat.reduceLT, Int.reduceEq, Int.reduceLT, Int.reduceLE, Int.reduceAdd, Int.reduceSub, Int.reduceMul, reduceCtorEq, Bool.not_false, Bool.not_true, Bool.true_beq, Bool.false_beq, beq_self_eq_true, Bool.true_and])⟩
            · have h3' : ((w[0].toNat : Int) = 45) = False := eq_false (fun hh => h3 (UInt8.toNat_inj.1 (by show _ = 45; omega)))
              rw [if_pos (.inr (by rw [h0]; simpa using h3))] at hstep
              have hr := hpq
              rw [hq, hstep, if_pos rfl] at hr
              simp -dsimp only [push_cast, Int.ofNat_eq_natCast, ↓reduceIte, Nat.reduceAdd, Nat.reduceMul, Nat.reduceSub, Nat.reduceLeDiff, Nat.reduceEqDiff, Nat.reduceBEq, Int.reduceToNat, Nat.reduceLT, Int.reduceEq, Int.reduceLT, Int.reduceLE, Int.reduceAdd, Int.reduceSub, Int.reduceMul, reduceCtorEq, Bool.not_false, Bool.not_true, Bool.true_beq, Bool.false_beq, beq_self_eq_true, Bool.true_and, h45, hpos, h2', h0, h3']
              (try simp only [List.length_append, List.length_cons, List.length_nil, List.length_map, List.length_take, List.length_drop]); repeat (refine And.intro (by omega) ?_)
              exact ⟨[], rfl, rfl, by simp -dsimp only [WeakTm, WeakBx, CLe, CLeL, push_cast, Int.ofNat_eq_natCast, ↓reduceIte, Nat.reduceAdd, Nat.reduceMul, Nat.reduceSub, Nat.reduceLeDiff, Nat.reduceEqDiff, Nat.reduceBEq, Int.reduceToNat, Nat.reduceLT, Int.reduceEq, Int.reduceLT, Int.reduceLE, Int.reduceAdd, Int.reduceSub, Int.reduceMul, reduceCtorEq, Bool.not_false, Bool.not_true, Bool.true_beq, Bool.false_beq, beq_self_eq_true, Bool.true_and, hr, hgs]⟩
      · have hkl : n = l.length := by omega
        have hg : strs (l.drop n) = [] := by rw [hkl, List.drop_length]; rfl
        rw [hkl, List.drop_length, lettersG] at hq
        have hr := hpq
        rw [hq, if_pos rfl, List.drop_length] at hr
        rw [hg]
        simp -dsimp only [push_cast, Int.ofNat_eq_natCast, ↓reduceIte, Nat.reduceAdd, Nat.reduceMul, Nat.reduceSub, Nat.reduceLeDiff, Nat.reduceEqDiff, Nat.reduceBEq, Int.reduceToNat, Nat.reduceLT, Int.reduceEq, Int.reduceLT, Int.reduceLE, Int.reduceAdd, Int.reduceSub, Int.reduceMul, reduceCtorEq, Bool.not_false, Bool.not_true, Bool.true_beq, Bool.false_beq, beq_self_eq_true, Bool.true_and, h]
        exact ⟨[], rfl, rfl, by simp -dsimp only [WeakTm, WeakBx, CLe, CLeL, push_cast, Int.ofNat_eq_natCast, ↓reduceIte, Nat.reduceAdd, Nat.reduceMul, Nat.reduceSub, Nat.reduceLeDiff, Nat.reduceEqDiff, Nat.reduceBEq, Int.reduceToNat, Nat.reduceLT, Int.reduceEq, Int.reduceLT, Int.reduceLE, Int.reduceAdd, Int.reduceSub, Int.reduceMul, reduceCtorEq, Bool.not_false, Bool.not_true, Bool.true_beq, Bool.false_beq, beq_self_eq_true, Bool.true_and, hr] <;> rfl⟩
end Go.Proofs.YtphiahlodjblcaaDoor.Vcg
set_option linter.unusedVariables false
set_option linter.unusedSimpArgs false
namespace Go.Proofs.YtphiahlodjblcaaDoor.Vcg
open Go.RowKit QuotePlain
theorem sorted_eq : ∀ {l m : List UInt8}, l.Pairwise (· < ·) → m.Pairwise (· < ·) → (∀ x, x ∈ l ↔ x ∈ m) → l = m
  | [], [], _, _, _ => rfl
  | [], b :: m, _, _, h => by have := (h b).2 (List.mem_cons_self ..); cases this
  | a :: l, [], _, _, h => by have := (h a).1 (List.mem_cons_self ..); cases this
  | a :: l, b :: m, hl, hm, h => by
    rw [List.pairwise_cons] at hl hm
    have irr : ∀ x : UInt8, ¬ x < x := fun x => UInt8.lt_irrefl x
    have e : a = b := by
      rcases List.mem_cons.1 ((h a).1 (List.mem_cons_self ..)) with h1 | h1
      · exact h1
      · rcases List.mem_cons.1 ((h b).2 (List.mem_cons_self ..)) with h2 | h2
        · exact h2.symm
        · exact absurd (UInt8.lt_trans (hl.1 b h2) (hm.1 a h1)) (irr a)
    subst e
    rw [sorted_eq hl.2 hm.2 fun x => ⟨fun hx => ?_, fun hx => ?_⟩]
    · rcases List.mem_cons.1 ((h x).1 (List.mem_cons_of_mem _ hx)) with h1 | h1
      · subst h1; exact absurd (hl.1 x hx) (irr x)
      · exact h1
    · rcases List.mem_cons.1 ((h x).2 (List.mem_cons_of_mem _ hx)) with h1 | h1
      · subst h1; exact absurd (hm.1 x hx) (irr x)
      · exact h1
theorem optV_sorted (k : Int) (s : List UInt8) : (optV k s 58).Pairwise (· < ·) := by
  unfold optV
  refine List.Pairwise.filter _ ?_
  decide
theorem mem_optV {k : Int} {s : List UInt8} {x : UInt8} : x ∈ optV k s 58 ↔ (65 ≤ x.toNat ∧ x.toNat < 123) ∧ isV k s x = true := by
  unfold optV
  rw [List.mem_filter, List.mem_map]
  refine and_congr_left fun _ => ⟨?_, fun h => ⟨x.toNat, by rw [List.mem_range'_1]; omega, by simp⟩⟩
  rintro ⟨n, hn, rfl⟩
  rw [List.mem_range'_1] at hn
  rw [UInt8.toNat_ofNat_of_lt' (by show n < 256; omega)]
  omega
theorem withV_sorted {o : List UInt8} {k : Int} {c : UInt8} (h : o.Nodup) : (withV o k c).Pairwise (· < ·) := by
  have hn : (withV o k c).Nodup := by
    unfold withV sortB
    rw [(List.mergeSort_perm _ _).nodup_iff, List.nodup_append]
    refine ⟨h.sublist List.filter_sublist, by simp, ?_⟩
    intro a ha b hb e
    simp at hb
    subst e hb
    unfold keepV at ha
    rw [List.mem_filter] at ha
    simp at ha
  have hs : (withV o k c).Pairwise (fun a b => decide (a ≤ b) = true) := List.pairwise_mergeSort (fun a b c h1 h2 => by simp at *; exact UInt8.le_trans h1 h2) (fun a b => by simp; exact UInt8.le_total a b) _
  refine (hs.and hn).imp fun {a b} hab => ?_
  obtain ⟨h1, h2⟩ := hab
  simp at h1
  exact UInt8.lt_of_le_of_ne h1 h2
theorem lastV_append (s p : List UInt8) (c : UInt8) : lastV (s ++ [c]) p = if c ∈ p then c else lastV s p := by simp [lastV]
theorem withV_opt {k : Int} {s : List UInt8} {c : UInt8} (hc : 65 ≤ c.toNat ∧ c.toNat < 123) : withV (optV k s 58) k c = optV k (s ++ [c]) 58 := by
  refine sorted_eq (withV_sorted ((optV_sorted k s).imp fun h => UInt8.ne_of_lt h)) (optV_sorted _ _) fun x => ?_
  rw [mem_withV, mem_optV, mem_optV]
  have hlow : 65 ≤ (lowV c).toNat ∧ (lowV c).toNat < 123 := by
    unfold lowV
    split
    · decide
    · exact hc
  have key : (x = lowV c ∨ isV k s x = true ∧ x ∉ pairV k c) ↔ isV k (s ++ [c]) x = true := by
    unfold isV
    by_cases h1 : 4 ≤ k ∧ (x = 102 ∨ x = 110)
    · rw [if_pos h1, if_pos h1, lastV_append]
      by_cases h2 : c = 102 ∨ c = 110
      · have hc82 : c ≠ 82 := by rintro rfl; revert h2; decide
        have hm : x ∈ ([102, 110] : List UInt8) := by simpa using h1.2
        simp only [lowV, pairV, if_neg hc82, if_pos (show 4 ≤ k ∧ (c = 102 ∨ c = 110) from ⟨h1.1, h2⟩), decide_eq_true_eq]
        rw [if_pos (by simpa using h2)]
        constructor
        · rintro (h | ⟨_, h⟩)
          · exact h.symm
          · exact absurd hm h
        · exact fun h => .inl h.symm
      · have hcm : c ∉ ([102, 110] : List UInt8) := by simpa using h2
        have hp : pairV k c = [] := by
          unfold pairV
          split
          · rfl
          · rw [if_neg (fun h => h2 h.2)]
        have hx : x ≠ lowV c := by
          unfold lowV
          split
          · rintro rfl; revert h1; simp
          · rintro rfl; exact h2 h1.2
        rw [hp, if_neg hcm]
        simp [hx]
    · rw [if_neg h1, if_neg h1]
      have hnp : x ∉ pairV k c := by
        unfold pairV
        split
        · simp
        · split
          · rename_i h; intro hx; exact h1 ⟨h.1, by simpa using hx⟩
          · simp
      by_cases h2 : x = 114
      · subst h2
        simp only [if_true, decide_eq_true_eq, List.mem_append, List.mem_singleton]
        have hl : (114 : UInt8) = lowV c ↔ (c = 114 ∨ c = 82) := by
          unfold lowV
          split
          · rename_i h; simp [h]
          · rename_i h; simp [h, eq_comm]
        rw [hl]
        constructor
        · rintro ((rfl | rfl) | ⟨h | h, _⟩)
          · exact .inl (.inr rfl)
          · exact .inr (.inr rfl)
          · exact .inl (.inl h)
          · exact .inr (.inl h)
        · rintro ((h | h) | (h | h))
          · exact .inr ⟨.inl h, hnp⟩
          · exact .inl (.inl h.symm)
          · exact .inr ⟨.inr h, hnp⟩
          · exact .inl (.inr h.symm)
      · rw [if_neg h2, if_neg h2]
        by_cases h3 : x = 82
        · subst h3
          simp only [if_true, Bool.false_eq_true, false_and, or_false, iff_false]
          unfold lowV
          split
          · decide
          · rename_i h; exact fun e => h e.symm
        · rw [if_neg h3, if_neg h3]
          simp only [decide_eq_true_eq, List.mem_append, List.mem_singleton]
          have hl : x = lowV c ↔ x = c := by
            unfold lowV
            split
            · rename_i h; subst h; simp [h2, h3]
            · rfl
          rw [hl]
          constructor
          · rintro (h | ⟨h, _⟩)
            · exact .inr h
            · exact .inl h
          · rintro (h | h)
            · exact .inr ⟨h, hnp⟩
            · exact .inl h
  rw [← key]
  constructor
  · rintro (rfl | ⟨⟨h1, h2⟩, h3⟩)
    · exact ⟨hlow, .inl rfl⟩
    · exact ⟨h1, .inr ⟨h2, h3⟩⟩
  · rintro ⟨h1, h2 | ⟨h2, h3⟩⟩
    · exact .inl h2
    · exact .inr ⟨⟨h1, h2⟩, h3⟩
theorem wordG_rel {k : Int} {A B : List UInt8} (hm : ∀ c, c ∈ A ↔ c ∈ B) (hB : ∀ c ∈ B, 65 ≤ c.toNat ∧ c.toNat < 123) : ∀ (w s : List UInt8), wordG A (withF k) (optV k s 58) w = (optV k (wordG B snocF s w).1 58, (wordG B snocF s w).2)
  | [], s => rfl
  | c :: w, s => by
    rw [wordG, wordG]
    by_cases h : c ∈ B
    · rw [if_pos h, if_pos ((hm c).2 h), ← wordG_rel hm hB w (s ++ [c]), ← withV_opt (hB c h)]
    · rw [if_neg h, if_neg (fun h' => h ((hm c).1 h'))]
theorem lettersG_rel {k : Int} {A B : List UInt8} (hm : ∀ c, c ∈ A ↔ c ∈ B) (hB : ∀ c ∈ B, 65 ≤ c.toNat ∧ c.toNat < 123) : ∀ (l : List (List UInt8)) (s : List UInt8) (n : Nat), lettersG A (withF k) (optV k s 58) n l = (optV k (lettersG B snocF s n l).1 58, (lettersG B snocF s n l).2)
  | [], s, n => rfl
  | w :: l, s, n => by
    rw [lettersG, lettersG, wordG_rel hm hB]
    split
    · rfl
    · split
      · rfl
      · dsimp only
        split
        · exact lettersG_rel hm hB l _ _
        · rfl
theorem optV_nil (k : Int) : optV k [] 58 = [] := by
  rw [List.eq_nil_iff_forall_not_mem]
  intro x hx
  rw [mem_optV] at hx
  obtain ⟨h1, h2⟩ := hx
  unfold isV at h2
  split at h2
  · rename_i h; simp [lastV] at h2; subst h2; revert h; simp
  · split at h2
    · simp at h2
    · split at h2
      · cases h2
      · simp at h2
theorem optRes_eq {k : Int} (hk : k = 1 ∨ k = 2 ∨ k = 3 ∨ k = 4 ∨ k = 5) (l : List (List UInt8)) : optRes k l = (if (lettersG (refAll k) snocF [] 0 l).2.2 = [] then (optV k (lettersG (refAll k) snocF [] 0 l).1 58, l.drop (lettersG (refAll k) snocF [] 0 l).2.1, []) else ([], [], (lettersG (refAll k) snocF [] 0 l).2.2)) := by
  have hm : ∀ c, c ∈ optsV k ↔ c ∈ refAll k := by
    rcases hk with rfl | rfl | rfl | rfl | rfl
    all_goals
      intro c
      simp [optsV, refAll]
      try (first | (constructor <;> (intro h; rcases h with h | h | h | h | h | h <;> simp [h]); done) | (by_cases h1 : c = 82 <;> by_cases h2 : c = 84 <;> simp [h1, h2]))
  have hB : ∀ c ∈ refAll k, 65 ≤ c.toNat ∧ c.toNat < 123 := by
    rcases hk with rfl | rfl | rfl | rfl | rfl <;> decide
  have := lettersG_rel (k := k) hm hB l [] 0
  rw [optV_nil] at this
  unfold optRes
  rw [this]
end Go.Proofs.YtphiahlodjblcaaDoor.Vcg
