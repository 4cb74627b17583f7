/- A few bytes, sorted in place: the library's Sort. No condition. -/
import Derived.Test.YtphiahlodjblcaaDoorSort
set_option linter.unusedVariables false
set_option linter.unusedSimpArgs false
namespace Go.Proofs.YtphiahlodjblcaaDoor.Vcg
open Go.RowKit
theorem cleL_append {src : Src} {n : Nat} : ∀ {a b c d : List C}, CLeL src n a c → CLeL src n b d → CLeL src n (a ++ b) (c ++ d)
  | [], b, [], d, _, h => h
  | x :: a, b, y :: c, d, h, h' => by
    simp only [List.cons_append]
    unfold CLeL at h ⊢
    exact ⟨h.1, cleL_append h.2 h'⟩
  | [], b, y :: c, d, h, _ => by unfold CLeL at h; exact h.elim
  | x :: a, b, [], d, h, _ => by unfold CLeL at h; exact h.elim
theorem cleL_scs {src : Src} {n : Nat} : ∀ vs : List Value, CLeL src n (vs.map .sc) (vs.map .sc)
  | [] => by unfold CLeL; trivial
  | v :: r => by
    simp only [List.map_cons]
    unfold CLeL
    exact ⟨by simp [CLe], cleL_scs r⟩
theorem cleL_any {src : Src} {n : Nat} : ∀ cs : List C, CLeL src n cs (List.replicate cs.length .any)
  | [] => by unfold CLeL; trivial
  | c :: r => by
    simp only [List.length_cons, List.replicate_succ]
    unfold CLeL
    exact ⟨by cases c <;> simp [CLe], cleL_any r⟩
theorem cleL_boxB {src : Src} {n : Nat} (l : List UInt8) (m : Nat) : CLeL src n (boxB l m) (boxB l m) := by
  refine cleL_append ?_ ?_
  · have := cleL_scs (src := src) (n := n) (l.map fun b => .int .u8 (b.toNat : Int))
    simpa [List.map_map, Function.comp_def] using this
  · have := cleL_any (src := src) (n := n) (List.replicate m .any)
    simpa using this
theorem reL_append {fp fo : Nat → Option Nat} : ∀ (a b : List C), C.reL fp fo (a ++ b) = C.reL fp fo a ++ C.reL fp fo b
  | [], b => by rw [C.reL]; rfl
  | c :: r, b => by
    show C.reL fp fo (c :: (r ++ b)) = _
    rw [C.reL, C.reL, reL_append r b]; rfl
theorem reL_u8 {fp fo : Nat → Option Nat} : ∀ l : List UInt8, C.reL fp fo (l.map u8C) = l.map u8C
  | [] => by rw [List.map_nil, C.reL]
  | b :: r => by rw [List.map_cons, C.reL, reL_u8 r, C.re]
theorem reL_any {fp fo : Nat → Option Nat} : ∀ m : Nat, C.reL fp fo (List.replicate m .any) = List.replicate m .any
  | 0 => by rw [List.replicate_zero, C.reL]
  | m + 1 => by rw [List.replicate_succ, C.reL, reL_any m, C.re]
theorem reL_boxB {fp fo : Nat → Option Nat} (l : List UInt8) (m : Nat) : C.reL fp fo (boxB l m) = boxB l m := by
  rw [boxB, reL_append, reL_u8, reL_any]
theorem pdq_fun (l : List UInt8) (m c : Nat) (lim : Int) (hl : l.length ≤ 12) : FunB Tryd.prog G0 42 [.bs 0 0 1 l.length c, .sc (.int .i64 0), .sc (.int .i64 l.length), .sc (.int .i64 lim)] [boxB l m] 0 (.tup []) [boxB (sortB l) m] 0 := by
  refine FunB.of (fun _ => []) (by kernel_rfl) Tryd.func42 rfl rfl (Nat.le_of_ble_eq_true rfl) (by kernel_rfl) (Nat.le_of_ble_eq_true rfl) ?_; dsimp only [Tryd.f42, List.append_eq, List.cons_append, List.nil_append]
  simp -dsimp only [push_cast, Int.ofNat_eq_natCast, ↓reduceIte, Nat.reduceAdd, Nat.reduceMul, Nat.reduceSub, Nat.reduceLeDiff, Nat.reduceEqDiff, Nat.reduceBEq, Int.reduceToNat, Nat.reduceLT, Int.reduceEq, Int.reduceLT, Int.reduceLE, Int.reduceAdd, Int.reduceSub, Int.reduceMul, reduceCtorEq, Bool.not_false, Bool.not_true, Bool.true_beq, Bool.false_beq, beq_self_eq_true, Bool.true_and]
  refine loop (fun _ : Unit => ⟨[(0, .bs 0 0 1 l.length c), (1, .sc (.int .i64 0)), (2, .sc (.int .i64 l.length)), (3, .sc (.int .i64 lim)), (8, .sc (.bool true)), (9, .sc (.bool true))], [boxB l m], 0, 0⟩) (fun _ => True) (fun _ => 0) () trivial ?_ ?_
  · exact Weak.mk [] rfl rfl (Nat.le_refl _) rfl (by simp -dsimp only [WeakTm, WeakBx, CLe, CLeL, push_cast, Int.ofNat_eq_natCast, ↓reduceIte, Nat.reduceAdd, Nat.reduceMul, Nat.reduceSub, Nat.reduceLeDiff, Nat.reduceEqDiff, Nat.reduceBEq, Int.reduceToNat, Nat.reduceLT, Int.reduceEq, Int.reduceLT, Int.reduceLE, Int.reduceAdd, Int.reduceSub, Int.reduceMul, reduceCtorEq, Bool.not_false, Bool.not_true, Bool.true_beq, Bool.false_beq, beq_self_eq_true, Bool.true_and]) (by simp -dsimp only [WeakTm, WeakBx, CLe, CLeL, push_cast, Int.ofNat_eq_natCast, ↓reduceIte, Nat.reduceAdd, Nat.reduceMul, Nat.reduceSub, Nat.reduceLeDiff, Nat.reduceEqDiff, Nat.reduceBEq, Int.reduceToNat, Nat.reduceLT, Int.reduceEq, Int.reduceLT, Int.reduceLE, Int.reduceAdd, Int.reduceSub, Int.reduceMul, reduceCtorEq, Bool.not_false, Bool.not_true, Bool.true_beq, Bool.false_beq, beq_self_eq_true, Bool.true_and, cleL_boxB])
  · rintro _ -
    simp -dsimp only [push_cast, Int.ofNat_eq_natCast, ↓reduceIte, Nat.reduceAdd, Nat.reduceMul, Nat.reduceSub, Nat.reduceLeDiff, Nat.reduceEqDiff, Nat.reduceBEq, Int.reduceToNat, Nat.reduceLT, Int.reduceEq, Int.reduceLT, Int.reduceLE, Int.reduceAdd, Int.reduceSub, Int.reduceMul, reduceCtorEq, Bool.not_false, Bool.not_true, Bool.true_beq, Bool.false_beq, beq_self_eq_true, Bool.true_and]
    refine ⟨by omega, br (fun h => ?_) (fun h => ?_)⟩
    · simp -dsimp only [push_cast, Int.ofNat_eq_natCast, ↓reduceIte, Nat.reduceAdd, Nat.reduceMul, Nat.reduceSub, Nat.reduceLeDiff, Nat.reduceEqDiff, Nat.reduceBEq, Int.reduceToNat, Nat.reduceLT, Int.reduceEq, Int.reduceLT, Int.reduceLE, Int.reduceAdd, Int.reduceSub, Int.reduceMul, reduceCtorEq, Bool.not_false, Bool.not_true, Bool.true_beq, Bool.false_beq, beq_self_eq_true, Bool.true_and]
      refine callB [0] [] (ins_fun l m c hl) rfl (by simp) (by simp) (by simp) (by simp -dsimp only [push_cast, Int.ofNat_eq_natCast, ↓reduceIte, Nat.reduceAdd, Nat.reduceMul, Nat.reduceSub, Nat.reduceLeDiff, Nat.reduceEqDiff, Nat.reduceBEq, Int.reduceToNat, Nat.reduceLT, Int.reduceEq, Int.reduceLT, Int.reduceLE, Int.reduceAdd, Int.reduceSub, Int.reduceMul, reduceCtorEq, Bool.not_false, Bool.not_true, Bool.true_beq, Bool.false_beq, beq_self_eq_true, Bool.true_and]) (by simp -dsimp only [push_cast, Int.ofNat_eq_natCast, ↓reduceIte, Nat.reduceAdd, Nat.reduceMul, Nat.reduceSub, Nat.reduceLeDiff, Nat.reduceEqDiff, Nat.reduceBEq, Int.reduceToNat, Nat.reduceLT, Int.reduceEq, Int.reduceLT, Int.reduceLE, Int.reduceAdd, Int.reduceSub, Int.reduceMul, reduceCtorEq, Bool.not_false, Bool.not_true, Bool.true_beq, Bool.false_beq, beq_self_eq_true, Bool.true_and, reL_boxB]) ?_
      simp -dsimp only [push_cast, Int.ofNat_eq_natCast, ↓reduceIte, Nat.reduceAdd, Nat.reduceMul, Nat.reduceSub, Nat.reduceLeDiff, Nat.reduceEqDiff, Nat.reduceBEq, Int.reduceToNat, Nat.reduceLT, Int.reduceEq, Int.reduceLT, Int.reduceLE, Int.reduceAdd, Int.reduceSub, Int.reduceMul, reduceCtorEq, Bool.not_false, Bool.not_true, Bool.true_beq, Bool.false_beq, beq_self_eq_true, Bool.true_and, reL_boxB]
      exact ⟨[], rfl, rfl, by simp -dsimp only [WeakTm, WeakBx, CLe, CLeL, push_cast, Int.ofNat_eq_natCast, ↓reduceIte, Nat.reduceAdd, Nat.reduceMul, Nat.reduceSub, Nat.reduceLeDiff, Nat.reduceEqDiff, Nat.reduceBEq, Int.reduceToNat, Nat.reduceLT, Int.reduceEq, Int.reduceLT, Int.reduceLE, Int.reduceAdd, Int.reduceSub, Int.reduceMul, reduceCtorEq, Bool.not_false, Bool.not_true, Bool.true_beq, Bool.false_beq, beq_self_eq_true, Bool.true_and, cleL_boxB], by simp -dsimp only [WeakTm, WeakBx, CLe, CLeL, push_cast, Int.ofNat_eq_natCast, ↓reduceIte, Nat.reduceAdd, Nat.reduceMul, Nat.reduceSub, Nat.reduceLeDiff, Nat.reduceEqDiff, Nat.reduceBEq, Int.reduceToNat, Nat.reduceLT, Int.reduceEq, Int.reduceLT, Int.reduceLE, Int.reduceAdd, Int.reduceSub, Int.reduceMul, reduceCtorEq, Bool.not_false, Bool.not_true, Bool.true_beq, Bool.false_beq, beq_self_eq_true, Bool.true_and]⟩
    · simp at h; omega
set_option maxRecDepth 8000 in
theorem len64_fun (n : Nat) (h : n ≤ 12) : Fun Tryd.prog G0 55 [.sc (.int .u64 n)] (.sc (.int .i64 (([0, 1, 2, 2, 3, 3, 3, 3, 4, 4, 4, 4, 4] : List Int).getD n 0))) 0 := by
  refine Fun.of (fun _ => []) (by kernel_rfl) Tryd.func55 rfl rfl (Nat.le_of_ble_eq_true rfl) (by kernel_rfl) ?_; dsimp only [Tryd.f55, List.append_eq, List.cons_append, List.nil_append]
  have hn : n = 0 ∨ n = 1 ∨ n = 2 ∨ n = 3 ∨ n = 4 ∨ n = 5 ∨ n = 6 ∨ n = 7 ∨ n = 8 ∨ n = 9 ∨ n = 10 ∨ n = 11 ∨ n = 12 := by omega
  rcases hn with rfl | rfl | rfl | rfl | rfl | rfl | rfl | rfl | rfl | rfl | rfl | rfl | rfl
  all_goals
    simp -dsimp only [push_cast, Int.ofNat_eq_natCast, ↓reduceIte, Nat.reduceAdd, Nat.reduceMul, Nat.reduceSub, Nat.reduceLeDiff, Nat.reduceEqDiff, Nat.reduceBEq, Int.reduceToNat, Nat.reduceLT, Int.reduceEq, Int.reduceLT, Int.reduceLE, Int.reduceAdd, Int.reduceSub, Int.reduceMul, reduceCtorEq, Bool.not_false, Bool.not_true, Bool.true_beq, Bool.false_beq, beq_self_eq_true, Bool.true_and]
    repeat (refine And.intro (by decide) ?_)
    exact ⟨[], rfl, rfl, by simp -dsimp only [WeakTm, WeakBx, CLe, CLeL, push_cast, Int.ofNat_eq_natCast, ↓reduceIte, Nat.reduceAdd, Nat.reduceMul, Nat.reduceSub, Nat.reduceLeDiff, Nat.reduceEqDiff, Nat.reduceBEq, Int.reduceToNat, Nat.reduceLT, Int.reduceEq, Int.reduceLT, Int.reduceLE, Int.reduceAdd, Int.reduceSub, Int.reduceMul, reduceCtorEq, Bool.not_false, Bool.not_true, Bool.true_beq, Bool.false_beq, beq_self_eq_true, Bool.true_and] <;> rfl⟩
theorem bitsLen_fun (n : Nat) (h : n ≤ 12) : Fun Tryd.prog G0 43 [.sc (.int .u64 n)] (.sc (.int .i64 (([0, 1, 2, 2, 3, 3, 3, 3, 4, 4, 4, 4, 4] : List Int).getD n 0))) 0 := by
  refine Fun.of (fun _ => []) (by kernel_rfl) Tryd.func43 rfl rfl (Nat.le_of_ble_eq_true rfl) (by kernel_rfl) ?_; dsimp only [Tryd.f43, List.append_eq, List.cons_append, List.nil_append]
  simp -dsimp only [push_cast, Int.ofNat_eq_natCast, ↓reduceIte, Nat.reduceAdd, Nat.reduceMul, Nat.reduceSub, Nat.reduceLeDiff, Nat.reduceEqDiff, Nat.reduceBEq, Int.reduceToNat, Nat.reduceLT, Int.reduceEq, Int.reduceLT, Int.reduceLE, Int.reduceAdd, Int.reduceSub, Int.reduceMul, reduceCtorEq, Bool.not_false, Bool.not_true, Bool.true_beq, Bool.false_beq, beq_self_eq_true, Bool.true_and]
  (first | refine call (len64_fun n h) ?_ | refine callP (len64_fun n h) ?_); simp -dsimp only [push_cast, Int.ofNat_eq_natCast, ↓reduceIte, Nat.reduceAdd, Nat.reduceMul, Nat.reduceSub, Nat.reduceLeDiff, Nat.reduceEqDiff, Nat.reduceBEq, Int.reduceToNat, Nat.reduceLT, Int.reduceEq, Int.reduceLT, Int.reduceLE, Int.reduceAdd, Int.reduceSub, Int.reduceMul, reduceCtorEq, Bool.not_false, Bool.not_true, Bool.true_beq, Bool.false_beq, beq_self_eq_true, Bool.true_and]
  exact ⟨[], rfl, rfl, by simp -dsimp only [WeakTm, WeakBx, CLe, CLeL, push_cast, Int.ofNat_eq_natCast, ↓reduceIte, Nat.reduceAdd, Nat.reduceMul, Nat.reduceSub, Nat.reduceLeDiff, Nat.reduceEqDiff, Nat.reduceBEq, Int.reduceToNat, Nat.reduceLT, Int.reduceEq, Int.reduceLT, Int.reduceLE, Int.reduceAdd, Int.reduceSub, Int.reduceMul, reduceCtorEq, Bool.not_false, Bool.not_true, Bool.true_beq, Bool.false_beq, beq_self_eq_true, Bool.true_and]⟩
theorem sort_fun (l : List UInt8) (m c : Nat) (hl : l.length ≤ 12) : FunB Tryd.prog G0 38 [.bs 0 0 1 l.length c] [boxB l m] 0 (.tup []) [boxB (sortB l) m] 0 := by
  refine FunB.of (fun _ => []) (by kernel_rfl) Tryd.func38 rfl rfl (Nat.le_of_ble_eq_true rfl) (by kernel_rfl) (Nat.le_of_ble_eq_true rfl) ?_; dsimp only [Tryd.f38, List.append_eq, List.cons_append, List.nil_append]
  simp -dsimp only [push_cast, Int.ofNat_eq_natCast, ↓reduceIte, Nat.reduceAdd, Nat.reduceMul, Nat.reduceSub, Nat.reduceLeDiff, Nat.reduceEqDiff, Nat.reduceBEq, Int.reduceToNat, Nat.reduceLT, Int.reduceEq, Int.reduceLT, Int.reduceLE, Int.reduceAdd, Int.reduceSub, Int.reduceMul, reduceCtorEq, Bool.not_false, Bool.not_true, Bool.true_beq, Bool.false_beq, beq_self_eq_true, Bool.true_and]
  refine ⟨by omega, ?_⟩
  (first | refine call (bitsLen_fun l.length hl) ?_ | refine callP (bitsLen_fun l.length hl) ?_); simp -dsimp only [push_cast, Int.ofNat_eq_natCast, ↓reduceIte, Nat.reduceAdd, Nat.reduceMul, Nat.reduceSub, Nat.reduceLeDiff, Nat.reduceEqDiff, Nat.reduceBEq, Int.reduceToNat, Nat.reduceLT, Int.reduceEq, Int.reduceLT, Int.reduceLE, Int.reduceAdd, Int.reduceSub, Int.reduceMul, reduceCtorEq, Bool.not_false, Bool.not_true, Bool.true_beq, Bool.false_beq, beq_self_eq_true, Bool.true_and]
  refine callB [0] [] (pdq_fun l m c (([0, 1, 2, 2, 3, 3, 3, 3, 4, 4, 4, 4, 4] : List Int).getD l.length 0) hl) rfl (by simp) (by simp) (by simp) (by simp -dsimp only [push_cast, Int.ofNat_eq_natCast, ↓reduceIte, Nat.reduceAdd, Nat.reduceMul, Nat.reduceSub, Nat.reduceLeDiff, Nat.reduceEqDiff, Nat.reduceBEq, Int.reduceToNat, Nat.reduceLT, Int.reduceEq, Int.reduceLT, Int.reduceLE, Int.reduceAdd, Int.reduceSub, Int.reduceMul, reduceCtorEq, Bool.not_false, Bool.not_true, Bool.true_beq, Bool.false_beq, beq_self_eq_true, Bool.true_and]) (by simp -dsimp only [push_cast, Int.ofNat_eq_natCast, ↓reduceIte, Nat.reduceAdd, Nat.reduceMul, Nat.reduceSub, Nat.reduceLeDiff, Nat.reduceEqDiff, Nat.reduceBEq, Int.reduceToNat, Nat.reduceLT, Int.reduceEq, Int.reduceLT, Int.reduceLE, Int.reduceAdd, Int.reduceSub, Int.reduceMul, reduceCtorEq, Bool.not_false, Bool.not_true, Bool.true_beq, Bool.false_beq, beq_self_eq_true, Bool.true_and, reL_boxB]) ?_
  simp -dsimp only [push_cast, Int.ofNat_eq_natCast, ↓reduceIte, Nat.reduceAdd, Nat.reduceMul, Nat.reduceSub, Nat.reduceLeDiff, Nat.reduceEqDiff, Nat.reduceBEq, Int.reduceToNat, Nat.reduceLT, Int.reduceEq, Int.reduceLT, Int.reduceLE, Int.reduceAdd, Int.reduceSub, Int.reduceMul, reduceCtorEq, Bool.not_false, Bool.not_true, Bool.true_beq, Bool.false_beq, beq_self_eq_true, Bool.true_and, reL_boxB]
  exact ⟨[], rfl, rfl, by simp -dsimp only [WeakTm, WeakBx, CLe, CLeL, push_cast, Int.ofNat_eq_natCast, ↓reduceIte, Nat.reduceAdd, Nat.reduceMul, Nat.reduceSub, Nat.reduceLeDiff, Nat.reduceEqDiff, Nat.reduceBEq, Int.reduceToNat, Nat.reduceLT, Int.reduceEq, Int.reduceLT, Int.reduceLE, Int.reduceAdd, Int.reduceSub, Int.reduceMul, reduceCtorEq, Bool.not_false, Bool.not_true, Bool.true_beq, Bool.false_beq, beq_self_eq_true, Bool.true_and, cleL_boxB], by simp -dsimp only [WeakTm, WeakBx, CLe, CLeL, push_cast, Int.ofNat_eq_natCast, ↓reduceIte, Nat.reduceAdd, Nat.reduceMul, Nat.reduceSub, Nat.reduceLeDiff, Nat.reduceEqDiff, Nat.reduceBEq, Int.reduceToNat, Nat.reduceLT, Int.reduceEq, Int.reduceLT, Int.reduceLE, Int.reduceAdd, Int.reduceSub, Int.reduceMul, reduceCtorEq, Bool.not_false, Bool.not_true, Bool.true_beq, Bool.false_beq, beq_self_eq_true, Bool.true_and]⟩
end Go.Proofs.YtphiahlodjblcaaDoor.Vcg
