/- Tables: what the program's search answers. No condition but what each states. -/
import Derived.Test.YtheokoehnmlafaaSlc1
import Derived.Test.YtheokoehnmlafaaTabV
set_option linter.unusedVariables false
set_option linter.unusedSimpArgs false
namespace Go.Proofs.Ytheokoehnmlafaa.Vcg
open Go.RowKit
abbrev iC (n : Int) : C := .sc (.int .i64 n)
abbrev bC (b : Bool) : C := .sc (.bool b)
abbrev entC (e : EntV) : List C := [.str e.name, .sc (.int .i64 e.ino)]
abbrev entsC (es : List EntV) : List (List C) := es.map entC
abbrev nodC (x : NodV) : List C := [.sc (.int .i64 x.ino), .sc (.int .i64 x.kind), .sc (.int .i64 x.links), .str x.data, .sc (.int .i64 x.parent), .sl 2 (entsC x.es)]
abbrev nodsC (xs : List NodV) : List (List C) := xs.map nodC
structure FsV where
  maxI : Int
  maxB : Int
  next : Int
  xs : List NodV
deriving DecidableEq, Inhabited
abbrev fsC (f : FsV) : List C := [.sc (.int .i64 f.maxI), .sc (.int .i64 f.maxB), .sc (.int .i64 f.next), .sl 6 (nodsC f.xs)]
theorem nods_at (xs : List NodV) (i : Nat) (h : i < xs.length) : (nodsC xs)[i]? = some (nodC xs[i]) := by simp [List.getElem?_map, List.getElem?_eq_getElem h]
theorem ents_at (xs : List EntV) (i : Nat) (h : i < xs.length) : (entsC xs)[i]? = some (entC xs[i]) := by simp [List.getElem?_map, List.getElem?_eq_getElem h]
def zNod : NodV := ⟨0, 0, 0, [], 0, []⟩
def gotV (n : Int) (xs : List NodV) : NodV := (getV n xs).getD zNod
def cmpV (a b : Int) : Int := if a < b then -1 else if b < a then 1 else 0
section
variable {G : Globs}
theorem nan_fun (a : Int) : Fun Try.prog G 33 [.sc (.int .i64 a)] (.sc (.bool false)) 0 := by
  refine Fun.of (fun _ => []) (by kernel_rfl) Try.func33 rfl rfl (Nat.le_of_ble_eq_true rfl) (by kernel_rfl) ?_; dsimp only [Try.f33, List.append_eq, List.cons_append, List.nil_append]
  simp -dsimp only [push_cast, Int.ofNat_eq_natCast, ↓reduceIte, Nat.reduceAdd, Nat.reduceMul, Nat.reduceSub, Nat.reduceLeDiff, Nat.reduceEqDiff, Nat.reduceBEq, Int.reduceToNat, Nat.reduceLT, Int.reduceEq, Int.reduceLT, Int.reduceLE, Int.reduceAdd, Int.reduceSub, Int.reduceMul, reduceCtorEq, Bool.not_false, Bool.not_true, Bool.true_beq, Bool.false_beq, beq_self_eq_true, Bool.true_and]
  exact ⟨[], rfl, rfl, by simp -dsimp only [WeakTm, WeakBx, CLe, CLeL, push_cast, Int.ofNat_eq_natCast, ↓reduceIte, Nat.reduceAdd, Nat.reduceMul, Nat.reduceSub, Nat.reduceLeDiff, Nat.reduceEqDiff, Nat.reduceBEq, Int.reduceToNat, Nat.reduceLT, Int.reduceEq, Int.reduceLT, Int.reduceLE, Int.reduceAdd, Int.reduceSub, Int.reduceMul, reduceCtorEq, Bool.not_false, Bool.not_true, Bool.true_beq, Bool.false_beq, beq_self_eq_true, Bool.true_and]⟩
theorem cmp_fun (a b : Int) : Fun Try.prog G 29 [.sc (.int .i64 a), .sc (.int .i64 b)] (.sc (.int .i64 (cmpV a b))) 0 := by
  refine Fun.of (fun _ => []) (by kernel_rfl) Try.func29 rfl rfl (Nat.le_of_ble_eq_true rfl) (by kernel_rfl) ?_; dsimp only [Try.f29, List.append_eq, List.cons_append, List.nil_append]
  simp -dsimp only [push_cast, Int.ofNat_eq_natCast, ↓reduceIte, Nat.reduceAdd, Nat.reduceMul, Nat.reduceSub, Nat.reduceLeDiff, Nat.reduceEqDiff, Nat.reduceBEq, Int.reduceToNat, Nat.reduceLT, Int.reduceEq, Int.reduceLT, Int.reduceLE, Int.reduceAdd, Int.reduceSub, Int.reduceMul, reduceCtorEq, Bool.not_false, Bool.not_true, Bool.true_beq, Bool.false_beq, beq_self_eq_true, Bool.true_and]
  (first | refine call (nan_fun a) ?_ | refine callP (nan_fun a) ?_); simp -dsimp only [push_cast, Int.ofNat_eq_natCast, ↓reduceIte, Nat.reduceAdd, Nat.reduceMul, Nat.reduceSub, Nat.reduceLeDiff, Nat.reduceEqDiff, Nat.reduceBEq, Int.reduceToNat, Nat.reduceLT, Int.reduceEq, Int.reduceLT, Int.reduceLE, Int.reduceAdd, Int.reduceSub, Int.reduceMul, reduceCtorEq, Bool.not_false, Bool.not_true, Bool.true_beq, Bool.false_beq, beq_self_eq_true, Bool.true_and]
  (first | refine call (nan_fun b) ?_ | refine callP (nan_fun b) ?_); simp -dsimp only [push_cast, Int.ofNat_eq_natCast, ↓reduceIte, Nat.reduceAdd, Nat.reduceMul, Nat.reduceSub, Nat.reduceLeDiff, Nat.reduceEqDiff, Nat.reduceBEq, Int.reduceToNat, Nat.reduceLT, Int.reduceEq, Int.reduceLT, Int.reduceLE, Int.reduceAdd, Int.reduceSub, Int.reduceMul, reduceCtorEq, Bool.not_false, Bool.not_true, Bool.true_beq, Bool.false_beq, beq_self_eq_true, Bool.true_and]
  refine br (fun h => ?_) (fun h => ?_)
  · have h := of_decide_eq_true h
    simp -dsimp only [push_cast, Int.ofNat_eq_natCast, ↓reduceIte, Nat.reduceAdd, Nat.reduceMul, Nat.reduceSub, Nat.reduceLeDiff, Nat.reduceEqDiff, Nat.reduceBEq, Int.reduceToNat, Nat.reduceLT, Int.reduceEq, Int.reduceLT, Int.reduceLE, Int.reduceAdd, Int.reduceSub, Int.reduceMul, reduceCtorEq, Bool.not_false, Bool.not_true, Bool.true_beq, Bool.false_beq, beq_self_eq_true, Bool.true_and]
    exact ⟨[], rfl, rfl, by (simp -dsimp only [WeakTm, WeakBx, CLe, CLeL, push_cast, Int.ofNat_eq_natCast, ↓reduceIte, Nat.reduceAdd, Nat.reduceMul, Nat.reduceSub, Nat.reduceLeDiff, Nat.reduceEqDiff, Nat.reduceBEq, Int.reduceToNat, Nat.reduceLT, Int.reduceEq, Int.reduceLT, Int.reduceLE, Int.reduceAdd, Int.reduceSub, Int.reduceMul, reduceCtorEq, Bool.not_false, Bool.not_true, Bool.true_beq, Bool.false_beq, beq_self_eq_true, Bool.true_and]; simp [cmpV, h])⟩
  · have h := of_decide_eq_false h
    simp -dsimp only [push_cast, Int.ofNat_eq_natCast, ↓reduceIte, Nat.reduceAdd, Nat.reduceMul, Nat.reduceSub, Nat.reduceLeDiff, Nat.reduceEqDiff, Nat.reduceBEq, Int.reduceToNat, Nat.reduceLT, Int.reduceEq, Int.reduceLT, Int.reduceLE, Int.reduceAdd, Int.reduceSub, Int.reduceMul, reduceCtorEq, Bool.not_false, Bool.not_true, Bool.true_beq, Bool.false_beq, beq_self_eq_true, Bool.true_and]
    refine br (fun h1 => ?_) (fun h1 => ?_)
    · have h1 := of_decide_eq_true h1
      simp -dsimp only [push_cast, Int.ofNat_eq_natCast, ↓reduceIte, Nat.reduceAdd, Nat.reduceMul, Nat.reduceSub, Nat.reduceLeDiff, Nat.reduceEqDiff, Nat.reduceBEq, Int.reduceToNat, Nat.reduceLT, Int.reduceEq, Int.reduceLT, Int.reduceLE, Int.reduceAdd, Int.reduceSub, Int.reduceMul, reduceCtorEq, Bool.not_false, Bool.not_true, Bool.true_beq, Bool.false_beq, beq_self_eq_true, Bool.true_and]
      exact ⟨[], rfl, rfl, by (simp -dsimp only [WeakTm, WeakBx, CLe, CLeL, push_cast, Int.ofNat_eq_natCast, ↓reduceIte, Nat.reduceAdd, Nat.reduceMul, Nat.reduceSub, Nat.reduceLeDiff, Nat.reduceEqDiff, Nat.reduceBEq, Int.reduceToNat, Nat.reduceLT, Int.reduceEq, Int.reduceLT, Int.reduceLE, Int.reduceAdd, Int.reduceSub, Int.reduceMul, reduceCtorEq, Bool.not_false, Bool.not_true, Bool.true_beq, Bool.false_beq, beq_self_eq_true, Bool.true_and]; simp [cmpV, h, h1])⟩
    · have h1 := of_decide_eq_false h1
      simp -dsimp only [push_cast, Int.ofNat_eq_natCast, ↓reduceIte, Nat.reduceAdd, Nat.reduceMul, Nat.reduceSub, Nat.reduceLeDiff, Nat.reduceEqDiff, Nat.reduceBEq, Int.reduceToNat, Nat.reduceLT, Int.reduceEq, Int.reduceLT, Int.reduceLE, Int.reduceAdd, Int.reduceSub, Int.reduceMul, reduceCtorEq, Bool.not_false, Bool.not_true, Bool.true_beq, Bool.false_beq, beq_self_eq_true, Bool.true_and]
      exact ⟨[], rfl, rfl, by (simp -dsimp only [WeakTm, WeakBx, CLe, CLeL, push_cast, Int.ofNat_eq_natCast, ↓reduceIte, Nat.reduceAdd, Nat.reduceMul, Nat.reduceSub, Nat.reduceLeDiff, Nat.reduceEqDiff, Nat.reduceBEq, Int.reduceToNat, Nat.reduceLT, Int.reduceEq, Int.reduceLT, Int.reduceLE, Int.reduceAdd, Int.reduceSub, Int.reduceMul, reduceCtorEq, Bool.not_false, Bool.not_true, Bool.true_beq, Bool.false_beq, beq_self_eq_true, Bool.true_and]; simp [cmpV, h, h1])⟩
theorem at1_fun (x : NodV) (n : Int) : Fun Try.prog G 28 [.agg (nodC x), .sc (.int .i64 n)] (.sc (.int .i64 (cmpV x.ino n))) 0 := by
  refine Fun.of (fun _ => []) (by kernel_rfl) Try.func28 rfl rfl (Nat.le_of_ble_eq_true rfl) (by kernel_rfl) ?_; dsimp only [Try.f28, List.append_eq, List.cons_append, List.nil_append]
  simp -dsimp only [push_cast, Int.ofNat_eq_natCast, ↓reduceIte, Nat.reduceAdd, Nat.reduceMul, Nat.reduceSub, Nat.reduceLeDiff, Nat.reduceEqDiff, Nat.reduceBEq, Int.reduceToNat, Nat.reduceLT, Int.reduceEq, Int.reduceLT, Int.reduceLE, Int.reduceAdd, Int.reduceSub, Int.reduceMul, reduceCtorEq, Bool.not_false, Bool.not_true, Bool.true_beq, Bool.false_beq, beq_self_eq_true, Bool.true_and]
  (first | refine call (cmp_fun x.ino n) ?_ | refine callP (cmp_fun x.ino n) ?_); simp -dsimp only [push_cast, Int.ofNat_eq_natCast, ↓reduceIte, Nat.reduceAdd, Nat.reduceMul, Nat.reduceSub, Nat.reduceLeDiff, Nat.reduceEqDiff, Nat.reduceBEq, Int.reduceToNat, Nat.reduceLT, Int.reduceEq, Int.reduceLT, Int.reduceLE, Int.reduceAdd, Int.reduceSub, Int.reduceMul, reduceCtorEq, Bool.not_false, Bool.not_true, Bool.true_beq, Bool.false_beq, beq_self_eq_true, Bool.true_and]
  exact ⟨[], rfl, rfl, by simp -dsimp only [WeakTm, WeakBx, CLe, CLeL, push_cast, Int.ofNat_eq_natCast, ↓reduceIte, Nat.reduceAdd, Nat.reduceMul, Nat.reduceSub, Nat.reduceLeDiff, Nat.reduceEqDiff, Nat.reduceBEq, Int.reduceToNat, Nat.reduceLT, Int.reduceEq, Int.reduceLT, Int.reduceLE, Int.reduceAdd, Int.reduceSub, Int.reduceMul, reduceCtorEq, Bool.not_false, Bool.not_true, Bool.true_beq, Bool.false_beq, beq_self_eq_true, Bool.true_and]⟩
theorem bsearch_fun (xs : List NodV) (n : Int) (hl : xs.length ≤ 100000) (hR : Rises xs) :
    Fun Try.prog G 27 [.sl 6 (nodsC xs), .sc (.int .i64 n), .clo (.func 28) [] []] (.tup [.sc (.int .i64 (rankV n xs : Nat)), .sc (.bool (hasV n xs))]) 0 := by
  refine Fun.of (fun _ => []) (by kernel_rfl) Try.func27 rfl rfl (Nat.le_of_ble_eq_true rfl) (by kernel_rfl) ?_; dsimp only [Try.f27, List.append_eq, List.cons_append, List.nil_append]
  simp -dsimp only [push_cast, Int.ofNat_eq_natCast, ↓reduceIte, Nat.reduceAdd, Nat.reduceMul, Nat.reduceSub, Nat.reduceLeDiff, Nat.reduceEqDiff, Nat.reduceBEq, Int.reduceToNat, Nat.reduceLT, Int.reduceEq, Int.reduceLT, Int.reduceLE, Int.reduceAdd, Int.reduceSub, Int.reduceMul, reduceCtorEq, Bool.not_false, Bool.not_true, Bool.true_beq, Bool.false_beq, beq_self_eq_true, Bool.true_and]
  refine loop (fun p : Nat × Nat => ⟨[(0, .sl 6 (nodsC xs)), (1, .sc (.int .i64 n)), (2, .clo (.func 28) [] []), (8, .sc (.int .i64 (xs.length : Nat))), (9, .sc (.int .i64 p.1)), (10, .sc (.int .i64 p.2))], [], 0, 0⟩)
    (fun p => p.1 ≤ p.2 ∧ p.2 ≤ xs.length ∧ (∀ t (h : t < xs.length), t < p.1 → xs[t].ino < n) ∧ ∀ t (h : t < xs.length), p.2 ≤ t → n ≤ xs[t].ino) (fun p => p.2 - p.1) (0, xs.length) ⟨Nat.zero_le _, Nat.le_refl _, fun t _ h => by (simp at h), fun t h h' => by (dsimp only at h'; omega)⟩ ?_ ?_
  · exact Weak.mk [] rfl rfl (Nat.le_refl _) rfl (by simp -dsimp only [WeakTm, WeakBx, CLe, CLeL, push_cast, Int.ofNat_eq_natCast, ↓reduceIte, Nat.reduceAdd, Nat.reduceMul, Nat.reduceSub, Nat.reduceLeDiff, Nat.reduceEqDiff, Nat.reduceBEq, Int.reduceToNat, Nat.reduceLT, Int.reduceEq, Int.reduceLT, Int.reduceLE, Int.reduceAdd, Int.reduceSub, Int.reduceMul, reduceCtorEq, Bool.not_false, Bool.not_true, Bool.true_beq, Bool.false_beq, beq_self_eq_true, Bool.true_and, List.length_map]) (by simp -dsimp only [WeakTm, WeakBx, CLe, CLeL, push_cast, Int.ofNat_eq_natCast, ↓reduceIte, Nat.reduceAdd, Nat.reduceMul, Nat.reduceSub, Nat.reduceLeDiff, Nat.reduceEqDiff, Nat.reduceBEq, Int.reduceToNat, Nat.reduceLT, Int.reduceEq, Int.reduceLT, Int.reduceLE, Int.reduceAdd, Int.reduceSub, Int.reduceMul, reduceCtorEq, Bool.not_false, Bool.not_true, Bool.true_beq, Bool.false_beq, beq_self_eq_true, Bool.true_and])
  · rintro ⟨i, j⟩ ⟨h1, h2, h3, h4⟩
    dsimp only at h1 h2 h3 h4 ⊢
    by_cases h : i < j
    · obtain ⟨m, hm⟩ : ∃ m, m = (i + j) / 2 := ⟨_, rfl⟩
      have hmi : ((i : Int) + (j : Int)) / 2 = (m : Int) := by omega
      have hml : m < xs.length := by omega
      have hat := nods_at xs m hml
      simp -dsimp only [push_cast, Int.ofNat_eq_natCast, ↓reduceIte, Nat.reduceAdd, Nat.reduceMul, Nat.reduceSub, Nat.reduceLeDiff, Nat.reduceEqDiff, Nat.reduceBEq, Int.reduceToNat, Nat.reduceLT, Int.reduceEq, Int.reduceLT, Int.reduceLE, Int.reduceAdd, Int.reduceSub, Int.reduceMul, reduceCtorEq, Bool.not_false, Bool.not_true, Bool.true_beq, Bool.false_beq, beq_self_eq_true, Bool.true_and, h, hmi, hat]
      (try simp only [List.length_append, List.length_cons, List.length_nil, List.length_map, List.length_take, List.length_drop]); repeat (refine And.intro (by omega) ?_)
      (first | refine call (at1_fun xs[m] n) ?_ | refine callP (at1_fun xs[m] n) ?_); simp -dsimp only [push_cast, Int.ofNat_eq_natCast, ↓reduceIte, Nat.reduceAdd, Nat.reduceMul, Nat.reduceSub, Nat.reduceLeDiff, Nat.reduceEqDiff, Nat.reduceBEq, Int.reduceToNat, Nat.reduceLT, Int.reduceEq, Int.reduceLT, Int.reduceLE, Int.reduceAdd, Int.reduceSub, Int.reduceMul, reduceCtorEq, Bool.not_false, Bool.not_true, Bool.true_beq, Bool.false_beq, beq_self_eq_true, Bool.true_and]
      by_cases hc : xs[m].ino < n
      · have hcv : cmpV xs[m].ino n = -1 := by simp [cmpV, hc]
        simp -dsimp only [push_cast, Int.ofNat_eq_natCast, ↓reduceIte, Nat.reduceAdd, Nat.reduceMul, Nat.reduceSub, Nat.reduceLeDiff, Nat.reduceEqDiff, Nat.reduceBEq, Int.reduceToNat, Nat.reduceLT, Int.reduceEq, Int.reduceLT, Int.reduceLE, Int.reduceAdd, Int.reduceSub, Int.reduceMul, reduceCtorEq, Bool.not_false, Bool.not_true, Bool.true_beq, Bool.false_beq, beq_self_eq_true, Bool.true_and, hcv]
        (try simp only [List.length_append, List.length_cons, List.length_nil, List.length_map, List.length_take, List.length_drop]); repeat (refine And.intro (by omega) ?_)
        refine ⟨(m + 1, j), ⟨by omega, h2, fun t ht hlt => ?_, h4⟩, by dsimp only; omega, Weak.mk [] rfl rfl (Nat.le_refl _) rfl (by simp -dsimp only [WeakTm, WeakBx, CLe, CLeL, push_cast, Int.ofNat_eq_natCast, ↓reduceIte, Nat.reduceAdd, Nat.reduceMul, Nat.reduceSub, Nat.reduceLeDiff, Nat.reduceEqDiff, Nat.reduceBEq, Int.reduceToNat, Nat.reduceLT, Int.reduceEq, Int.reduceLT, Int.reduceLE, Int.reduceAdd, Int.reduceSub, Int.reduceMul, reduceCtorEq, Bool.not_false, Bool.not_true, Bool.true_beq, Bool.false_beq, beq_self_eq_true, Bool.true_and]) (by simp -dsimp only [WeakTm, WeakBx, CLe, CLeL, push_cast, Int.ofNat_eq_natCast, ↓reduceIte, Nat.reduceAdd, Nat.reduceMul, Nat.reduceSub, Nat.reduceLeDiff, Nat.reduceEqDiff, Nat.reduceBEq, Int.reduceToNat, Nat.reduceLT, Int.reduceEq, Int.reduceLT, Int.reduceLE, Int.reduceAdd, Int.reduceSub, Int.reduceMul, reduceCtorEq, Bool.not_false, Bool.not_true, Bool.true_beq, Bool.false_beq, beq_self_eq_true, Bool.true_and])⟩
        dsimp only at hlt
        rcases Nat.lt_or_ge t m with q | q
        · have := (List.pairwise_iff_getElem.1 hR) t m ht hml q; omega
        · have : t = m := by omega
          subst this; exact hc
      · have hcv : (cmpV xs[m].ino n < 0) = False := eq_false (by unfold cmpV; rw [if_neg hc]; split <;> omega)
        simp -dsimp only [push_cast, Int.ofNat_eq_natCast, ↓reduceIte, Nat.reduceAdd, Nat.reduceMul, Nat.reduceSub, Nat.reduceLeDiff, Nat.reduceEqDiff, Nat.reduceBEq, Int.reduceToNat, Nat.reduceLT, Int.reduceEq, Int.reduceLT, Int.reduceLE, Int.reduceAdd, Int.reduceSub, Int.reduceMul, reduceCtorEq, Bool.not_false, Bool.not_true, Bool.true_beq, Bool.false_beq, beq_self_eq_true, Bool.true_and, hcv]
        (try simp only [List.length_append, List.length_cons, List.length_nil, List.length_map, List.length_take, List.length_drop]); repeat (refine And.intro (by omega) ?_)
        refine ⟨(i, m), ⟨by omega, by omega, h3, fun t ht hge => ?_⟩, by dsimp only; omega, Weak.mk [] rfl rfl (Nat.le_refl _) rfl (by simp -dsimp only [WeakTm, WeakBx, CLe, CLeL, push_cast, Int.ofNat_eq_natCast, ↓reduceIte, Nat.reduceAdd, Nat.reduceMul, Nat.reduceSub, Nat.reduceLeDiff, Nat.reduceEqDiff, Nat.reduceBEq, Int.reduceToNat, Nat.reduceLT, Int.reduceEq, Int.reduceLT, Int.reduceLE, Int.reduceAdd, Int.reduceSub, Int.reduceMul, reduceCtorEq, Bool.not_false, Bool.not_true, Bool.true_beq, Bool.false_beq, beq_self_eq_true, Bool.true_and]) (by simp -dsimp only [WeakTm, WeakBx, CLe, CLeL, push_cast, Int.ofNat_eq_natCast, ↓reduceIte, Nat.reduceAdd, Nat.reduceMul, Nat.reduceSub, Nat.reduceLeDiff, Nat.reduceEqDiff, Nat.reduceBEq, Int.reduceToNat, Nat.reduceLT, Int.reduceEq, Int.reduceLT, Int.reduceLE, Int.reduceAdd, Int.reduceSub, Int.reduceMul, reduceCtorEq, Bool.not_false, Bool.not_true, Bool.true_beq, Bool.false_beq, beq_self_eq_true, Bool.true_and])⟩
        dsimp only at hge
        rcases Nat.lt_or_ge m t with q | q
        · have := (List.pairwise_iff_getElem.1 hR) m t hml ht q; omega
        · have : t = m := by omega
          subst this; omega
    · have hij : i = j := by omega
      subst hij
      have hrk := rank_at n xs i h2 h3 h4
      simp -dsimp only [push_cast, Int.ofNat_eq_natCast, ↓reduceIte, Nat.reduceAdd, Nat.reduceMul, Nat.reduceSub, Nat.reduceLeDiff, Nat.reduceEqDiff, Nat.reduceBEq, Int.reduceToNat, Nat.reduceLT, Int.reduceEq, Int.reduceLT, Int.reduceLE, Int.reduceAdd, Int.reduceSub, Int.reduceMul, reduceCtorEq, Bool.not_false, Bool.not_true, Bool.true_beq, Bool.false_beq, beq_self_eq_true, Bool.true_and, h]
      refine br (fun hx => ?_) (fun hx => ?_)
      · have hx : i < xs.length := by simpa using hx
        have hat := nods_at xs i hx
        have hh := has_at n xs i hx h3 (h4 i hx (Nat.le_refl _)) hR
        simp -dsimp only [push_cast, Int.ofNat_eq_natCast, ↓reduceIte, Nat.reduceAdd, Nat.reduceMul, Nat.reduceSub, Nat.reduceLeDiff, Nat.reduceEqDiff, Nat.reduceBEq, Int.reduceToNat, Nat.reduceLT, Int.reduceEq, Int.reduceLT, Int.reduceLE, Int.reduceAdd, Int.reduceSub, Int.reduceMul, reduceCtorEq, Bool.not_false, Bool.not_true, Bool.true_beq, Bool.false_beq, beq_self_eq_true, Bool.true_and, hx, hat]
        (try simp only [List.length_append, List.length_cons, List.length_nil, List.length_map, List.length_take, List.length_drop]); repeat (refine And.intro (by omega) ?_)
        (first | refine call (at1_fun xs[i] n) ?_ | refine callP (at1_fun xs[i] n) ?_); simp -dsimp only [push_cast, Int.ofNat_eq_natCast, ↓reduceIte, Nat.reduceAdd, Nat.reduceMul, Nat.reduceSub, Nat.reduceLeDiff, Nat.reduceEqDiff, Nat.reduceBEq, Int.reduceToNat, Nat.reduceLT, Int.reduceEq, Int.reduceLT, Int.reduceLE, Int.reduceAdd, Int.reduceSub, Int.reduceMul, reduceCtorEq, Bool.not_false, Bool.not_true, Bool.true_beq, Bool.false_beq, beq_self_eq_true, Bool.true_and]
        have hcv : decide (cmpV xs[i].ino n = 0) = hasV n xs := by
          rw [hh]
          have := h4 i hx (Nat.le_refl _)
          unfold cmpV
          rw [if_neg (by omega)]
          split
          · rw [decide_eq_false (by omega), decide_eq_false (by omega)]
          · rw [decide_eq_true (by rfl), decide_eq_true (by omega)]
        simp -dsimp only [push_cast, Int.ofNat_eq_natCast, ↓reduceIte, Nat.reduceAdd, Nat.reduceMul, Nat.reduceSub, Nat.reduceLeDiff, Nat.reduceEqDiff, Nat.reduceBEq, Int.reduceToNat, Nat.reduceLT, Int.reduceEq, Int.reduceLT, Int.reduceLE, Int.reduceAdd, Int.reduceSub, Int.reduceMul, reduceCtorEq, Bool.not_false, Bool.not_true, Bool.true_beq, Bool.false_beq, beq_self_eq_true, Bool.true_and, hcv]
        exact ⟨[], rfl, rfl, by simp -dsimp only [WeakTm, WeakBx, CLe, CLeL, push_cast, Int.ofNat_eq_natCast, ↓reduceIte, Nat.reduceAdd, Nat.reduceMul, Nat.reduceSub, Nat.reduceLeDiff, Nat.reduceEqDiff, Nat.reduceBEq, Int.reduceToNat, Nat.reduceLT, Int.reduceEq, Int.reduceLT, Int.reduceLE, Int.reduceAdd, Int.reduceSub, Int.reduceMul, reduceCtorEq, Bool.not_false, Bool.not_true, Bool.true_beq, Bool.false_beq, beq_self_eq_true, Bool.true_and, hrk]⟩
      · have hx : ¬ i < xs.length := by simpa using hx
        have hh := has_end n xs fun t ht => h3 t ht (by omega)
        simp -dsimp only [push_cast, Int.ofNat_eq_natCast, ↓reduceIte, Nat.reduceAdd, Nat.reduceMul, Nat.reduceSub, Nat.reduceLeDiff, Nat.reduceEqDiff, Nat.reduceBEq, Int.reduceToNat, Nat.reduceLT, Int.reduceEq, Int.reduceLT, Int.reduceLE, Int.reduceAdd, Int.reduceSub, Int.reduceMul, reduceCtorEq, Bool.not_false, Bool.not_true, Bool.true_beq, Bool.false_beq, beq_self_eq_true, Bool.true_and, hx]
        exact ⟨[], rfl, rfl, by simp -dsimp only [WeakTm, WeakBx, CLe, CLeL, push_cast, Int.ofNat_eq_natCast, ↓reduceIte, Nat.reduceAdd, Nat.reduceMul, Nat.reduceSub, Nat.reduceLeDiff, Nat.reduceEqDiff, Nat.reduceBEq, Int.reduceToNat, Nat.reduceLT, Int.reduceEq, Int.reduceLT, Int.reduceLE, Int.reduceAdd, Int.reduceSub, Int.reduceMul, reduceCtorEq, Bool.not_false, Bool.not_true, Bool.true_beq, Bool.false_beq, beq_self_eq_true, Bool.true_and, hrk, hh]⟩
theorem at_fun (f : FsV) (n : Int) (hl : f.xs.length ≤ 100000) (hR : Rises f.xs) : Fun Try.prog G 19 [.agg (fsC f), .sc (.int .i64 n)] (.tup [.sc (.int .i64 (rankV n f.xs : Nat)), .sc (.bool (hasV n f.xs))]) 0 := by
  refine Fun.of (fun _ => []) (by kernel_rfl) Try.func19 rfl rfl (Nat.le_of_ble_eq_true rfl) (by kernel_rfl) ?_; dsimp only [Try.f19, List.append_eq, List.cons_append, List.nil_append]
  simp -dsimp only [push_cast, Int.ofNat_eq_natCast, ↓reduceIte, Nat.reduceAdd, Nat.reduceMul, Nat.reduceSub, Nat.reduceLeDiff, Nat.reduceEqDiff, Nat.reduceBEq, Int.reduceToNat, Nat.reduceLT, Int.reduceEq, Int.reduceLT, Int.reduceLE, Int.reduceAdd, Int.reduceSub, Int.reduceMul, reduceCtorEq, Bool.not_false, Bool.not_true, Bool.true_beq, Bool.false_beq, beq_self_eq_true, Bool.true_and]
  (first | refine call (bsearch_fun f.xs n hl hR) ?_ | refine callP (bsearch_fun f.xs n hl hR) ?_); simp -dsimp only [push_cast, Int.ofNat_eq_natCast, ↓reduceIte, Nat.reduceAdd, Nat.reduceMul, Nat.reduceSub, Nat.reduceLeDiff, Nat.reduceEqDiff, Nat.reduceBEq, Int.reduceToNat, Nat.reduceLT, Int.reduceEq, Int.reduceLT, Int.reduceLE, Int.reduceAdd, Int.reduceSub, Int.reduceMul, reduceCtorEq, Bool.not_false, Bool.not_true, Bool.true_beq, Bool.false_beq, beq_self_eq_true, Bool.true_and]
  exact ⟨[], rfl, rfl, by simp -dsimp only [WeakTm, WeakBx, CLe, CLeL, push_cast, Int.ofNat_eq_natCast, ↓reduceIte, Nat.reduceAdd, Nat.reduceMul, Nat.reduceSub, Nat.reduceLeDiff, Nat.reduceEqDiff, Nat.reduceBEq, Int.reduceToNat, Nat.reduceLT, Int.reduceEq, Int.reduceLT, Int.reduceLE, Int.reduceAdd, Int.reduceSub, Int.reduceMul, reduceCtorEq, Bool.not_false, Bool.not_true, Bool.true_beq, Bool.false_beq, beq_self_eq_true, Bool.true_and]⟩
end
end Go.Proofs.Ytheokoehnmlafaa.Vcg
