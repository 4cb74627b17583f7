/- The library's functions on lists in boxes: Clone, Insert, Delete. No condition but what each states. -/
import Derived.Test.YtheokoehnmlafaaSlc0
set_option linter.unusedVariables false
set_option linter.unusedSimpArgs false
namespace Go.Proofs.Ytheokoehnmlafaa.Vcg
open Go.RowKit
/-- what Clone answers: a box of its own, or nothing -/
def cloneP (k : Nat) (rows : List (List C)) (r : C) (bx' : List (List C)) (n : Nat) : Prop :=
  n = 0 ∧ ((rows ≠ [] ∧ ∃ c, rows.length ≤ c ∧ c ≤ 9223372036854775807 ∧ r = .bs 1 0 k rows.length c ∧ bx' = [[], boxR k rows c]) ∨ (rows = [] ∧ (r = .sc (.slice none 0 0) ∧ bx' = [] ∨ r = .bs 0 0 k 0 0 ∧ bx' = [[]])))
/-- what Insert answers: the box, or a new one -/
def insP (k m : Nat) (ins : List (List C)) (r : C) (bx' : List (List C)) (n : Nat) : Prop :=
  n = 0 ∧ ∃ c, ins.length ≤ c ∧ c ≤ 9223372036854775807 ∧ (r = .bs 0 0 k ins.length c ∧ bx' = [boxR k ins c] ∨ r = .bs 1 0 k ins.length c ∧ bx' = [List.replicate m .any, boxR k ins c])
section
variable {G : Globs}
theorem cloneI_fun (rows : List (List C)) (hk : ∀ r ∈ rows, r.length = 6) (hs : staysR rows) (hl : rows.length ≤ 100000) :
    FunX Try.prog G 20 [.sl 6 rows] [] 0 (cloneP 6 rows) := by
  refine FunX.bySlice (fun h => ?_) (fun h a cap hr => ?_)
  · refine FunX.of (fun i => if i = 1000000 + 22 then [true, true] else []) (by kernel_rfl) Try.func20 rfl rfl (Nat.le_of_ble_eq_true rfl) (by kernel_rfl) ?_; dsimp only [Try.f20, List.append_eq, List.cons_append, List.nil_append]
    simp -dsimp only [push_cast, Int.ofNat_eq_natCast, ↓reduceIte, Nat.reduceAdd, Nat.reduceMul, Nat.reduceSub, Nat.reduceLeDiff, Nat.reduceEqDiff, Nat.reduceBEq, Int.reduceToNat, Nat.reduceLT, Int.reduceEq, Int.reduceLT, Int.reduceLE, Int.reduceAdd, Int.reduceSub, Int.reduceMul, reduceCtorEq, Bool.not_false, Bool.not_true, Bool.true_beq, Bool.false_beq, beq_self_eq_true, Bool.true_and]
    refine ⟨h, appB2 lay22 lay30 rfl rfl (by decide) rfl (flat_len hk) rfl (Nat.le_refl _) (Nat.le_refl _) (by omega) (by omega) (fun hc => absurd hc ?_) (fun _ c hc hm => ?_)⟩
    · have := List.length_pos_iff.2 h; omega
    · simp -dsimp only [push_cast, Int.ofNat_eq_natCast, ↓reduceIte, Nat.reduceAdd, Nat.reduceMul, Nat.reduceSub, Nat.reduceLeDiff, Nat.reduceEqDiff, Nat.reduceBEq, Int.reduceToNat, Nat.reduceLT, Int.reduceEq, Int.reduceLT, Int.reduceLE, Int.reduceAdd, Int.reduceSub, Int.reduceMul, reduceCtorEq, Bool.not_false, Bool.not_true, Bool.true_beq, Bool.false_beq, beq_self_eq_true, Bool.true_and]
      rw [Nat.zero_add] at hc
      refine ⟨_, _, _, ⟨⟨rfl, .inl ⟨h, c, hc, hm, rfl, rfl⟩⟩, Nat.zero_le _⟩, [], rfl, rfl, ?_, by simp -dsimp only [WeakTm, WeakBx, CLe, CLeL, push_cast, Int.ofNat_eq_natCast, ↓reduceIte, Nat.reduceAdd, Nat.reduceMul, Nat.reduceSub, Nat.reduceLeDiff, Nat.reduceEqDiff, Nat.reduceBEq, Int.reduceToNat, Nat.reduceLT, Int.reduceEq, Int.reduceLT, Int.reduceLE, Int.reduceAdd, Int.reduceSub, Int.reduceMul, reduceCtorEq, Bool.not_false, Bool.not_true, Bool.true_beq, Bool.false_beq, beq_self_eq_true, Bool.true_and]⟩
      simp -dsimp only [WeakTm, WeakBx, CLe, CLeL, push_cast, Int.ofNat_eq_natCast, ↓reduceIte, Nat.reduceAdd, Nat.reduceMul, Nat.reduceSub, Nat.reduceLeDiff, Nat.reduceEqDiff, Nat.reduceBEq, Int.reduceToNat, Nat.reduceLT, Int.reduceEq, Int.reduceLT, Int.reduceLE, Int.reduceAdd, Int.reduceSub, Int.reduceMul, reduceCtorEq, Bool.not_false, Bool.not_true, Bool.true_beq, Bool.false_beq, beq_self_eq_true, Bool.true_and]
      exact stays_le (stays_box hs)
  · cases a with
    | none =>
      refine FunX.of (fun i => if i = 1000000 + 22 then [true, true] else []) (by kernel_rfl) Try.func20 rfl rfl (Nat.le_of_ble_eq_true rfl) (by kernel_rfl) ?_; dsimp only [Try.f20, List.append_eq, List.cons_append, List.nil_append]
      simp -dsimp only [push_cast, Int.ofNat_eq_natCast, ↓reduceIte, Nat.reduceAdd, Nat.reduceMul, Nat.reduceSub, Nat.reduceLeDiff, Nat.reduceEqDiff, Nat.reduceBEq, Int.reduceToNat, Nat.reduceLT, Int.reduceEq, Int.reduceLT, Int.reduceLE, Int.reduceAdd, Int.reduceSub, Int.reduceMul, reduceCtorEq, Bool.not_false, Bool.not_true, Bool.true_beq, Bool.false_beq, beq_self_eq_true, Bool.true_and, hr, Option.isNone_none]
      exact ⟨_, _, _, ⟨⟨rfl, .inr ⟨h, .inl ⟨rfl, rfl⟩⟩⟩, Nat.zero_le _⟩, [], rfl, rfl, by simp -dsimp only [WeakTm, WeakBx, CLe, CLeL, push_cast, Int.ofNat_eq_natCast, ↓reduceIte, Nat.reduceAdd, Nat.reduceMul, Nat.reduceSub, Nat.reduceLeDiff, Nat.reduceEqDiff, Nat.reduceBEq, Int.reduceToNat, Nat.reduceLT, Int.reduceEq, Int.reduceLT, Int.reduceLE, Int.reduceAdd, Int.reduceSub, Int.reduceMul, reduceCtorEq, Bool.not_false, Bool.not_true, Bool.true_beq, Bool.false_beq, beq_self_eq_true, Bool.true_and], by simp -dsimp only [WeakTm, WeakBx, CLe, CLeL, push_cast, Int.ofNat_eq_natCast, ↓reduceIte, Nat.reduceAdd, Nat.reduceMul, Nat.reduceSub, Nat.reduceLeDiff, Nat.reduceEqDiff, Nat.reduceBEq, Int.reduceToNat, Nat.reduceLT, Int.reduceEq, Int.reduceLT, Int.reduceLE, Int.reduceAdd, Int.reduceSub, Int.reduceMul, reduceCtorEq, Bool.not_false, Bool.not_true, Bool.true_beq, Bool.false_beq, beq_self_eq_true, Bool.true_and]⟩
    | some a =>
      refine FunX.of (fun i => if i = 1000000 + 22 then [true, true] else []) (by kernel_rfl) Try.func20 rfl rfl (Nat.le_of_ble_eq_true rfl) (by kernel_rfl) ?_; dsimp only [Try.f20, List.append_eq, List.cons_append, List.nil_append]
      simp -dsimp only [push_cast, Int.ofNat_eq_natCast, ↓reduceIte, Nat.reduceAdd, Nat.reduceMul, Nat.reduceSub, Nat.reduceLeDiff, Nat.reduceEqDiff, Nat.reduceBEq, Int.reduceToNat, Nat.reduceLT, Int.reduceEq, Int.reduceLT, Int.reduceLE, Int.reduceAdd, Int.reduceSub, Int.reduceMul, reduceCtorEq, Bool.not_false, Bool.not_true, Bool.true_beq, Bool.false_beq, beq_self_eq_true, Bool.true_and, hr, Option.isNone_some]
      have hx : C.xs? 6 [[]] (C.sc (.slice (some a) 0 cap)) = some (0, []) := by simp [C.xs?, hr]
      refine appB2 lay22 lay30 hx rfl (by decide) rfl rfl rfl (Nat.le_refl _) (Nat.le_refl _) (by omega) (by omega) (fun _ => ?_) (fun hc => absurd hc (by omega))
      simp -dsimp only [push_cast, Int.ofNat_eq_natCast, ↓reduceIte, Nat.reduceAdd, Nat.reduceMul, Nat.reduceSub, Nat.reduceLeDiff, Nat.reduceEqDiff, Nat.reduceBEq, Int.reduceToNat, Nat.reduceLT, Int.reduceEq, Int.reduceLT, Int.reduceLE, Int.reduceAdd, Int.reduceSub, Int.reduceMul, reduceCtorEq, Bool.not_false, Bool.not_true, Bool.true_beq, Bool.false_beq, beq_self_eq_true, Bool.true_and]
      exact ⟨_, _, _, ⟨⟨rfl, .inr ⟨h, .inr ⟨rfl, rfl⟩⟩⟩, Nat.zero_le _⟩, [], rfl, rfl, by (simp -dsimp only [WeakTm, WeakBx, CLe, CLeL, push_cast, Int.ofNat_eq_natCast, ↓reduceIte, Nat.reduceAdd, Nat.reduceMul, Nat.reduceSub, Nat.reduceLeDiff, Nat.reduceEqDiff, Nat.reduceBEq, Int.reduceToNat, Nat.reduceLT, Int.reduceEq, Int.reduceLT, Int.reduceLE, Int.reduceAdd, Int.reduceSub, Int.reduceMul, reduceCtorEq, Bool.not_false, Bool.not_true, Bool.true_beq, Bool.false_beq, beq_self_eq_true, Bool.true_and]; simp [spl, CLeL]), by simp -dsimp only [WeakTm, WeakBx, CLe, CLeL, push_cast, Int.ofNat_eq_natCast, ↓reduceIte, Nat.reduceAdd, Nat.reduceMul, Nat.reduceSub, Nat.reduceLeDiff, Nat.reduceEqDiff, Nat.reduceBEq, Int.reduceToNat, Nat.reduceLT, Int.reduceEq, Int.reduceLT, Int.reduceLE, Int.reduceAdd, Int.reduceSub, Int.reduceMul, reduceCtorEq, Bool.not_false, Bool.not_true, Bool.true_beq, Bool.false_beq, beq_self_eq_true, Bool.true_and]⟩
theorem insI_fun (rows : List (List C)) (x : List C) (i c e : Nat) (hk : ∀ r ∈ rows, r.length = 6) (hx : x.length = 6) (hs : staysR rows) (hsx : (x.all C.stayB) = true) (hl : rows.length ≤ 100000) (hi : i ≤ rows.length) (hc : rows.length ≤ c) (hcm : c ≤ 9223372036854775807) :
    FunX Try.prog G 21 [.bs 0 0 6 rows.length c, .sc (.int .i64 i), .own 0 e 6 [x]] [boxR 6 rows c] 1 (insP 6 (c * 6) (rows.take i ++ x :: rows.drop i)) := by
  refine FunX.of (fun j => if j = 1000000 + 22 then [true, true] else if j = 11 then [false, false, false, false, false, false, false, false, true] else if j = 15 then [false, false, false, false, false, false, false, false, true] else []) (by kernel_rfl) Try.func21 rfl rfl (Nat.le_of_ble_eq_true rfl) (by kernel_rfl) ?_; dsimp only [Try.f21, List.append_eq, List.cons_append, List.nil_append]
  simp -dsimp only [push_cast, Int.ofNat_eq_natCast, ↓reduceIte, Nat.reduceAdd, Nat.reduceMul, Nat.reduceSub, Nat.reduceLeDiff, Nat.reduceEqDiff, Nat.reduceBEq, Int.reduceToNat, Nat.reduceLT, Int.reduceEq, Int.reduceLT, Int.reduceLE, Int.reduceAdd, Int.reduceSub, Int.reduceMul, reduceCtorEq, Bool.not_false, Bool.not_true, Bool.true_beq, Bool.false_beq, beq_self_eq_true, Bool.true_and]
  have hlen : (rows.take i ++ x :: rows.drop i).length = rows.length + 1 := by simp; omega
  have hki : ∀ r ∈ rows.take i ++ x :: rows.drop i, r.length = 6 := fun r hr => by
    rcases List.mem_append.1 hr with hr | hr
    · exact hk r (List.mem_of_mem_take hr)
    · rcases List.mem_cons.1 hr with rfl | hr
      · exact hx
      · exact hk r (List.mem_of_mem_drop hr)
  have hsi : staysR (rows.take i ++ x :: rows.drop i) := fun r hr => by
    rcases List.mem_append.1 hr with hr | hr
    · exact hs r (List.mem_of_mem_take hr)
    · rcases List.mem_cons.1 hr with rfl | hr
      · exact hsx
      · exact hs r (List.mem_of_mem_drop hr)
  have hbl := boxR_len hk hc
  have hfl := flat_len hk
  have hxl : [x].flatten.length = 1 * 6 := by simp [hx]
  have hpre : (boxR 6 rows c).take rows.flatten.length = rows.flatten := by unfold boxR; rw [List.take_left]
  refine ⟨hc, ⟨by omega, hi⟩, br (fun h => ?_) (fun h => ?_)⟩
  · simp -dsimp only [push_cast, Int.ofNat_eq_natCast, ↓reduceIte, Nat.reduceAdd, Nat.reduceMul, Nat.reduceSub, Nat.reduceLeDiff, Nat.reduceEqDiff, Nat.reduceBEq, Int.reduceToNat, Nat.reduceLT, Int.reduceEq, Int.reduceLT, Int.reduceLE, Int.reduceAdd, Int.reduceSub, Int.reduceMul, reduceCtorEq, Bool.not_false, Bool.not_true, Bool.true_beq, Bool.false_beq, beq_self_eq_true, Bool.true_and]
    refine appB2 lay22 lay30 rfl rfl (by decide) rfl hxl rfl (by rw [hbl]; omega) hc (by simp; omega) (by simp; omega) (fun h1 => ?_) (fun h1 c' h2 h3 => ?_)
    · simp -dsimp only [push_cast, Int.ofNat_eq_natCast, ↓reduceIte, Nat.reduceAdd, Nat.reduceMul, Nat.reduceSub, Nat.reduceLeDiff, Nat.reduceEqDiff, Nat.reduceBEq, Int.reduceToNat, Nat.reduceLT, Int.reduceEq, Int.reduceLT, Int.reduceLE, Int.reduceAdd, Int.reduceSub, Int.reduceMul, reduceCtorEq, Bool.not_false, Bool.not_true, Bool.true_beq, Bool.false_beq, beq_self_eq_true, Bool.true_and]
      have hi' : i = rows.length := of_decide_eq_true h
      refine ⟨_, _, _, ⟨⟨rfl, c, by rw [hlen]; exact h1, hcm, .inl ⟨rfl, rfl⟩⟩, Nat.le_refl _⟩, [], rfl, rfl, ?_, by simp -dsimp only [WeakTm, WeakBx, CLe, CLeL, push_cast, Int.ofNat_eq_natCast, ↓reduceIte, Nat.reduceAdd, Nat.reduceMul, Nat.reduceSub, Nat.reduceLeDiff, Nat.reduceEqDiff, Nat.reduceBEq, Int.reduceToNat, Nat.reduceLT, Int.reduceEq, Int.reduceLT, Int.reduceLE, Int.reduceAdd, Int.reduceSub, Int.reduceMul, reduceCtorEq, Bool.not_false, Bool.not_true, Bool.true_beq, Bool.false_beq, beq_self_eq_true, Bool.true_and, hlen]⟩
      simp -dsimp only [WeakTm, WeakBx, CLe, CLeL, push_cast, Int.ofNat_eq_natCast, ↓reduceIte, Nat.reduceAdd, Nat.reduceMul, Nat.reduceSub, Nat.reduceLeDiff, Nat.reduceEqDiff, Nat.reduceBEq, Int.reduceToNat, Nat.reduceLT, Int.reduceEq, Int.reduceLT, Int.reduceLE, Int.reduceAdd, Int.reduceSub, Int.reduceMul, reduceCtorEq, Bool.not_false, Bool.not_true, Bool.true_beq, Bool.false_beq, beq_self_eq_true, Bool.true_and]
      have h6 : rows.length * 6 + 6 ≤ c * 6 := by have : rows.length + 1 ≤ c := h1; omega
      refine le_boxR hki hsi (by rw [hlen]; exact h1) (by rw [spl_len (by rw [hbl, hx]; exact h6), hbl]) ?_
      rw [hlen, hi', List.take_length, List.drop_length]
      unfold spl
      rw [← hfl, hpre, List.take_left' (by simp [hx, hfl]; omega)]
      simp
    · simp -dsimp only [push_cast, Int.ofNat_eq_natCast, ↓reduceIte, Nat.reduceAdd, Nat.reduceMul, Nat.reduceSub, Nat.reduceLeDiff, Nat.reduceEqDiff, Nat.reduceBEq, Int.reduceToNat, Nat.reduceLT, Int.reduceEq, Int.reduceLT, Int.reduceLE, Int.reduceAdd, Int.reduceSub, Int.reduceMul, reduceCtorEq, Bool.not_false, Bool.not_true, Bool.true_beq, Bool.false_beq, beq_self_eq_true, Bool.true_and]
      have hi' : i = rows.length := of_decide_eq_true h
      have h2' : rows.length + 1 ≤ c' := h2
      refine ⟨_, _, _, ⟨⟨rfl, c', by rw [hlen]; exact h2, h3, .inr ⟨rfl, rfl⟩⟩, Nat.le_of_ble_eq_true rfl⟩, [], rfl, rfl, ?_, by simp -dsimp only [WeakTm, WeakBx, CLe, CLeL, push_cast, Int.ofNat_eq_natCast, ↓reduceIte, Nat.reduceAdd, Nat.reduceMul, Nat.reduceSub, Nat.reduceLeDiff, Nat.reduceEqDiff, Nat.reduceBEq, Int.reduceToNat, Nat.reduceLT, Int.reduceEq, Int.reduceLT, Int.reduceLE, Int.reduceAdd, Int.reduceSub, Int.reduceMul, reduceCtorEq, Bool.not_false, Bool.not_true, Bool.true_beq, Bool.false_beq, beq_self_eq_true, Bool.true_and, hlen]⟩
      simp -dsimp only [WeakTm, WeakBx, CLe, CLeL, push_cast, Int.ofNat_eq_natCast, ↓reduceIte, Nat.reduceAdd, Nat.reduceMul, Nat.reduceSub, Nat.reduceLeDiff, Nat.reduceEqDiff, Nat.reduceBEq, Int.reduceToNat, Nat.reduceLT, Int.reduceEq, Int.reduceLT, Int.reduceLE, Int.reduceAdd, Int.reduceSub, Int.reduceMul, reduceCtorEq, Bool.not_false, Bool.not_true, Bool.true_beq, Bool.false_beq, beq_self_eq_true, Bool.true_and]
      refine ⟨le_anys hbl, le_boxR hki hsi (by rw [hlen]; exact h2) (by simp [hx, hbl]; omega) ?_⟩
      rw [hlen, hi', List.take_length, List.drop_length, ← hfl, hpre, List.take_left' (by simp [hx, hfl]; omega)]
      simp
  · have hne : i ≠ rows.length := of_decide_eq_false h
    simp -dsimp only [push_cast, Int.ofNat_eq_natCast, ↓reduceIte, Nat.reduceAdd, Nat.reduceMul, Nat.reduceSub, Nat.reduceLeDiff, Nat.reduceEqDiff, Nat.reduceBEq, Int.reduceToNat, Nat.reduceLT, Int.reduceEq, Int.reduceLT, Int.reduceLE, Int.reduceAdd, Int.reduceSub, Int.reduceMul, reduceCtorEq, Bool.not_false, Bool.not_true, Bool.true_beq, Bool.false_beq, beq_self_eq_true, Bool.true_and]
    refine ⟨⟨by omega, by omega⟩, br (fun h1 => ?_) (fun h1 => ?_)⟩
    · have h1' : (c : Int) < (rows.length : Int) + 1 := of_decide_eq_true h1
      simp -dsimp only [push_cast, Int.ofNat_eq_natCast, ↓reduceIte, Nat.reduceAdd, Nat.reduceMul, Nat.reduceSub, Nat.reduceLeDiff, Nat.reduceEqDiff, Nat.reduceBEq, Int.reduceToNat, Nat.reduceLT, Int.reduceEq, Int.reduceLT, Int.reduceLE, Int.reduceAdd, Int.reduceSub, Int.reduceMul, reduceCtorEq, Bool.not_false, Bool.not_true, Bool.true_beq, Bool.false_beq, beq_self_eq_true, Bool.true_and]
      (try simp only [List.length_append, List.length_cons, List.length_nil, List.length_map, List.length_take, List.length_drop]); repeat (refine And.intro (by omega) ?_)
      refine appZ' lay22 lay3 lay30 rfl (by decide) rfl rfl (by rw [hbl]; omega) (by omega) (by omega) (by omega) (by omega) (by omega) (fun c' B h2 h3 hBl hBt => ?_)
      have e1 : ((rows.length : Int) + 1 - (i : Int)).toNat = rows.length + 1 - i := by omega
      rw [e1] at h2 ⊢
      have e2 : i + (rows.length + 1 - i) = rows.length + 1 := by omega
      rw [e2] at h2 ⊢
      simp -dsimp only [push_cast, Int.ofNat_eq_natCast, ↓reduceIte, Nat.reduceAdd, Nat.reduceMul, Nat.reduceSub, Nat.reduceLeDiff, Nat.reduceEqDiff, Nat.reduceBEq, Int.reduceToNat, Nat.reduceLT, Int.reduceEq, Int.reduceLT, Int.reduceLE, Int.reduceAdd, Int.reduceSub, Int.reduceMul, reduceCtorEq, Bool.not_false, Bool.not_true, Bool.true_beq, Bool.false_beq, beq_self_eq_true, Bool.true_and]
      (try simp only [List.length_append, List.length_cons, List.length_nil, List.length_map, List.length_take, List.length_drop]); repeat (refine And.intro (by omega) ?_)
      refine copyB' lay22 lay30 rfl rfl hxl (by rw [hBl]; omega) (fun B1 hB1 hl1 => ?_)
      rw [hBl] at hl1
      simp -dsimp only [push_cast, Int.ofNat_eq_natCast, ↓reduceIte, Nat.reduceAdd, Nat.reduceMul, Nat.reduceSub, Nat.reduceLeDiff, Nat.reduceEqDiff, Nat.reduceBEq, Int.reduceToNat, Nat.reduceLT, Int.reduceEq, Int.reduceLT, Int.reduceLE, Int.reduceAdd, Int.reduceSub, Int.reduceMul, reduceCtorEq, Bool.not_false, Bool.not_true, Bool.true_beq, Bool.false_beq, beq_self_eq_true, Bool.true_and]
      (try simp only [List.length_append, List.length_cons, List.length_nil, List.length_map, List.length_take, List.length_drop]); repeat (refine And.intro (by omega) ?_)
      have hbp := box_part (c := c) hk hi
      refine copyB' lay22 lay30 (xs_box rfl (by rw [hbl]; omega)) rfl (by rw [hbp, List.length_drop, hfl]; omega) (by rw [hl1]; omega) (fun B2 hB2 hl2 => ?_)
      rw [hl1] at hl2
      have hX : [x].flatten.take (min [x].length (rows.length + 1 - i) * 6) = x := by
        rw [List.length_singleton, Nat.min_eq_left (by omega), List.take_of_length_le (by omega)]; simp
      rw [hX] at hB1
      rw [hbp, show min (rows.length - i) (rows.length + 1 - (i + 1)) * 6 = (rows.length - i) * 6 by omega, List.take_of_length_le (by rw [List.length_drop, hfl]; omega), hB1] at hB2
      simp -dsimp only [push_cast, Int.ofNat_eq_natCast, ↓reduceIte, Nat.reduceAdd, Nat.reduceMul, Nat.reduceSub, Nat.reduceLeDiff, Nat.reduceEqDiff, Nat.reduceBEq, Int.reduceToNat, Nat.reduceLT, Int.reduceEq, Int.reduceLT, Int.reduceLE, Int.reduceAdd, Int.reduceSub, Int.reduceMul, reduceCtorEq, Bool.not_false, Bool.not_true, Bool.true_beq, Bool.false_beq, beq_self_eq_true, Bool.true_and]
      refine ⟨_, _, _, ⟨⟨rfl, c', by rw [hlen]; exact h2, h3, .inr ⟨rfl, rfl⟩⟩, Nat.le_of_ble_eq_true rfl⟩, [], rfl, rfl, ?_, by simp -dsimp only [WeakTm, WeakBx, CLe, CLeL, push_cast, Int.ofNat_eq_natCast, ↓reduceIte, Nat.reduceAdd, Nat.reduceMul, Nat.reduceSub, Nat.reduceLeDiff, Nat.reduceEqDiff, Nat.reduceBEq, Int.reduceToNat, Nat.reduceLT, Int.reduceEq, Int.reduceLT, Int.reduceLE, Int.reduceAdd, Int.reduceSub, Int.reduceMul, reduceCtorEq, Bool.not_false, Bool.not_true, Bool.true_beq, Bool.false_beq, beq_self_eq_true, Bool.true_and, hlen]⟩
      simp -dsimp only [WeakTm, WeakBx, CLe, CLeL, push_cast, Int.ofNat_eq_natCast, ↓reduceIte, Nat.reduceAdd, Nat.reduceMul, Nat.reduceSub, Nat.reduceLeDiff, Nat.reduceEqDiff, Nat.reduceBEq, Int.reduceToNat, Nat.reduceLT, Int.reduceEq, Int.reduceLT, Int.reduceLE, Int.reduceAdd, Int.reduceSub, Int.reduceMul, reduceCtorEq, Bool.not_false, Bool.not_true, Bool.true_beq, Bool.false_beq, beq_self_eq_true, Bool.true_and]
      refine ⟨le_anys hbl, le_boxR hki hsi (by rw [hlen]; exact h2) hl2 ?_⟩
      rw [hlen, ← ins_flat hk, hB2]
      have hg := spl_grow (cs := B) (L := rows.flatten) (X := x) (p := i * 6) (q := (i + 1) * 6) (by omega) (by omega) (by
        rw [hBt, List.drop_zero]; unfold boxR; rw [List.take_append_of_le_length (by omega)]) (by omega)
      rw [hfl, hx] at hg
      rw [← hg]
      congr 1; omega
    · have h1' : ¬ (c : Int) < (rows.length : Int) + 1 := of_decide_eq_false h1
      simp -dsimp only [push_cast, Int.ofNat_eq_natCast, ↓reduceIte, Nat.reduceAdd, Nat.reduceMul, Nat.reduceSub, Nat.reduceLeDiff, Nat.reduceEqDiff, Nat.reduceBEq, Int.reduceToNat, Nat.reduceLT, Int.reduceEq, Int.reduceLT, Int.reduceLE, Int.reduceAdd, Int.reduceSub, Int.reduceMul, reduceCtorEq, Bool.not_false, Bool.not_true, Bool.true_beq, Bool.false_beq, beq_self_eq_true, Bool.true_and]
      (try simp only [List.length_append, List.length_cons, List.length_nil, List.length_map, List.length_take, List.length_drop]); repeat (refine And.intro (by omega) ?_)
      refine callO (ovl_ext (P := Try.prog) (tR := 4) Try.func30 (by kernel_rfl) (by kernel_rfl) (by kernel_rfl) (by kernel_rfl) lay22 lay30 rfl (List.ne_nil_of_length_pos (by rw [hbl]; omega)) (by simp) (by omega)) ?_
      simp -dsimp only [push_cast, Int.ofNat_eq_natCast, ↓reduceIte, Nat.reduceAdd, Nat.reduceMul, Nat.reduceSub, Nat.reduceLeDiff, Nat.reduceEqDiff, Nat.reduceBEq, Int.reduceToNat, Nat.reduceLT, Int.reduceEq, Int.reduceLT, Int.reduceLE, Int.reduceAdd, Int.reduceSub, Int.reduceMul, reduceCtorEq, Bool.not_false, Bool.not_true, Bool.true_beq, Bool.false_beq, beq_self_eq_true, Bool.true_and]
      (try simp only [List.length_append, List.length_cons, List.length_nil, List.length_map, List.length_take, List.length_drop]); repeat (refine And.intro (by omega) ?_)
      have hbp := box_part (c := c) hk hi
      refine copyB' lay22 lay30 (xs_box rfl (by rw [hbl]; omega)) rfl (by simp [hbl]; omega) (by rw [hbl]; omega) (fun B1 hB1 hl1 => ?_)
      rw [hbl] at hl1
      rw [List.take_take, Nat.min_eq_left (by omega), show min (rows.length + 1 - i) (rows.length + 1 - (i + 1)) * 6 = (rows.length - i) * 6 by omega, hbp] at hB1
      simp -dsimp only [push_cast, Int.ofNat_eq_natCast, ↓reduceIte, Nat.reduceAdd, Nat.reduceMul, Nat.reduceSub, Nat.reduceLeDiff, Nat.reduceEqDiff, Nat.reduceBEq, Int.reduceToNat, Nat.reduceLT, Int.reduceEq, Int.reduceLT, Int.reduceLE, Int.reduceAdd, Int.reduceSub, Int.reduceMul, reduceCtorEq, Bool.not_false, Bool.not_true, Bool.true_beq, Bool.false_beq, beq_self_eq_true, Bool.true_and]
      (try simp only [List.length_append, List.length_cons, List.length_nil, List.length_map, List.length_take, List.length_drop]); repeat (refine And.intro (by omega) ?_)
      refine copyB' lay22 lay30 rfl rfl hxl (by rw [hl1]; omega) (fun B2 hB2 hl2 => ?_)
      rw [hl1] at hl2
      have hX : [x].flatten.take (min [x].length (rows.length + 1 - i) * 6) = x := by
        rw [List.length_singleton, Nat.min_eq_left (by omega), List.take_of_length_le (by omega)]; simp
      rw [hX, hB1] at hB2
      simp -dsimp only [push_cast, Int.ofNat_eq_natCast, ↓reduceIte, Nat.reduceAdd, Nat.reduceMul, Nat.reduceSub, Nat.reduceLeDiff, Nat.reduceEqDiff, Nat.reduceBEq, Int.reduceToNat, Nat.reduceLT, Int.reduceEq, Int.reduceLT, Int.reduceLE, Int.reduceAdd, Int.reduceSub, Int.reduceMul, reduceCtorEq, Bool.not_false, Bool.not_true, Bool.true_beq, Bool.false_beq, beq_self_eq_true, Bool.true_and]
      have hcc : rows.length + 1 ≤ c := by omega
      refine ⟨_, _, _, ⟨⟨rfl, c, by rw [hlen]; exact hcc, hcm, .inl ⟨rfl, rfl⟩⟩, Nat.le_of_ble_eq_true rfl⟩, [], rfl, rfl, ?_, by simp -dsimp only [WeakTm, WeakBx, CLe, CLeL, push_cast, Int.ofNat_eq_natCast, ↓reduceIte, Nat.reduceAdd, Nat.reduceMul, Nat.reduceSub, Nat.reduceLeDiff, Nat.reduceEqDiff, Nat.reduceBEq, Int.reduceToNat, Nat.reduceLT, Int.reduceEq, Int.reduceLT, Int.reduceLE, Int.reduceAdd, Int.reduceSub, Int.reduceMul, reduceCtorEq, Bool.not_false, Bool.not_true, Bool.true_beq, Bool.false_beq, beq_self_eq_true, Bool.true_and, hlen]⟩
      simp -dsimp only [WeakTm, WeakBx, CLe, CLeL, push_cast, Int.ofNat_eq_natCast, ↓reduceIte, Nat.reduceAdd, Nat.reduceMul, Nat.reduceSub, Nat.reduceLeDiff, Nat.reduceEqDiff, Nat.reduceBEq, Int.reduceToNat, Nat.reduceLT, Int.reduceEq, Int.reduceLT, Int.reduceLE, Int.reduceAdd, Int.reduceSub, Int.reduceMul, reduceCtorEq, Bool.not_false, Bool.not_true, Bool.true_beq, Bool.false_beq, beq_self_eq_true, Bool.true_and]
      refine le_boxR hki hsi (by rw [hlen]; exact hcc) hl2 ?_
      rw [hlen, ← ins_flat hk, hB2]
      have hg := spl_shift (cs := boxR 6 rows c) (L := rows.flatten) (X := x) (p := i * 6) (q := (i + 1) * 6) (by omega) (by omega) hpre (by omega)
      rw [hfl, hx] at hg
      rw [← hg]
      congr 1; omega
theorem insI_nil {e : Nat} (x : List C) (hx : x.length = 6) (hsx : (x.all C.stayB) = true) :
    FunX Try.prog G 21 [.sc (.slice none 0 0), .sc (.int .i64 0), .own 0 e 6 [x]] [] 1 (fun r bx' n => n = 0 ∧ ∃ c, 1 ≤ c ∧ c ≤ 9223372036854775807 ∧ r = .bs 0 0 6 1 c ∧ bx' = [boxR 6 [x] c]) := by
  refine FunX.of (fun j => if j = 1000000 + 22 then [true, true] else if j = 11 then [false, false, false, false, false, false, false, false, true] else if j = 15 then [false, false, false, false, false, false, false, false, true] else []) (by kernel_rfl) Try.func21 rfl rfl (Nat.le_of_ble_eq_true rfl) (by kernel_rfl) ?_; dsimp only [Try.f21, List.append_eq, List.cons_append, List.nil_append]
  simp -dsimp only [push_cast, Int.ofNat_eq_natCast, ↓reduceIte, Nat.reduceAdd, Nat.reduceMul, Nat.reduceSub, Nat.reduceLeDiff, Nat.reduceEqDiff, Nat.reduceBEq, Int.reduceToNat, Nat.reduceLT, Int.reduceEq, Int.reduceLT, Int.reduceLE, Int.reduceAdd, Int.reduceSub, Int.reduceMul, reduceCtorEq, Bool.not_false, Bool.not_true, Bool.true_beq, Bool.false_beq, beq_self_eq_true, Bool.true_and]
  refine appB2nil lay22 lay30 rfl rfl (by decide) rfl (by simp [hx]) (by simp) (by simp) (by simp) (fun c h1 h2 => ?_)
  simp -dsimp only [push_cast, Int.ofNat_eq_natCast, ↓reduceIte, Nat.reduceAdd, Nat.reduceMul, Nat.reduceSub, Nat.reduceLeDiff, Nat.reduceEqDiff, Nat.reduceBEq, Int.reduceToNat, Nat.reduceLT, Int.reduceEq, Int.reduceLT, Int.reduceLE, Int.reduceAdd, Int.reduceSub, Int.reduceMul, reduceCtorEq, Bool.not_false, Bool.not_true, Bool.true_beq, Bool.false_beq, beq_self_eq_true, Bool.true_and]
  refine ⟨_, _, _, ⟨⟨rfl, c, h1, h2, rfl, rfl⟩, Nat.zero_le _⟩, [], rfl, rfl, ?_, by simp -dsimp only [WeakTm, WeakBx, CLe, CLeL, push_cast, Int.ofNat_eq_natCast, ↓reduceIte, Nat.reduceAdd, Nat.reduceMul, Nat.reduceSub, Nat.reduceLeDiff, Nat.reduceEqDiff, Nat.reduceBEq, Int.reduceToNat, Nat.reduceLT, Int.reduceEq, Int.reduceLT, Int.reduceLE, Int.reduceAdd, Int.reduceSub, Int.reduceMul, reduceCtorEq, Bool.not_false, Bool.not_true, Bool.true_beq, Bool.false_beq, beq_self_eq_true, Bool.true_and]⟩
  simp -dsimp only [WeakTm, WeakBx, CLe, CLeL, push_cast, Int.ofNat_eq_natCast, ↓reduceIte, Nat.reduceAdd, Nat.reduceMul, Nat.reduceSub, Nat.reduceLeDiff, Nat.reduceEqDiff, Nat.reduceBEq, Int.reduceToNat, Nat.reduceLT, Int.reduceEq, Int.reduceLT, Int.reduceLE, Int.reduceAdd, Int.reduceSub, Int.reduceMul, reduceCtorEq, Bool.not_false, Bool.not_true, Bool.true_beq, Bool.false_beq, beq_self_eq_true, Bool.true_and]
  have := stays_le (src := []) (n := 1) (stays_box (k := 6) (c := c) (rows := [x]) fun r hr => by
    rw [List.mem_singleton.1 hr]; exact hsx)
  unfold boxR at this ⊢
  simpa using this
theorem delI_fun (rows : List (List C)) (i c : Nat) (hk : ∀ r ∈ rows, r.length = 6) (hs : staysR rows) (hl : rows.length ≤ 100000) (hi : i < rows.length) (hc : rows.length ≤ c) (hcm : c ≤ 9223372036854775807) :
    FunB Try.prog G 22 [.bs 0 0 6 rows.length c, .sc (.int .i64 i), .sc (.int .i64 ((i : Int) + 1))] [boxR 6 rows c] 0 (.bs 0 0 6 (rows.length - 1) c) [boxR 6 (rows.take i ++ rows.drop (i + 1)) c] 0 := by
  refine FunB.of (fun j => if j = 1000000 + 22 then [true, true] else if j = 5 then [false, false, false, false, false, false, true, false] else []) (by kernel_rfl) Try.func22 rfl rfl (Nat.le_of_ble_eq_true rfl) (by kernel_rfl) (Nat.le_of_ble_eq_true rfl) ?_; dsimp only [Try.f22, List.append_eq, List.cons_append, List.nil_append]
  have h1 : ((i : Int) = (i : Int) + 1) = False := eq_false (by omega)
  have hbl := boxR_len hk hc
  have hfl := flat_len hk
  have hpre : (boxR 6 rows c).take rows.flatten.length = rows.flatten := by unfold boxR; rw [List.take_left]
  have hlen : (rows.take i ++ rows.drop (i + 1)).length = rows.length - 1 := by simp; omega
  have hki : ∀ r ∈ rows.take i ++ rows.drop (i + 1), r.length = 6 := fun r hr => by
    rcases List.mem_append.1 hr with hr | hr
    · exact hk r (List.mem_of_mem_take hr)
    · exact hk r (List.mem_of_mem_drop hr)
  have hsi : staysR (rows.take i ++ rows.drop (i + 1)) := fun r hr => by
    rcases List.mem_append.1 hr with hr | hr
    · exact hs r (List.mem_of_mem_take hr)
    · exact hs r (List.mem_of_mem_drop hr)
  have hbp := box_part (c := c) (i := i + 1) hk hi
  simp -dsimp only [push_cast, Int.ofNat_eq_natCast, ↓reduceIte, Nat.reduceAdd, Nat.reduceMul, Nat.reduceSub, Nat.reduceLeDiff, Nat.reduceEqDiff, Nat.reduceBEq, Int.reduceToNat, Nat.reduceLT, Int.reduceEq, Int.reduceLT, Int.reduceLE, Int.reduceAdd, Int.reduceSub, Int.reduceMul, reduceCtorEq, Bool.not_false, Bool.not_true, Bool.true_beq, Bool.false_beq, beq_self_eq_true, Bool.true_and, h1]
  (try simp only [List.length_append, List.length_cons, List.length_nil, List.length_map, List.length_take, List.length_drop]); repeat (refine And.intro (by omega) ?_)
  have hxl : (List.drop ((i + 1) * 6) rows.flatten).length = (rows.length - (i + 1)) * 6 := by rw [List.length_drop, hfl]; omega
  refine appB2 lay22 lay30 (xs_box rfl (by rw [hbl]; omega)) rfl (by decide) rfl (by rw [hbp, hxl]) rfl (by rw [hbl]; omega) (by omega) (by omega) (by omega) (fun _ => ?_) (fun h => absurd h (by omega))
  rw [hbp]
  have e1 : i + (rows.length - (i + 1)) = rows.length - 1 := by omega
  rw [e1]
  generalize hB1 : spl (boxR 6 rows c) (0 + i * 6) (List.drop ((i + 1) * 6) rows.flatten) = B1
  have hl1 : B1.length = c * 6 := by rw [← hB1, spl_len (by rw [hbl, hxl]; omega), hbl]
  simp -dsimp only [push_cast, Int.ofNat_eq_natCast, ↓reduceIte, Nat.reduceAdd, Nat.reduceMul, Nat.reduceSub, Nat.reduceLeDiff, Nat.reduceEqDiff, Nat.reduceBEq, Int.reduceToNat, Nat.reduceLT, Int.reduceEq, Int.reduceLT, Int.reduceLE, Int.reduceAdd, Int.reduceSub, Int.reduceMul, reduceCtorEq, Bool.not_false, Bool.not_true, Bool.true_beq, Bool.false_beq, beq_self_eq_true, Bool.true_and]
  (try simp only [List.length_append, List.length_cons, List.length_nil, List.length_map, List.length_take, List.length_drop]); repeat (refine And.intro (by omega) ?_)
  refine clearB' lay22 lay30 rfl rfl (by decide) rfl (by rw [hl1]; omega) (fun B2 Z hB2 hZ hl2 => ?_)
  rw [hl1] at hl2
  simp -dsimp only [push_cast, Int.ofNat_eq_natCast, ↓reduceIte, Nat.reduceAdd, Nat.reduceMul, Nat.reduceSub, Nat.reduceLeDiff, Nat.reduceEqDiff, Nat.reduceBEq, Int.reduceToNat, Nat.reduceLT, Int.reduceEq, Int.reduceLT, Int.reduceLE, Int.reduceAdd, Int.reduceSub, Int.reduceMul, reduceCtorEq, Bool.not_false, Bool.not_true, Bool.true_beq, Bool.false_beq, beq_self_eq_true, Bool.true_and]
  refine ⟨[], rfl, rfl, ?_, by simp -dsimp only [WeakTm, WeakBx, CLe, CLeL, push_cast, Int.ofNat_eq_natCast, ↓reduceIte, Nat.reduceAdd, Nat.reduceMul, Nat.reduceSub, Nat.reduceLeDiff, Nat.reduceEqDiff, Nat.reduceBEq, Int.reduceToNat, Nat.reduceLT, Int.reduceEq, Int.reduceLT, Int.reduceLE, Int.reduceAdd, Int.reduceSub, Int.reduceMul, reduceCtorEq, Bool.not_false, Bool.not_true, Bool.true_beq, Bool.false_beq, beq_self_eq_true, Bool.true_and]⟩
  simp -dsimp only [WeakTm, WeakBx, CLe, CLeL, push_cast, Int.ofNat_eq_natCast, ↓reduceIte, Nat.reduceAdd, Nat.reduceMul, Nat.reduceSub, Nat.reduceLeDiff, Nat.reduceEqDiff, Nat.reduceBEq, Int.reduceToNat, Nat.reduceLT, Int.reduceEq, Int.reduceLT, Int.reduceLE, Int.reduceAdd, Int.reduceSub, Int.reduceMul, reduceCtorEq, Bool.not_false, Bool.not_true, Bool.true_beq, Bool.false_beq, beq_self_eq_true, Bool.true_and]
  refine le_boxR hki hsi (by rw [hlen]; omega) hl2 ?_
  have hg := spl_cut (cs := boxR 6 rows c) (L := rows.flatten) (Z := Z) (p := i * 6) (q := (i + 1) * 6) (n := (rows.length - 1) * 6) (by omega) (by omega) hpre (by omega) (by omega) (by rw [hZ]; omega)
  rw [hlen, hB2, ← hB1, List.flatten_append, ← take_flat hk, ← drop_flat hk, ← hg, Nat.zero_add]
end
end Go.Proofs.Ytheokoehnmlafaa.Vcg
