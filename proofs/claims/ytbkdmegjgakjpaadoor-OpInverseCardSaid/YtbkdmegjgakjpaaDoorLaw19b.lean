/- Layer 19's law OpInverse, walked: it answers true. No condition. -/
import Derived.Test.YtbkdmegjgakjpaaDoorLaw19
set_option linter.unusedVariables false
set_option linter.unusedSimpArgs false
namespace Go.Proofs.YtbkdmegjgakjpaaDoor.Vcg
open Go.RowKit
theorem runB_drop (w : Int) : ∀ (l r : List Int), runB w (l ++ r) = true → runB w r = true
  | [], r, h => h
  | [a], [], h => rfl
  | [a], b :: r, h => by
    simp only [List.cons_append, List.nil_append, runB, Bool.and_eq_true] at h
    exact h.2
  | a :: b :: l, r, h => by
    simp only [List.cons_append, runB, Bool.and_eq_true] at h
    exact runB_drop w (b :: l) r h.2
theorem any_drop {f : OpV → Bool} {l : List OpV} (k : Nat) (h : l.any f = false) : (l.drop k).any f = false := List.any_eq_false.2 fun x hx => List.any_eq_false.1 h x (List.mem_of_mem_drop hx)
theorem planB_drop {l : List OpV} (k : Nat) (h : planB l = true) : planB (l.drop k) = true := by
  simp only [planB, Bool.and_eq_true, Bool.not_eq_true'] at h ⊢
  refine ⟨any_drop k h.1, runB_drop 1 (slotsV (l.take k)) _ ?_⟩
  rw [← slotsV_append, List.take_append_drop]; exact h.2
theorem undoB_drop {l : List OpV} (k : Nat) (h : undoB l = true) : undoB (l.drop k) = true := by
  simp only [undoB, Bool.and_eq_true, Bool.not_eq_true'] at h ⊢
  refine ⟨any_drop k h.1, runB_drop (-1) (slotsV (l.take k)) _ ?_⟩
  rw [← slotsV_append, List.take_append_drop]; exact h.2
/-- numbers that go one way: none stands twice -/
theorem runB_apart {w : Int} (hw : w = 1 ∨ w = -1) : ∀ (l : List Int) (n : Int), runB w (l ++ [n]) = true → (w = 1 → ∀ m ∈ l, m < n) ∧ (w = -1 → ∀ m ∈ l, n < m)
  | [], n, _ => ⟨fun _ m h => (by cases h), fun _ m h => (by cases h)⟩
  | [a], n, h => by
    simp only [List.cons_append, List.nil_append, runB, Bool.and_true, decide_eq_true_eq] at h
    refine ⟨fun e m hm => ?_, fun e m hm => ?_⟩
    · obtain rfl := List.mem_singleton.1 hm
      rw [e] at h; exact (cmp_gt _ _).1 h
    · obtain rfl := List.mem_singleton.1 hm
      rw [e] at h; exact (cmp_lt _ _).1 h
  | a :: b :: l, n, h => by
    simp only [List.cons_append, runB, Bool.and_eq_true, decide_eq_true_eq] at h
    obtain ⟨i1, i2⟩ := runB_apart hw (b :: l) n h.2
    refine ⟨fun e m hm => ?_, fun e m hm => ?_⟩
    · rcases List.mem_cons.1 hm with rfl | hm
      · have h1 := i1 e b List.mem_cons_self
        have h2 := h.1
        rw [e] at h2
        have := (cmp_gt _ _).1 h2
        omega
      · exact i1 e m hm
    · rcases List.mem_cons.1 hm with rfl | hm
      · have h1 := i2 e b List.mem_cons_self
        have h2 := h.1
        rw [e] at h2
        have := (cmp_lt _ _).1 h2
        omega
      · exact i2 e m hm
theorem slots_apart {w : Int} (hw : w = 1 ∨ w = -1) {l : List OpV} (h : runB w (slotsV l) = true) {i k : Nat} (hi : i < l.length) (hk : k < i) (s1 : slotted (l[i]'hi).kind = true) (s2 : slotted (l[k]'(by omega)).kind = true) : ¬ (l[i]'hi).slot = (l[k]'(by omega)).slot := by
  have e : slotsV l = slotsV (l.take (i + 1)) ++ slotsV (l.drop (i + 1)) := by rw [← slotsV_append, List.take_append_drop]
  rw [e] at h
  have h1 := runB_prefix w _ _ h
  rw [slotsV_take l i hi, s1, if_pos rfl] at h1
  have hm : (l[k]'(by omega)).slot ∈ slotsV (l.take i) := by
    refine List.mem_map.2 ⟨l[k]'(by omega), List.mem_filter.2 ⟨List.mem_of_getElem? (i := k) ?_, s2⟩, rfl⟩
    rw [List.getElem?_take, if_pos hk, List.getElem?_eq_getElem (by omega)]
  obtain ⟨a1, a2⟩ := runB_apart hw _ _ h1
  rcases hw with hw | hw
  · have := a1 hw _ hm; omega
  · have := a2 hw _ hm; omega
theorem both_move {l : List OpV} (h1 : planB l = true) (h2 : undoB l = true) {i : Nat} (hi : i < l.length) : (l[i]'hi).kind = 6 := by
  simp only [planB, undoB, Bool.and_eq_true, Bool.not_eq_true'] at h1 h2
  have g1 := List.any_eq_false.1 h1.1 _ (List.getElem_mem hi)
  have g2 := List.any_eq_false.1 h2.1 _ (List.getElem_mem hi)
  simp only [planBad, undoBad, Bool.or_eq_true, Bool.and_eq_true, Bool.not_eq_true', decide_eq_true_eq, decide_eq_false_iff_not, not_or, not_and, Decidable.not_not] at g1 g2
  have := g1.2
  exact g2.2 (by omega)
theorem either_apart {l : List OpV} (h : (planB l || undoB l) = true) {i k : Nat} (hi : i < l.length) (hk : k < i) (s1 : slotted (l[i]'hi).kind = true) (s2 : slotted (l[k]'(by omega)).kind = true) : ¬ (l[i]'hi).slot = (l[k]'(by omega)).slot := by
  rcases Bool.or_eq_true_iff.1 h with h | h
  · simp only [planB, Bool.and_eq_true] at h
    exact slots_apart (.inl rfl) h.2 hi hk s1 s2
  · simp only [undoB, Bool.and_eq_true] at h
    exact slots_apart (.inr rfl) h.2 hi hk s1 s2
theorem shortL_take {l : List OpV} (k : Nat) (h : shortL l) : shortL (l.take k) := fun o ho => h o (List.mem_of_mem_take ho)
theorem shortL_drop {l : List OpV} (k : Nat) (h : shortL l) : shortL (l.drop k) := fun o ho => h o (List.mem_of_mem_drop ho)
set_option maxRecDepth 100000 in
set_option maxHeartbeats 2000000 in
theorem opInverseLaw_fun (l : List OpV) (cut : Nat) (hc : cut < 256) : Fun Tryd.prog G1 9 [.sl 5 (opsC l), .sc (.int .u8 cut)] (boolC true) 0 := by
  have hf := (fewO_fun l).glob0 (G' := G1)
  cases hfl : fewO l with
  | false =>
    rw [hfl] at hf
    refine Fun.of (fun _ => []) (by kernel_rfl) Tryd.func9 rfl rfl (Nat.le_of_ble_eq_true rfl) (by kernel_rfl) ?_; dsimp only [Tryd.f9, List.append_eq, List.cons_append, List.nil_append]
    simp -dsimp only [push_cast, ↓reduceIte, Nat.reduceAdd, Nat.reduceMul, Nat.reduceSub, Nat.reduceLeDiff, Nat.reduceEqDiff, Nat.reduceBEq, Int.reduceToNat, Nat.reduceLT, Int.reduceEq, Int.reduceLT, Int.reduceLE, Int.reduceAdd, Int.reduceSub, Int.reduceMul, reduceCtorEq, Bool.not_false, Bool.not_true, Bool.true_beq, Bool.false_beq, beq_self_eq_true, Bool.true_and]
    (first | refine call (awake19_fun) ?_ | refine callP (awake19_fun) ?_); simp -dsimp only [push_cast, ↓reduceIte, Nat.reduceAdd, Nat.reduceMul, Nat.reduceSub, Nat.reduceLeDiff, Nat.reduceEqDiff, Nat.reduceBEq, Int.reduceToNat, Nat.reduceLT, Int.reduceEq, Int.reduceLT, Int.reduceLE, Int.reduceAdd, Int.reduceSub, Int.reduceMul, reduceCtorEq, Bool.not_false, Bool.not_true, Bool.true_beq, Bool.false_beq, beq_self_eq_true, Bool.true_and]
    (first | refine call (hf) ?_ | refine callP (hf) ?_); simp -dsimp only [push_cast, ↓reduceIte, Nat.reduceAdd, Nat.reduceMul, Nat.reduceSub, Nat.reduceLeDiff, Nat.reduceEqDiff, Nat.reduceBEq, Int.reduceToNat, Nat.reduceLT, Int.reduceEq, Int.reduceLT, Int.reduceLE, Int.reduceAdd, Int.reduceSub, Int.reduceMul, reduceCtorEq, Bool.not_false, Bool.not_true, Bool.true_beq, Bool.false_beq, beq_self_eq_true, Bool.true_and]
    (first | refine call (awake19_fun) ?_ | refine callP (awake19_fun) ?_); simp -dsimp only [push_cast, ↓reduceIte, Nat.reduceAdd, Nat.reduceMul, Nat.reduceSub, Nat.reduceLeDiff, Nat.reduceEqDiff, Nat.reduceBEq, Int.reduceToNat, Nat.reduceLT, Int.reduceEq, Int.reduceLT, Int.reduceLE, Int.reduceAdd, Int.reduceSub, Int.reduceMul, reduceCtorEq, Bool.not_false, Bool.not_true, Bool.true_beq, Bool.false_beq, beq_self_eq_true, Bool.true_and]
    exact ⟨[], rfl, rfl, by simp -dsimp only [WeakTm, WeakBx, CLe, CLeL, push_cast, ↓reduceIte, Nat.reduceAdd, Nat.reduceMul, Nat.reduceSub, Nat.reduceLeDiff, Nat.reduceEqDiff, Nat.reduceBEq, Int.reduceToNat, Nat.reduceLT, Int.reduceEq, Int.reduceLT, Int.reduceLE, Int.reduceAdd, Int.reduceSub, Int.reduceMul, reduceCtorEq, Bool.not_false, Bool.not_true, Bool.true_beq, Bool.false_beq, beq_self_eq_true, Bool.true_and]⟩
  | true =>
    rw [hfl] at hf
    obtain ⟨hl, hs⟩ := fewO_short hfl
    obtain ⟨n, hn⟩ : ∃ n, n = cut % (l.length + 1) := ⟨_, rfl⟩
    have hnl : n ≤ l.length := by have := Nat.mod_lt cut (Nat.succ_pos l.length); rw [← Nat.succ_eq_add_one] at hn; rw [← hn] at this; omega
    have h1 := plan19_fun l (by omega) hs
    have h2 := undo19_fun l (by omega) hs
    have h3 := plan19_fun (l.take n) (by rw [List.length_take]; omega) (shortL_take n hs)
    have h4 := plan19_fun (l.drop n) (by rw [List.length_drop]; omega) (shortL_drop n hs)
    have h5 := undo19_fun (l.take n) (by rw [List.length_take]; omega) (shortL_take n hs)
    have h6 := undo19_fun (l.drop n) (by rw [List.length_drop]; omega) (shortL_drop n hs)
    have hemod : ((cut : Int) % ((l.length : Int) + 1)) = (n : Int) := by rw [hn]; push_cast; rfl
    have hb := @both_move l
    have ha := @either_apart l
    have t1 := @planB_take l n
    have t2 := @planB_drop l n
    have t3 := @undoB_take l n
    have t4 := @undoB_drop l n
    generalize hp : planB l = P at h1 hb ha t1 t2
    generalize hu : undoB l = U at h2 hb ha t3 t4
    cases P <;> cases U
    · refine Fun.of (fun _ => []) (by kernel_rfl) Tryd.func9 rfl rfl (Nat.le_of_ble_eq_true rfl) (by kernel_rfl) ?_; dsimp only [Tryd.f9, List.append_eq, List.cons_append, List.nil_append]
      simp -dsimp only [push_cast, ↓reduceIte, Nat.reduceAdd, Nat.reduceMul, Nat.reduceSub, Nat.reduceLeDiff, Nat.reduceEqDiff, Nat.reduceBEq, Int.reduceToNat, Nat.reduceLT, Int.reduceEq, Int.reduceLT, Int.reduceLE, Int.reduceAdd, Int.reduceSub, Int.reduceMul, reduceCtorEq, Bool.not_false, Bool.not_true, Bool.true_beq, Bool.false_beq, beq_self_eq_true, Bool.true_and]
      (first | refine call (awake19_fun) ?_ | refine callP (awake19_fun) ?_); simp -dsimp only [push_cast, ↓reduceIte, Nat.reduceAdd, Nat.reduceMul, Nat.reduceSub, Nat.reduceLeDiff, Nat.reduceEqDiff, Nat.reduceBEq, Int.reduceToNat, Nat.reduceLT, Int.reduceEq, Int.reduceLT, Int.reduceLE, Int.reduceAdd, Int.reduceSub, Int.reduceMul, reduceCtorEq, Bool.not_false, Bool.not_true, Bool.true_beq, Bool.false_beq, beq_self_eq_true, Bool.true_and]
      (first | refine call (hf) ?_ | refine callP (hf) ?_); simp -dsimp only [push_cast, ↓reduceIte, Nat.reduceAdd, Nat.reduceMul, Nat.reduceSub, Nat.reduceLeDiff, Nat.reduceEqDiff, Nat.reduceBEq, Int.reduceToNat, Nat.reduceLT, Int.reduceEq, Int.reduceLT, Int.reduceLE, Int.reduceAdd, Int.reduceSub, Int.reduceMul, reduceCtorEq, Bool.not_false, Bool.not_true, Bool.true_beq, Bool.false_beq, beq_self_eq_true, Bool.true_and, hemod]
      (try simp only [List.length_append, List.length_cons, List.length_nil, List.length_map, List.length_take]); repeat (refine And.intro (by omega) ?_)
      (first | refine call (h1) ?_ | refine callP (h1) ?_); simp -dsimp only [push_cast, ↓reduceIte, Nat.reduceAdd, Nat.reduceMul, Nat.reduceSub, Nat.reduceLeDiff, Nat.reduceEqDiff, Nat.reduceBEq, Int.reduceToNat, Nat.reduceLT, Int.reduceEq, Int.reduceLT, Int.reduceLE, Int.reduceAdd, Int.reduceSub, Int.reduceMul, reduceCtorEq, Bool.not_false, Bool.not_true, Bool.true_beq, Bool.false_beq, beq_self_eq_true, Bool.true_and]
      (first | refine call (h2) ?_ | refine callP (h2) ?_); simp -dsimp only [push_cast, ↓reduceIte, Nat.reduceAdd, Nat.reduceMul, Nat.reduceSub, Nat.reduceLeDiff, Nat.reduceEqDiff, Nat.reduceBEq, Int.reduceToNat, Nat.reduceLT, Int.reduceEq, Int.reduceLT, Int.reduceLE, Int.reduceAdd, Int.reduceSub, Int.reduceMul, reduceCtorEq, Bool.not_false, Bool.not_true, Bool.true_beq, Bool.false_beq, beq_self_eq_true, Bool.true_and]
      (try simp only [List.length_append, List.length_cons, List.length_nil, List.length_map, List.length_take]); repeat (refine And.intro (by omega) ?_)
      refine loop (fun i : Nat => ⟨[(0, .sl 5 (opsC l)), (6, .sc (.bool false)), (7, .sc (.bool false)), (8, .sc (.int .i64 i))], [], 0, 0⟩) (fun i => i ≤ l.length) (fun i => l.length - i) 0 (Nat.zero_le _) ?_ ?_
      · exact Weak.mk [] rfl rfl (Nat.le_refl _) rfl (by simp -dsimp only [WeakTm, WeakBx, CLe, CLeL, push_cast, ↓reduceIte, Nat.reduceAdd, Nat.reduceMul, Nat.reduceSub, Nat.reduceLeDiff, Nat.reduceEqDiff, Nat.reduceBEq, Int.reduceToNat, Nat.reduceLT, Int.reduceEq, Int.reduceLT, Int.reduceLE, Int.reduceAdd, Int.reduceSub, Int.reduceMul, reduceCtorEq, Bool.not_false, Bool.not_true, Bool.true_beq, Bool.false_beq, beq_self_eq_true, Bool.true_and]) (by simp -dsimp only [WeakTm, WeakBx, CLe, CLeL, push_cast, ↓reduceIte, Nat.reduceAdd, Nat.reduceMul, Nat.reduceSub, Nat.reduceLeDiff, Nat.reduceEqDiff, Nat.reduceBEq, Int.reduceToNat, Nat.reduceLT, Int.reduceEq, Int.reduceLT, Int.reduceLE, Int.reduceAdd, Int.reduceSub, Int.reduceMul, reduceCtorEq, Bool.not_false, Bool.not_true, Bool.true_beq, Bool.false_beq, beq_self_eq_true, Bool.true_and])
      · intro i hi
        by_cases h : i < l.length
        · have hgi := opsC_at l i h
          have hbi := fun h1 h2 => hb h1 h2 h
          have hai := fun h1 (k : Nat) (hk : k < i) => @ha h1 i k h hk
          cases ho : l[i]'h with
          | mk kd s a b d =>
            rw [ho] at hgi hbi
            simp only [opL] at hgi
            simp only at hbi
            have q1 := (slotted_fun kd).glob0 (G' := G1)
            simp -dsimp only [push_cast, ↓reduceIte, Nat.reduceAdd, Nat.reduceMul, Nat.reduceSub, Nat.reduceLeDiff, Nat.reduceEqDiff, Nat.reduceBEq, Int.reduceToNat, Nat.reduceLT, Int.reduceEq, Int.reduceLT, Int.reduceLE, Int.reduceAdd, Int.reduceSub, Int.reduceMul, reduceCtorEq, Bool.not_false, Bool.not_true, Bool.true_beq, Bool.false_beq, beq_self_eq_true, Bool.true_and, h, hgi]
            (try simp only [List.length_append, List.length_cons, List.length_nil, List.length_map, List.length_take]); repeat (refine And.intro (by omega) ?_)
            refine loop (fun k : Nat => ⟨[(0, .sl 5 (opsC l)), (6, .sc (.bool false)), (7, .sc (.bool false)), (8, .sc (.int .i64 i)), (9, .sc (.int .i64 k))], [], 0, 0⟩) (fun k => k ≤ i) (fun k => i - k) 0 (Nat.zero_le _) ?_ ?_
            · exact Weak.mk [] rfl rfl (Nat.le_refl _) rfl (by simp -dsimp only [WeakTm, WeakBx, CLe, CLeL, push_cast, ↓reduceIte, Nat.reduceAdd, Nat.reduceMul, Nat.reduceSub, Nat.reduceLeDiff, Nat.reduceEqDiff, Nat.reduceBEq, Int.reduceToNat, Nat.reduceLT, Int.reduceEq, Int.reduceLT, Int.reduceLE, Int.reduceAdd, Int.reduceSub, Int.reduceMul, reduceCtorEq, Bool.not_false, Bool.not_true, Bool.true_beq, Bool.false_beq, beq_self_eq_true, Bool.true_and]) (by simp -dsimp only [WeakTm, WeakBx, CLe, CLeL, push_cast, ↓reduceIte, Nat.reduceAdd, Nat.reduceMul, Nat.reduceSub, Nat.reduceLeDiff, Nat.reduceEqDiff, Nat.reduceBEq, Int.reduceToNat, Nat.reduceLT, Int.reduceEq, Int.reduceLT, Int.reduceLE, Int.reduceAdd, Int.reduceSub, Int.reduceMul, reduceCtorEq, Bool.not_false, Bool.not_true, Bool.true_beq, Bool.false_beq, beq_self_eq_true, Bool.true_and])
            · intro k hk
              by_cases hki : k < i
              · have hgk := opsC_at l k (by omega)
                have hak := trivial
                cases ho2 : l[k]'(by omega) with
                | mk kd2 s2 a2 b2 d2 =>
                  rw [ho2] at hgk
                  simp only [opL] at hgk
                  have q2 := (slotted_fun kd2).glob0 (G' := G1)
                  simp -dsimp only [push_cast, ↓reduceIte, Nat.reduceAdd, Nat.reduceMul, Nat.reduceSub, Nat.reduceLeDiff, Nat.reduceEqDiff, Nat.reduceBEq, Int.reduceToNat, Nat.reduceLT, Int.reduceEq, Int.reduceLT, Int.reduceLE, Int.reduceAdd, Int.reduceSub, Int.reduceMul, reduceCtorEq, Bool.not_false, Bool.not_true, Bool.true_beq, Bool.false_beq, beq_self_eq_true, Bool.true_and, hki]
                  (try simp only [List.length_append, List.length_cons, List.length_nil, List.length_map, List.length_take]); repeat (refine And.intro (by omega) ?_)
                  refine ⟨k + 1, by omega, by omega, Weak.mk [] rfl rfl (Nat.le_refl _) rfl (by simp -dsimp only [WeakTm, WeakBx, CLe, CLeL, push_cast, ↓reduceIte, Nat.reduceAdd, Nat.reduceMul, Nat.reduceSub, Nat.reduceLeDiff, Nat.reduceEqDiff, Nat.reduceBEq, Int.reduceToNat, Nat.reduceLT, Int.reduceEq, Int.reduceLT, Int.reduceLE, Int.reduceAdd, Int.reduceSub, Int.reduceMul, reduceCtorEq, Bool.not_false, Bool.not_true, Bool.true_beq, Bool.false_beq, beq_self_eq_true, Bool.true_and]) (by simp -dsimp only [WeakTm, WeakBx, CLe, CLeL, push_cast, ↓reduceIte, Nat.reduceAdd, Nat.reduceMul, Nat.reduceSub, Nat.reduceLeDiff, Nat.reduceEqDiff, Nat.reduceBEq, Int.reduceToNat, Nat.reduceLT, Int.reduceEq, Int.reduceLT, Int.reduceLE, Int.reduceAdd, Int.reduceSub, Int.reduceMul, reduceCtorEq, Bool.not_false, Bool.not_true, Bool.true_beq, Bool.false_beq, beq_self_eq_true, Bool.true_and])⟩
              · simp -dsimp only [push_cast, ↓reduceIte, Nat.reduceAdd, Nat.reduceMul, Nat.reduceSub, Nat.reduceLeDiff, Nat.reduceEqDiff, Nat.reduceBEq, Int.reduceToNat, Nat.reduceLT, Int.reduceEq, Int.reduceLT, Int.reduceLE, Int.reduceAdd, Int.reduceSub, Int.reduceMul, reduceCtorEq, Bool.not_false, Bool.not_true, Bool.true_beq, Bool.false_beq, beq_self_eq_true, Bool.true_and, hki]
                (try simp only [List.length_append, List.length_cons, List.length_nil, List.length_map, List.length_take]); repeat (refine And.intro (by omega) ?_)
                refine ⟨i + 1, by omega, by omega, Weak.mk [] rfl rfl (Nat.le_refl _) rfl (by simp -dsimp only [WeakTm, WeakBx, CLe, CLeL, push_cast, ↓reduceIte, Nat.reduceAdd, Nat.reduceMul, Nat.reduceSub, Nat.reduceLeDiff, Nat.reduceEqDiff, Nat.reduceBEq, Int.reduceToNat, Nat.reduceLT, Int.reduceEq, Int.reduceLT, Int.reduceLE, Int.reduceAdd, Int.reduceSub, Int.reduceMul, reduceCtorEq, Bool.not_false, Bool.not_true, Bool.true_beq, Bool.false_beq, beq_self_eq_true, Bool.true_and]) (by simp -dsimp only [WeakTm, WeakBx, CLe, CLeL, push_cast, ↓reduceIte, Nat.reduceAdd, Nat.reduceMul, Nat.reduceSub, Nat.reduceLeDiff, Nat.reduceEqDiff, Nat.reduceBEq, Int.reduceToNat, Nat.reduceLT, Int.reduceEq, Int.reduceLT, Int.reduceLE, Int.reduceAdd, Int.reduceSub, Int.reduceMul, reduceCtorEq, Bool.not_false, Bool.not_true, Bool.true_beq, Bool.false_beq, beq_self_eq_true, Bool.true_and])⟩
        · simp -dsimp only [push_cast, ↓reduceIte, Nat.reduceAdd, Nat.reduceMul, Nat.reduceSub, Nat.reduceLeDiff, Nat.reduceEqDiff, Nat.reduceBEq, Int.reduceToNat, Nat.reduceLT, Int.reduceEq, Int.reduceLT, Int.reduceLE, Int.reduceAdd, Int.reduceSub, Int.reduceMul, reduceCtorEq, Bool.not_false, Bool.not_true, Bool.true_beq, Bool.false_beq, beq_self_eq_true, Bool.true_and, h]
          exact ⟨[], rfl, rfl, by simp -dsimp only [WeakTm, WeakBx, CLe, CLeL, push_cast, ↓reduceIte, Nat.reduceAdd, Nat.reduceMul, Nat.reduceSub, Nat.reduceLeDiff, Nat.reduceEqDiff, Nat.reduceBEq, Int.reduceToNat, Nat.reduceLT, Int.reduceEq, Int.reduceLT, Int.reduceLE, Int.reduceAdd, Int.reduceSub, Int.reduceMul, reduceCtorEq, Bool.not_false, Bool.not_true, Bool.true_beq, Bool.false_beq, beq_self_eq_true, Bool.true_and]⟩
    · rw [t3 rfl] at h5
      rw [t4 rfl] at h6
      refine Fun.of (fun _ => []) (by kernel_rfl) Tryd.func9 rfl rfl (Nat.le_of_ble_eq_true rfl) (by kernel_rfl) ?_; dsimp only [Tryd.f9, List.append_eq, List.cons_append, List.nil_append]
      simp -dsimp only [push_cast, ↓reduceIte, Nat.reduceAdd, Nat.reduceMul, Nat.reduceSub, Nat.reduceLeDiff, Nat.reduceEqDiff, Nat.reduceBEq, Int.reduceToNat, Nat.reduceLT, Int.reduceEq, Int.reduceLT, Int.reduceLE, Int.reduceAdd, Int.reduceSub, Int.reduceMul, reduceCtorEq, Bool.not_false, Bool.not_true, Bool.true_beq, Bool.false_beq, beq_self_eq_true, Bool.true_and]
      (first | refine call (awake19_fun) ?_ | refine callP (awake19_fun) ?_); simp -dsimp only [push_cast, ↓reduceIte, Nat.reduceAdd, Nat.reduceMul, Nat.reduceSub, Nat.reduceLeDiff, Nat.reduceEqDiff, Nat.reduceBEq, Int.reduceToNat, Nat.reduceLT, Int.reduceEq, Int.reduceLT, Int.reduceLE, Int.reduceAdd, Int.reduceSub, Int.reduceMul, reduceCtorEq, Bool.not_false, Bool.not_true, Bool.true_beq, Bool.false_beq, beq_self_eq_true, Bool.true_and]
      (first | refine call (hf) ?_ | refine callP (hf) ?_); simp -dsimp only [push_cast, ↓reduceIte, Nat.reduceAdd, Nat.reduceMul, Nat.reduceSub, Nat.reduceLeDiff, Nat.reduceEqDiff, Nat.reduceBEq, Int.reduceToNat, Nat.reduceLT, Int.reduceEq, Int.reduceLT, Int.reduceLE, Int.reduceAdd, Int.reduceSub, Int.reduceMul, reduceCtorEq, Bool.not_false, Bool.not_true, Bool.true_beq, Bool.false_beq, beq_self_eq_true, Bool.true_and, hemod]
      (try simp only [List.length_append, List.length_cons, List.length_nil, List.length_map, List.length_take]); repeat (refine And.intro (by omega) ?_)
      (first | refine call (h1) ?_ | refine callP (h1) ?_); simp -dsimp only [push_cast, ↓reduceIte, Nat.reduceAdd, Nat.reduceMul, Nat.reduceSub, Nat.reduceLeDiff, Nat.reduceEqDiff, Nat.reduceBEq, Int.reduceToNat, Nat.reduceLT, Int.reduceEq, Int.reduceLT, Int.reduceLE, Int.reduceAdd, Int.reduceSub, Int.reduceMul, reduceCtorEq, Bool.not_false, Bool.not_true, Bool.true_beq, Bool.false_beq, beq_self_eq_true, Bool.true_and]
      (first | refine call (h2) ?_ | refine callP (h2) ?_); simp -dsimp only [push_cast, ↓reduceIte, Nat.reduceAdd, Nat.reduceMul, Nat.reduceSub, Nat.reduceLeDiff, Nat.reduceEqDiff, Nat.reduceBEq, Int.reduceToNat, Nat.reduceLT, Int.reduceEq, Int.reduceLT, Int.reduceLE, Int.reduceAdd, Int.reduceSub, Int.reduceMul, reduceCtorEq, Bool.not_false, Bool.not_true, Bool.true_beq, Bool.false_beq, beq_self_eq_true, Bool.true_and]
      (try simp only [List.length_append, List.length_cons, List.length_nil, List.length_map, List.length_take]); repeat (refine And.intro (by omega) ?_)
      (first | refine call (h5) ?_ | refine callP (h5) ?_); simp -dsimp only [push_cast, ↓reduceIte, Nat.reduceAdd, Nat.reduceMul, Nat.reduceSub, Nat.reduceLeDiff, Nat.reduceEqDiff, Nat.reduceBEq, Int.reduceToNat, Nat.reduceLT, Int.reduceEq, Int.reduceLT, Int.reduceLE, Int.reduceAdd, Int.reduceSub, Int.reduceMul, reduceCtorEq, Bool.not_false, Bool.not_true, Bool.true_beq, Bool.false_beq, beq_self_eq_true, Bool.true_and]
      (try simp only [List.length_append, List.length_cons, List.length_nil, List.length_map, List.length_take]); repeat (refine And.intro (by omega) ?_)
      (first | refine call (h6) ?_ | refine callP (h6) ?_); simp -dsimp only [push_cast, ↓reduceIte, Nat.reduceAdd, Nat.reduceMul, Nat.reduceSub, Nat.reduceLeDiff, Nat.reduceEqDiff, Nat.reduceBEq, Int.reduceToNat, Nat.reduceLT, Int.reduceEq, Int.reduceLT, Int.reduceLE, Int.reduceAdd, Int.reduceSub, Int.reduceMul, reduceCtorEq, Bool.not_false, Bool.not_true, Bool.true_beq, Bool.false_beq, beq_self_eq_true, Bool.true_and]
      (try simp only [List.length_append, List.length_cons, List.length_nil, List.length_map, List.length_take]); repeat (refine And.intro (by omega) ?_)
      refine loop (fun i : Nat => ⟨[(0, .sl 5 (opsC l)), (6, .sc (.bool false)), (7, .sc (.bool true)), (8, .sc (.int .i64 i))], [], 0, 0⟩) (fun i => i ≤ l.length) (fun i => l.length - i) 0 (Nat.zero_le _) ?_ ?_
      · exact Weak.mk [] rfl rfl (Nat.le_refl _) rfl (by simp -dsimp only [WeakTm, WeakBx, CLe, CLeL, push_cast, ↓reduceIte, Nat.reduceAdd, Nat.reduceMul, Nat.reduceSub, Nat.reduceLeDiff, Nat.reduceEqDiff, Nat.reduceBEq, Int.reduceToNat, Nat.reduceLT, Int.reduceEq, Int.reduceLT, Int.reduceLE, Int.reduceAdd, Int.reduceSub, Int.reduceMul, reduceCtorEq, Bool.not_false, Bool.not_true, Bool.true_beq, Bool.false_beq, beq_self_eq_true, Bool.true_and]) (by simp -dsimp only [WeakTm, WeakBx, CLe, CLeL, push_cast, ↓reduceIte, Nat.reduceAdd, Nat.reduceMul, Nat.reduceSub, Nat.reduceLeDiff, Nat.reduceEqDiff, Nat.reduceBEq, Int.reduceToNat, Nat.reduceLT, Int.reduceEq, Int.reduceLT, Int.reduceLE, Int.reduceAdd, Int.reduceSub, Int.reduceMul, reduceCtorEq, Bool.not_false, Bool.not_true, Bool.true_beq, Bool.false_beq, beq_self_eq_true, Bool.true_and])
      · intro i hi
        by_cases h : i < l.length
        · have hgi := opsC_at l i h
          have hbi := fun h1 h2 => hb h1 h2 h
          have hai := fun h1 (k : Nat) (hk : k < i) => @ha h1 i k h hk
          cases ho : l[i]'h with
          | mk kd s a b d =>
            rw [ho] at hgi hbi
            simp only [opL] at hgi
            simp only at hbi
            have q1 := (slotted_fun kd).glob0 (G' := G1)
            simp -dsimp only [push_cast, ↓reduceIte, Nat.reduceAdd, Nat.reduceMul, Nat.reduceSub, Nat.reduceLeDiff, Nat.reduceEqDiff, Nat.reduceBEq, Int.reduceToNat, Nat.reduceLT, Int.reduceEq, Int.reduceLT, Int.reduceLE, Int.reduceAdd, Int.reduceSub, Int.reduceMul, reduceCtorEq, Bool.not_false, Bool.not_true, Bool.true_beq, Bool.false_beq, beq_self_eq_true, Bool.true_and, h, hgi]
            (try simp only [List.length_append, List.length_cons, List.length_nil, List.length_map, List.length_take]); repeat (refine And.intro (by omega) ?_)
            refine loop (fun k : Nat => ⟨[(0, .sl 5 (opsC l)), (6, .sc (.bool false)), (7, .sc (.bool true)), (8, .sc (.int .i64 i)), (9, .sc (.int .i64 k))], [], 0, 0⟩) (fun k => k ≤ i) (fun k => i - k) 0 (Nat.zero_le _) ?_ ?_
            · exact Weak.mk [] rfl rfl (Nat.le_refl _) rfl (by simp -dsimp only [WeakTm, WeakBx, CLe, CLeL, push_cast, ↓reduceIte, Nat.reduceAdd, Nat.reduceMul, Nat.reduceSub, Nat.reduceLeDiff, Nat.reduceEqDiff, Nat.reduceBEq, Int.reduceToNat, Nat.reduceLT, Int.reduceEq, Int.reduceLT, Int.reduceLE, Int.reduceAdd, Int.reduceSub, Int.reduceMul, reduceCtorEq, Bool.not_false, Bool.not_true, Bool.true_beq, Bool.false_beq, beq_self_eq_true, Bool.true_and]) (by simp -dsimp only [WeakTm, WeakBx, CLe, CLeL, push_cast, ↓reduceIte, Nat.reduceAdd, Nat.reduceMul, Nat.reduceSub, Nat.reduceLeDiff, Nat.reduceEqDiff, Nat.reduceBEq, Int.reduceToNat, Nat.reduceLT, Int.reduceEq, Int.reduceLT, Int.reduceLE, Int.reduceAdd, Int.reduceSub, Int.reduceMul, reduceCtorEq, Bool.not_false, Bool.not_true, Bool.true_beq, Bool.false_beq, beq_self_eq_true, Bool.true_and])
            · intro k hk
              by_cases hki : k < i
              · have hgk := opsC_at l k (by omega)
                have hak := hai rfl k hki
                cases ho2 : l[k]'(by omega) with
                | mk kd2 s2 a2 b2 d2 =>
                  rw [ho2] at hgk
                  rw [ho, ho2] at hak
                  simp only [opL] at hgk
                  have q2 := (slotted_fun kd2).glob0 (G' := G1)
                  simp only at hak
                  cases hs1 : slotted kd with
                  | false =>
                    rw [hs1] at q1
                    simp -dsimp only [push_cast, ↓reduceIte, Nat.reduceAdd, Nat.reduceMul, Nat.reduceSub, Nat.reduceLeDiff, Nat.reduceEqDiff, Nat.reduceBEq, Int.reduceToNat, Nat.reduceLT, Int.reduceEq, Int.reduceLT, Int.reduceLE, Int.reduceAdd, Int.reduceSub, Int.reduceMul, reduceCtorEq, Bool.not_false, Bool.not_true, Bool.true_beq, Bool.false_beq, beq_self_eq_true, Bool.true_and, hki, hgi, hgk]
                    (try simp only [List.length_append, List.length_cons, List.length_nil, List.length_map, List.length_take]); repeat (refine And.intro (by omega) ?_)
                    (first | refine call (q1) ?_ | refine callP (q1) ?_); simp -dsimp only [push_cast, ↓reduceIte, Nat.reduceAdd, Nat.reduceMul, Nat.reduceSub, Nat.reduceLeDiff, Nat.reduceEqDiff, Nat.reduceBEq, Int.reduceToNat, Nat.reduceLT, Int.reduceEq, Int.reduceLT, Int.reduceLE, Int.reduceAdd, Int.reduceSub, Int.reduceMul, reduceCtorEq, Bool.not_false, Bool.not_true, Bool.true_beq, Bool.false_beq, beq_self_eq_true, Bool.true_and, hgk]
                    (try simp only [List.length_append, List.length_cons, List.length_nil, List.length_map, List.length_take]); repeat (refine And.intro (by omega) ?_)
                    refine ⟨k + 1, by omega, by omega, Weak.mk [] rfl rfl (Nat.le_refl _) rfl (by simp -dsimp only [WeakTm, WeakBx, CLe, CLeL, push_cast, ↓reduceIte, Nat.reduceAdd, Nat.reduceMul, Nat.reduceSub, Nat.reduceLeDiff, Nat.reduceEqDiff, Nat.reduceBEq, Int.reduceToNat, Nat.reduceLT, Int.reduceEq, Int.reduceLT, Int.reduceLE, Int.reduceAdd, Int.reduceSub, Int.reduceMul, reduceCtorEq, Bool.not_false, Bool.not_true, Bool.true_beq, Bool.false_beq, beq_self_eq_true, Bool.true_and]) (by simp -dsimp only [WeakTm, WeakBx, CLe, CLeL, push_cast, ↓reduceIte, Nat.reduceAdd, Nat.reduceMul, Nat.reduceSub, Nat.reduceLeDiff, Nat.reduceEqDiff, Nat.reduceBEq, Int.reduceToNat, Nat.reduceLT, Int.reduceEq, Int.reduceLT, Int.reduceLE, Int.reduceAdd, Int.reduceSub, Int.reduceMul, reduceCtorEq, Bool.not_false, Bool.not_true, Bool.true_beq, Bool.false_beq, beq_self_eq_true, Bool.true_and])⟩
                  | true =>
                    rw [hs1] at q1
                    cases hs2 : slotted kd2 with
                    | false =>
                      rw [hs2] at q2
                      simp -dsimp only [push_cast, ↓reduceIte, Nat.reduceAdd, Nat.reduceMul, Nat.reduceSub, Nat.reduceLeDiff, Nat.reduceEqDiff, Nat.reduceBEq, Int.reduceToNat, Nat.reduceLT, Int.reduceEq, Int.reduceLT, Int.reduceLE, Int.reduceAdd, Int.reduceSub, Int.reduceMul, reduceCtorEq, Bool.not_false, Bool.not_true, Bool.true_beq, Bool.false_beq, beq_self_eq_true, Bool.true_and, hki, hgi, hgk]
                      (try simp only [List.length_append, List.length_cons, List.length_nil, List.length_map, List.length_take]); repeat (refine And.intro (by omega) ?_)
                      (first | refine call (q1) ?_ | refine callP (q1) ?_); simp -dsimp only [push_cast, ↓reduceIte, Nat.reduceAdd, Nat.reduceMul, Nat.reduceSub, Nat.reduceLeDiff, Nat.reduceEqDiff, Nat.reduceBEq, Int.reduceToNat, Nat.reduceLT, Int.reduceEq, Int.reduceLT, Int.reduceLE, Int.reduceAdd, Int.reduceSub, Int.reduceMul, reduceCtorEq, Bool.not_false, Bool.not_true, Bool.true_beq, Bool.false_beq, beq_self_eq_true, Bool.true_and, hgk]
                      (try simp only [List.length_append, List.length_cons, List.length_nil, List.length_map, List.length_take]); repeat (refine And.intro (by omega) ?_)
                      (first | refine call (q2) ?_ | refine callP (q2) ?_); simp -dsimp only [push_cast, ↓reduceIte, Nat.reduceAdd, Nat.reduceMul, Nat.reduceSub, Nat.reduceLeDiff, Nat.reduceEqDiff, Nat.reduceBEq, Int.reduceToNat, Nat.reduceLT, Int.reduceEq, Int.reduceLT, Int.reduceLE, Int.reduceAdd, Int.reduceSub, Int.reduceMul, reduceCtorEq, Bool.not_false, Bool.not_true, Bool.true_beq, Bool.false_beq, beq_self_eq_true, Bool.true_and]
                      (try simp only [List.length_append, List.length_cons, List.length_nil, List.length_map, List.length_take]); repeat (refine And.intro (by omega) ?_)
                      refine ⟨k + 1, by omega, by omega, Weak.mk [] rfl rfl (Nat.le_refl _) rfl (by simp -dsimp only [WeakTm, WeakBx, CLe, CLeL, push_cast, ↓reduceIte, Nat.reduceAdd, Nat.reduceMul, Nat.reduceSub, Nat.reduceLeDiff, Nat.reduceEqDiff, Nat.reduceBEq, Int.reduceToNat, Nat.reduceLT, Int.reduceEq, Int.reduceLT, Int.reduceLE, Int.reduceAdd, Int.reduceSub, Int.reduceMul, reduceCtorEq, Bool.not_false, Bool.not_true, Bool.true_beq, Bool.false_beq, beq_self_eq_true, Bool.true_and]) (by simp -dsimp only [WeakTm, WeakBx, CLe, CLeL, push_cast, ↓reduceIte, Nat.reduceAdd, Nat.reduceMul, Nat.reduceSub, Nat.reduceLeDiff, Nat.reduceEqDiff, Nat.reduceBEq, Int.reduceToNat, Nat.reduceLT, Int.reduceEq, Int.reduceLT, Int.reduceLE, Int.reduceAdd, Int.reduceSub, Int.reduceMul, reduceCtorEq, Bool.not_false, Bool.not_true, Bool.true_beq, Bool.false_beq, beq_self_eq_true, Bool.true_and])⟩
                    | true =>
                      rw [hs2] at q2
                      have hne := hak hs1 hs2
                      simp -dsimp only [push_cast, ↓reduceIte, Nat.reduceAdd, Nat.reduceMul, Nat.reduceSub, Nat.reduceLeDiff, Nat.reduceEqDiff, Nat.reduceBEq, Int.reduceToNat, Nat.reduceLT, Int.reduceEq, Int.reduceLT, Int.reduceLE, Int.reduceAdd, Int.reduceSub, Int.reduceMul, reduceCtorEq, Bool.not_false, Bool.not_true, Bool.true_beq, Bool.false_beq, beq_self_eq_true, Bool.true_and, hki, hgi, hgk]
                      (try simp only [List.length_append, List.length_cons, List.length_nil, List.length_map, List.length_take]); repeat (refine And.intro (by omega) ?_)
                      (first | refine call (q1) ?_ | refine callP (q1) ?_); simp -dsimp only [push_cast, ↓reduceIte, Nat.reduceAdd, Nat.reduceMul, Nat.reduceSub, Nat.reduceLeDiff, Nat.reduceEqDiff, Nat.reduceBEq, Int.reduceToNat, Nat.reduceLT, Int.reduceEq, Int.reduceLT, Int.reduceLE, Int.reduceAdd, Int.reduceSub, Int.reduceMul, reduceCtorEq, Bool.not_false, Bool.not_true, Bool.true_beq, Bool.false_beq, beq_self_eq_true, Bool.true_and, hgk]
                      (try simp only [List.length_append, List.length_cons, List.length_nil, List.length_map, List.length_take]); repeat (refine And.intro (by omega) ?_)
                      (first | refine call (q2) ?_ | refine callP (q2) ?_); simp -dsimp only [push_cast, ↓reduceIte, Nat.reduceAdd, Nat.reduceMul, Nat.reduceSub, Nat.reduceLeDiff, Nat.reduceEqDiff, Nat.reduceBEq, Int.reduceToNat, Nat.reduceLT, Int.reduceEq, Int.reduceLT, Int.reduceLE, Int.reduceAdd, Int.reduceSub, Int.reduceMul, reduceCtorEq, Bool.not_false, Bool.not_true, Bool.true_beq, Bool.false_beq, beq_self_eq_true, Bool.true_and, hgi, hgk, hne]
                      (try simp only [List.length_append, List.length_cons, List.length_nil, List.length_map, List.length_take]); repeat (refine And.intro (by omega) ?_)
                      refine ⟨k + 1, by omega, by omega, Weak.mk [] rfl rfl (Nat.le_refl _) rfl (by simp -dsimp only [WeakTm, WeakBx, CLe, CLeL, push_cast, ↓reduceIte, Nat.reduceAdd, Nat.reduceMul, Nat.reduceSub, Nat.reduceLeDiff, Nat.reduceEqDiff, Nat.reduceBEq, Int.reduceToNat, Nat.reduceLT, Int.reduceEq, Int.reduceLT, Int.reduceLE, Int.reduceAdd, Int.reduceSub, Int.reduceMul, reduceCtorEq, Bool.not_false, Bool.not_true, Bool.true_beq, Bool.false_beq, beq_self_eq_true, Bool.true_and]) (by simp -dsimp only [WeakTm, WeakBx, CLe, CLeL, push_cast, ↓reduceIte, Nat.reduceAdd, Nat.reduceMul, Nat.reduceSub, Nat.reduceLeDiff, Nat.reduceEqDiff, Nat.reduceBEq, Int.reduceToNat, Nat.reduceLT, Int.reduceEq, Int.reduceLT, Int.reduceLE, Int.reduceAdd, Int.reduceSub, Int.reduceMul, reduceCtorEq, Bool.not_false, Bool.not_true, Bool.true_beq, Bool.false_beq, beq_self_eq_true, Bool.true_and])⟩
              · simp -dsimp only [push_cast, ↓reduceIte, Nat.reduceAdd, Nat.reduceMul, Nat.reduceSub, Nat.reduceLeDiff, Nat.reduceEqDiff, Nat.reduceBEq, Int.reduceToNat, Nat.reduceLT, Int.reduceEq, Int.reduceLT, Int.reduceLE, Int.reduceAdd, Int.reduceSub, Int.reduceMul, reduceCtorEq, Bool.not_false, Bool.not_true, Bool.true_beq, Bool.false_beq, beq_self_eq_true, Bool.true_and, hki]
                (try simp only [List.length_append, List.length_cons, List.length_nil, List.length_map, List.length_take]); repeat (refine And.intro (by omega) ?_)
                refine ⟨i + 1, by omega, by omega, Weak.mk [] rfl rfl (Nat.le_refl _) rfl (by simp -dsimp only [WeakTm, WeakBx, CLe, CLeL, push_cast, ↓reduceIte, Nat.reduceAdd, Nat.reduceMul, Nat.reduceSub, Nat.reduceLeDiff, Nat.reduceEqDiff, Nat.reduceBEq, Int.reduceToNat, Nat.reduceLT, Int.reduceEq, Int.reduceLT, Int.reduceLE, Int.reduceAdd, Int.reduceSub, Int.reduceMul, reduceCtorEq, Bool.not_false, Bool.not_true, Bool.true_beq, Bool.false_beq, beq_self_eq_true, Bool.true_and]) (by simp -dsimp only [WeakTm, WeakBx, CLe, CLeL, push_cast, ↓reduceIte, Nat.reduceAdd, Nat.reduceMul, Nat.reduceSub, Nat.reduceLeDiff, Nat.reduceEqDiff, Nat.reduceBEq, Int.reduceToNat, Nat.reduceLT, Int.reduceEq, Int.reduceLT, Int.reduceLE, Int.reduceAdd, Int.reduceSub, Int.reduceMul, reduceCtorEq, Bool.not_false, Bool.not_true, Bool.true_beq, Bool.false_beq, beq_self_eq_true, Bool.true_and])⟩
        · simp -dsimp only [push_cast, ↓reduceIte, Nat.reduceAdd, Nat.reduceMul, Nat.reduceSub, Nat.reduceLeDiff, Nat.reduceEqDiff, Nat.reduceBEq, Int.reduceToNat, Nat.reduceLT, Int.reduceEq, Int.reduceLT, Int.reduceLE, Int.reduceAdd, Int.reduceSub, Int.reduceMul, reduceCtorEq, Bool.not_false, Bool.not_true, Bool.true_beq, Bool.false_beq, beq_self_eq_true, Bool.true_and, h]
          exact ⟨[], rfl, rfl, by simp -dsimp only [WeakTm, WeakBx, CLe, CLeL, push_cast, ↓reduceIte, Nat.reduceAdd, Nat.reduceMul, Nat.reduceSub, Nat.reduceLeDiff, Nat.reduceEqDiff, Nat.reduceBEq, Int.reduceToNat, Nat.reduceLT, Int.reduceEq, Int.reduceLT, Int.reduceLE, Int.reduceAdd, Int.reduceSub, Int.reduceMul, reduceCtorEq, Bool.not_false, Bool.not_true, Bool.true_beq, Bool.false_beq, beq_self_eq_true, Bool.true_and]⟩
    · rw [t1 rfl] at h3
      rw [t2 rfl] at h4
      refine Fun.of (fun _ => []) (by kernel_rfl) Tryd.func9 rfl rfl (Nat.le_of_ble_eq_true rfl) (by kernel_rfl) ?_; dsimp only [Tryd.f9, List.append_eq, List.cons_append, List.nil_append]
      simp -dsimp only [push_cast, ↓reduceIte, Nat.reduceAdd, Nat.reduceMul, Nat.reduceSub, Nat.reduceLeDiff, Nat.reduceEqDiff, Nat.reduceBEq, Int.reduceToNat, Nat.reduceLT, Int.reduceEq, Int.reduceLT, Int.reduceLE, Int.reduceAdd, Int.reduceSub, Int.reduceMul, reduceCtorEq, Bool.not_false, Bool.not_true, Bool.true_beq, Bool.false_beq, beq_self_eq_true, Bool.true_and]
      (first | refine call (awake19_fun) ?_ | refine callP (awake19_fun) ?_); simp -dsimp only [push_cast, ↓reduceIte, Nat.reduceAdd, Nat.reduceMul, Nat.reduceSub, Nat.reduceLeDiff, Nat.reduceEqDiff, Nat.reduceBEq, Int.reduceToNat, Nat.reduceLT, Int.reduceEq, Int.reduceLT, Int.reduceLE, Int.reduceAdd, Int.reduceSub, Int.reduceMul, reduceCtorEq, Bool.not_false, Bool.not_true, Bool.true_beq, Bool.false_beq, beq_self_eq_true, Bool.true_and]
      (first | refine call (hf) ?_ | refine callP (hf) ?_); simp -dsimp only [push_cast, ↓reduceIte, Nat.reduceAdd, Nat.reduceMul, Nat.reduceSub, Nat.reduceLeDiff, Nat.reduceEqDiff, Nat.reduceBEq, Int.reduceToNat, Nat.reduceLT, Int.reduceEq, Int.reduceLT, Int.reduceLE, Int.reduceAdd, Int.reduceSub, Int.reduceMul, reduceCtorEq, Bool.not_false, Bool.not_true, Bool.true_beq, Bool.false_beq, beq_self_eq_true, Bool.true_and, hemod]
      (try simp only [List.length_append, List.length_cons, List.length_nil, List.length_map, List.length_take]); repeat (refine And.intro (by omega) ?_)
      (first | refine call (h1) ?_ | refine callP (h1) ?_); simp -dsimp only [push_cast, ↓reduceIte, Nat.reduceAdd, Nat.reduceMul, Nat.reduceSub, Nat.reduceLeDiff, Nat.reduceEqDiff, Nat.reduceBEq, Int.reduceToNat, Nat.reduceLT, Int.reduceEq, Int.reduceLT, Int.reduceLE, Int.reduceAdd, Int.reduceSub, Int.reduceMul, reduceCtorEq, Bool.not_false, Bool.not_true, Bool.true_beq, Bool.false_beq, beq_self_eq_true, Bool.true_and]
      (first | refine call (h2) ?_ | refine callP (h2) ?_); simp -dsimp only [push_cast, ↓reduceIte, Nat.reduceAdd, Nat.reduceMul, Nat.reduceSub, Nat.reduceLeDiff, Nat.reduceEqDiff, Nat.reduceBEq, Int.reduceToNat, Nat.reduceLT, Int.reduceEq, Int.reduceLT, Int.reduceLE, Int.reduceAdd, Int.reduceSub, Int.reduceMul, reduceCtorEq, Bool.not_false, Bool.not_true, Bool.true_beq, Bool.false_beq, beq_self_eq_true, Bool.true_and]
      (try simp only [List.length_append, List.length_cons, List.length_nil, List.length_map, List.length_take]); repeat (refine And.intro (by omega) ?_)
      (first | refine call (h3) ?_ | refine callP (h3) ?_); simp -dsimp only [push_cast, ↓reduceIte, Nat.reduceAdd, Nat.reduceMul, Nat.reduceSub, Nat.reduceLeDiff, Nat.reduceEqDiff, Nat.reduceBEq, Int.reduceToNat, Nat.reduceLT, Int.reduceEq, Int.reduceLT, Int.reduceLE, Int.reduceAdd, Int.reduceSub, Int.reduceMul, reduceCtorEq, Bool.not_false, Bool.not_true, Bool.true_beq, Bool.false_beq, beq_self_eq_true, Bool.true_and]
      (try simp only [List.length_append, List.length_cons, List.length_nil, List.length_map, List.length_take]); repeat (refine And.intro (by omega) ?_)
      (first | refine call (h4) ?_ | refine callP (h4) ?_); simp -dsimp only [push_cast, ↓reduceIte, Nat.reduceAdd, Nat.reduceMul, Nat.reduceSub, Nat.reduceLeDiff, Nat.reduceEqDiff, Nat.reduceBEq, Int.reduceToNat, Nat.reduceLT, Int.reduceEq, Int.reduceLT, Int.reduceLE, Int.reduceAdd, Int.reduceSub, Int.reduceMul, reduceCtorEq, Bool.not_false, Bool.not_true, Bool.true_beq, Bool.false_beq, beq_self_eq_true, Bool.true_and]
      (try simp only [List.length_append, List.length_cons, List.length_nil, List.length_map, List.length_take]); repeat (refine And.intro (by omega) ?_)
      refine loop (fun i : Nat => ⟨[(0, .sl 5 (opsC l)), (6, .sc (.bool true)), (7, .sc (.bool false)), (8, .sc (.int .i64 i))], [], 0, 0⟩) (fun i => i ≤ l.length) (fun i => l.length - i) 0 (Nat.zero_le _) ?_ ?_
      · exact Weak.mk [] rfl rfl (Nat.le_refl _) rfl (by simp -dsimp only [WeakTm, WeakBx, CLe, CLeL, push_cast, ↓reduceIte, Nat.reduceAdd, Nat.reduceMul, Nat.reduceSub, Nat.reduceLeDiff, Nat.reduceEqDiff, Nat.reduceBEq, Int.reduceToNat, Nat.reduceLT, Int.reduceEq, Int.reduceLT, Int.reduceLE, Int.reduceAdd, Int.reduceSub, Int.reduceMul, reduceCtorEq, Bool.not_false, Bool.not_true, Bool.true_beq, Bool.false_beq, beq_self_eq_true, Bool.true_and]) (by simp -dsimp only [WeakTm, WeakBx, CLe, CLeL, push_cast, ↓reduceIte, Nat.reduceAdd, Nat.reduceMul, Nat.reduceSub, Nat.reduceLeDiff, Nat.reduceEqDiff, Nat.reduceBEq, Int.reduceToNat, Nat.reduceLT, Int.reduceEq, Int.reduceLT, Int.reduceLE, Int.reduceAdd, Int.reduceSub, Int.reduceMul, reduceCtorEq, Bool.not_false, Bool.not_true, Bool.true_beq, Bool.false_beq, beq_self_eq_true, Bool.true_and])
      · intro i hi
        by_cases h : i < l.length
        · have hgi := opsC_at l i h
          have hbi := fun h1 h2 => hb h1 h2 h
          have hai := fun h1 (k : Nat) (hk : k < i) => @ha h1 i k h hk
          cases ho : l[i]'h with
          | mk kd s a b d =>
            rw [ho] at hgi hbi
            simp only [opL] at hgi
            simp only at hbi
            have q1 := (slotted_fun kd).glob0 (G' := G1)
            simp -dsimp only [push_cast, ↓reduceIte, Nat.reduceAdd, Nat.reduceMul, Nat.reduceSub, Nat.reduceLeDiff, Nat.reduceEqDiff, Nat.reduceBEq, Int.reduceToNat, Nat.reduceLT, Int.reduceEq, Int.reduceLT, Int.reduceLE, Int.reduceAdd, Int.reduceSub, Int.reduceMul, reduceCtorEq, Bool.not_false, Bool.not_true, Bool.true_beq, Bool.false_beq, beq_self_eq_true, Bool.true_and, h, hgi]
            (try simp only [List.length_append, List.length_cons, List.length_nil, List.length_map, List.length_take]); repeat (refine And.intro (by omega) ?_)
            refine loop (fun k : Nat => ⟨[(0, .sl 5 (opsC l)), (6, .sc (.bool true)), (7, .sc (.bool false)), (8, .sc (.int .i64 i)), (9, .sc (.int .i64 k))], [], 0, 0⟩) (fun k => k ≤ i) (fun k => i - k) 0 (Nat.zero_le _) ?_ ?_
            · exact Weak.mk [] rfl rfl (Nat.le_refl _) rfl (by simp -dsimp only [WeakTm, WeakBx, CLe, CLeL, push_cast, ↓reduceIte, Nat.reduceAdd, Nat.reduceMul, Nat.reduceSub, Nat.reduceLeDiff, Nat.reduceEqDiff, Nat.reduceBEq, Int.reduceToNat, Nat.reduceLT, Int.reduceEq, Int.reduceLT, Int.reduceLE, Int.reduceAdd, Int.reduceSub, Int.reduceMul, reduceCtorEq, Bool.not_false, Bool.not_true, Bool.true_beq, Bool.false_beq, beq_self_eq_true, Bool.true_and]) (by simp -dsimp only [WeakTm, WeakBx, CLe, CLeL, push_cast, ↓reduceIte, Nat.reduceAdd, Nat.reduceMul, Nat.reduceSub, Nat.reduceLeDiff, Nat.reduceEqDiff, Nat.reduceBEq, Int.reduceToNat, Nat.reduceLT, Int.reduceEq, Int.reduceLT, Int.reduceLE, Int.reduceAdd, Int.reduceSub, Int.reduceMul, reduceCtorEq, Bool.not_false, Bool.not_true, Bool.true_beq, Bool.false_beq, beq_self_eq_true, Bool.true_and])
            · intro k hk
              by_cases hki : k < i
              · have hgk := opsC_at l k (by omega)
                have hak := hai rfl k hki
                cases ho2 : l[k]'(by omega) with
                | mk kd2 s2 a2 b2 d2 =>
                  rw [ho2] at hgk
                  rw [ho, ho2] at hak
                  simp only [opL] at hgk
                  have q2 := (slotted_fun kd2).glob0 (G' := G1)
                  simp only at hak
                  cases hs1 : slotted kd with
                  | false =>
                    rw [hs1] at q1
                    simp -dsimp only [push_cast, ↓reduceIte, Nat.reduceAdd, Nat.reduceMul, Nat.reduceSub, Nat.reduceLeDiff, Nat.reduceEqDiff, Nat.reduceBEq, Int.reduceToNat, Nat.reduceLT, Int.reduceEq, Int.reduceLT, Int.reduceLE, Int.reduceAdd, Int.reduceSub, Int.reduceMul, reduceCtorEq, Bool.not_false, Bool.not_true, Bool.true_beq, Bool.false_beq, beq_self_eq_true, Bool.true_and, hki, hgi, hgk]
                    (try simp only [List.length_append, List.length_cons, List.length_nil, List.length_map, List.length_take]); repeat (refine And.intro (by omega) ?_)
                    (first | refine call (q1) ?_ | refine callP (q1) ?_); simp -dsimp only [push_cast, ↓reduceIte, Nat.reduceAdd, Nat.reduceMul, Nat.reduceSub, Nat.reduceLeDiff, Nat.reduceEqDiff, Nat.reduceBEq, Int.reduceToNat, Nat.reduceLT, Int.reduceEq, Int.reduceLT, Int.reduceLE, Int.reduceAdd, Int.reduceSub, Int.reduceMul, reduceCtorEq, Bool.not_false, Bool.not_true, Bool.true_beq, Bool.false_beq, beq_self_eq_true, Bool.true_and, hgk]
                    (try simp only [List.length_append, List.length_cons, List.length_nil, List.length_map, List.length_take]); repeat (refine And.intro (by omega) ?_)
                    refine ⟨k + 1, by omega, by omega, Weak.mk [] rfl rfl (Nat.le_refl _) rfl (by simp -dsimp only [WeakTm, WeakBx, CLe, CLeL, push_cast, ↓reduceIte, Nat.reduceAdd, Nat.reduceMul, Nat.reduceSub, Nat.reduceLeDiff, Nat.reduceEqDiff, Nat.reduceBEq, Int.reduceToNat, Nat.reduceLT, Int.reduceEq, Int.reduceLT, Int.reduceLE, Int.reduceAdd, Int.reduceSub, Int.reduceMul, reduceCtorEq, Bool.not_false, Bool.not_true, Bool.true_beq, Bool.false_beq, beq_self_eq_true, Bool.true_and]) (by simp -dsimp only [WeakTm, WeakBx, CLe, CLeL, push_cast, ↓reduceIte, Nat.reduceAdd, Nat.reduceMul, Nat.reduceSub, Nat.reduceLeDiff, Nat.reduceEqDiff, Nat.reduceBEq, Int.reduceToNat, Nat.reduceLT, Int.reduceEq, Int.reduceLT, Int.reduceLE, Int.reduceAdd, Int.reduceSub, Int.reduceMul, reduceCtorEq, Bool.not_false, Bool.not_true, Bool.true_beq, Bool.false_beq, beq_self_eq_true, Bool.true_and])⟩
                  | true =>
                    rw [hs1] at q1
                    cases hs2 : slotted kd2 with
                    | false =>
                      rw [hs2] at q2
                      simp -dsimp only [push_cast, ↓reduceIte, Nat.reduceAdd, Nat.reduceMul, Nat.reduceSub, Nat.reduceLeDiff, Nat.reduceEqDiff, Nat.reduceBEq, Int.reduceToNat, Nat.reduceLT, Int.reduceEq, Int.reduceLT, Int.reduceLE, Int.reduceAdd, Int.reduceSub, Int.reduceMul, reduceCtorEq, Bool.not_false, Bool.not_true, Bool.true_beq, Bool.false_beq, beq_self_eq_true, Bool.true_and, hki, hgi, hgk]
                      (try simp only [List.length_append, List.length_cons, List.length_nil, List.length_map, List.length_take]); repeat (refine And.intro (by omega) ?_)
                      (first | refine call (q1) ?_ | refine callP (q1) ?_); simp -dsimp only [push_cast, ↓reduceIte, Nat.reduceAdd, Nat.reduceMul, Nat.reduceSub, Nat.reduceLeDiff, Nat.reduceEqDiff, Nat.reduceBEq, Int.reduceToNat, Nat.reduceLT, Int.reduceEq, Int.reduceLT, Int.reduceLE, Int.reduceAdd, Int.reduceSub, Int.reduceMul, reduceCtorEq, Bool.not_false, Bool.not_true, Bool.true_beq, Bool.false_beq, beq_self_eq_true, Bool.true_and, hgk]
                      (try simp only [List.length_append, List.length_cons, List.length_nil, List.length_map, List.length_take]); repeat (refine And.intro (by omega) ?_)
                      (first | refine call (q2) ?_ | refine callP (q2) ?_); simp -dsimp only [push_cast, ↓reduceIte, Nat.reduceAdd, Nat.reduceMul, Nat.reduceSub, Nat.reduceLeDiff, Nat.reduceEqDiff, Nat.reduceBEq, Int.reduceToNat, Nat.reduceLT, Int.reduceEq, Int.reduceLT, Int.reduceLE, Int.reduceAdd, Int.reduceSub, Int.reduceMul, reduceCtorEq, Bool.not_false, Bool.not_true, Bool.true_beq, Bool.false_beq, beq_self_eq_true, Bool.true_and]
                      (try simp only [List.length_append, List.length_cons, List.length_nil, List.length_map, List.length_take]); repeat (refine And.intro (by omega) ?_)
                      refine ⟨k + 1, by omega, by omega, Weak.mk [] rfl rfl (Nat.le_refl _) rfl (by simp -dsimp only [WeakTm, WeakBx, CLe, CLeL, push_cast, ↓reduceIte, Nat.reduceAdd, Nat.reduceMul, Nat.reduceSub, Nat.reduceLeDiff, Nat.reduceEqDiff, Nat.reduceBEq, Int.reduceToNat, Nat.reduceLT, Int.reduceEq, Int.reduceLT, Int.reduceLE, Int.reduceAdd, Int.reduceSub, Int.reduceMul, reduceCtorEq, Bool.not_false, Bool.not_true, Bool.true_beq, Bool.false_beq, beq_self_eq_true, Bool.true_and]) (by simp -dsimp only [WeakTm, WeakBx, CLe, CLeL, push_cast, ↓reduceIte, Nat.reduceAdd, Nat.reduceMul, Nat.reduceSub, Nat.reduceLeDiff, Nat.reduceEqDiff, Nat.reduceBEq, Int.reduceToNat, Nat.reduceLT, Int.reduceEq, Int.reduceLT, Int.reduceLE, Int.reduceAdd, Int.reduceSub, Int.reduceMul, reduceCtorEq, Bool.not_false, Bool.not_true, Bool.true_beq, Bool.false_beq, beq_self_eq_true, Bool.true_and])⟩
                    | true =>
                      rw [hs2] at q2
                      have hne := hak hs1 hs2
                      simp -dsimp only [push_cast, ↓reduceIte, Nat.reduceAdd, Nat.reduceMul, Nat.reduceSub, Nat.reduceLeDiff, Nat.reduceEqDiff, Nat.reduceBEq, Int.reduceToNat, Nat.reduceLT, Int.reduceEq, Int.reduceLT, Int.reduceLE, Int.reduceAdd, Int.reduceSub, Int.reduceMul, reduceCtorEq, Bool.not_false, Bool.not_true, Bool.true_beq, Bool.false_beq, beq_self_eq_true, Bool.true_and, hki, hgi, hgk]
                      (try simp only [List.length_append, List.length_cons, List.length_nil, List.length_map, List.length_take]); repeat (refine And.intro (by omega) ?_)
                      (first | refine call (q1) ?_ | refine callP (q1) ?_); simp -dsimp only [push_cast, ↓reduceIte, Nat.reduceAdd, Nat.reduceMul, Nat.reduceSub, Nat.reduceLeDiff, Nat.reduceEqDiff, Nat.reduceBEq, Int.reduceToNat, Nat.reduceLT, Int.reduceEq, Int.reduceLT, Int.reduceLE, Int.reduceAdd, Int.reduceSub, Int.reduceMul, reduceCtorEq, Bool.not_false, Bool.not_true, Bool.true_beq, Bool.false_beq, beq_self_eq_true, Bool.true_and, hgk]
                      (try simp only [List.length_append, List.length_cons, List.length_nil, List.length_map, List.length_take]); repeat (refine And.intro (by omega) ?_)
                      (first | refine call (q2) ?_ | refine callP (q2) ?_); simp -dsimp only [push_cast, ↓reduceIte, Nat.reduceAdd, Nat.reduceMul, Nat.reduceSub, Nat.reduceLeDiff, Nat.reduceEqDiff, Nat.reduceBEq, Int.reduceToNat, Nat.reduceLT, Int.reduceEq, Int.reduceLT, Int.reduceLE, Int.reduceAdd, Int.reduceSub, Int.reduceMul, reduceCtorEq, Bool.not_false, Bool.not_true, Bool.true_beq, Bool.false_beq, beq_self_eq_true, Bool.true_and, hgi, hgk, hne]
                      (try simp only [List.length_append, List.length_cons, List.length_nil, List.length_map, List.length_take]); repeat (refine And.intro (by omega) ?_)
                      refine ⟨k + 1, by omega, by omega, Weak.mk [] rfl rfl (Nat.le_refl _) rfl (by simp -dsimp only [WeakTm, WeakBx, CLe, CLeL, push_cast, ↓reduceIte, Nat.reduceAdd, Nat.reduceMul, Nat.reduceSub, Nat.reduceLeDiff, Nat.reduceEqDiff, Nat.reduceBEq, Int.reduceToNat, Nat.reduceLT, Int.reduceEq, Int.reduceLT, Int.reduceLE, Int.reduceAdd, Int.reduceSub, Int.reduceMul, reduceCtorEq, Bool.not_false, Bool.not_true, Bool.true_beq, Bool.false_beq, beq_self_eq_true, Bool.true_and]) (by simp -dsimp only [WeakTm, WeakBx, CLe, CLeL, push_cast, ↓reduceIte, Nat.reduceAdd, Nat.reduceMul, Nat.reduceSub, Nat.reduceLeDiff, Nat.reduceEqDiff, Nat.reduceBEq, Int.reduceToNat, Nat.reduceLT, Int.reduceEq, Int.reduceLT, Int.reduceLE, Int.reduceAdd, Int.reduceSub, Int.reduceMul, reduceCtorEq, Bool.not_false, Bool.not_true, Bool.true_beq, Bool.false_beq, beq_self_eq_true, Bool.true_and])⟩
              · simp -dsimp only [push_cast, ↓reduceIte, Nat.reduceAdd, Nat.reduceMul, Nat.reduceSub, Nat.reduceLeDiff, Nat.reduceEqDiff, Nat.reduceBEq, Int.reduceToNat, Nat.reduceLT, Int.reduceEq, Int.reduceLT, Int.reduceLE, Int.reduceAdd, Int.reduceSub, Int.reduceMul, reduceCtorEq, Bool.not_false, Bool.not_true, Bool.true_beq, Bool.false_beq, beq_self_eq_true, Bool.true_and, hki]
                (try simp only [List.length_append, List.length_cons, List.length_nil, List.length_map, List.length_take]); repeat (refine And.intro (by omega) ?_)
                refine ⟨i + 1, by omega, by omega, Weak.mk [] rfl rfl (Nat.le_refl _) rfl (by simp -dsimp only [WeakTm, WeakBx, CLe, CLeL, push_cast, ↓reduceIte, Nat.reduceAdd, Nat.reduceMul, Nat.reduceSub, Nat.reduceLeDiff, Nat.reduceEqDiff, Nat.reduceBEq, Int.reduceToNat, Nat.reduceLT, Int.reduceEq, Int.reduceLT, Int.reduceLE, Int.reduceAdd, Int.reduceSub, Int.reduceMul, reduceCtorEq, Bool.not_false, Bool.not_true, Bool.true_beq, Bool.false_beq, beq_self_eq_true, Bool.true_and]) (by simp -dsimp only [WeakTm, WeakBx, CLe, CLeL, push_cast, ↓reduceIte, Nat.reduceAdd, Nat.reduceMul, Nat.reduceSub, Nat.reduceLeDiff, Nat.reduceEqDiff, Nat.reduceBEq, Int.reduceToNat, Nat.reduceLT, Int.reduceEq, Int.reduceLT, Int.reduceLE, Int.reduceAdd, Int.reduceSub, Int.reduceMul, reduceCtorEq, Bool.not_false, Bool.not_true, Bool.true_beq, Bool.false_beq, beq_self_eq_true, Bool.true_and])⟩
        · simp -dsimp only [push_cast, ↓reduceIte, Nat.reduceAdd, Nat.reduceMul, Nat.reduceSub, Nat.reduceLeDiff, Nat.reduceEqDiff, Nat.reduceBEq, Int.reduceToNat, Nat.reduceLT, Int.reduceEq, Int.reduceLT, Int.reduceLE, Int.reduceAdd, Int.reduceSub, Int.reduceMul, reduceCtorEq, Bool.not_false, Bool.not_true, Bool.true_beq, Bool.false_beq, beq_self_eq_true, Bool.true_and, h]
          exact ⟨[], rfl, rfl, by simp -dsimp only [WeakTm, WeakBx, CLe, CLeL, push_cast, ↓reduceIte, Nat.reduceAdd, Nat.reduceMul, Nat.reduceSub, Nat.reduceLeDiff, Nat.reduceEqDiff, Nat.reduceBEq, Int.reduceToNat, Nat.reduceLT, Int.reduceEq, Int.reduceLT, Int.reduceLE, Int.reduceAdd, Int.reduceSub, Int.reduceMul, reduceCtorEq, Bool.not_false, Bool.not_true, Bool.true_beq, Bool.false_beq, beq_self_eq_true, Bool.true_and]⟩
    · rw [t1 rfl] at h3
      rw [t2 rfl] at h4
      rw [t3 rfl] at h5
      rw [t4 rfl] at h6
      refine Fun.of (fun _ => []) (by kernel_rfl) Tryd.func9 rfl rfl (Nat.le_of_ble_eq_true rfl) (by kernel_rfl) ?_; dsimp only [Tryd.f9, List.append_eq, List.cons_append, List.nil_append]
      simp -dsimp only [push_cast, ↓reduceIte, Nat.reduceAdd, Nat.reduceMul, Nat.reduceSub, Nat.reduceLeDiff, Nat.reduceEqDiff, Nat.reduceBEq, Int.reduceToNat, Nat.reduceLT, Int.reduceEq, Int.reduceLT, Int.reduceLE, Int.reduceAdd, Int.reduceSub, Int.reduceMul, reduceCtorEq, Bool.not_false, Bool.not_true, Bool.true_beq, Bool.false_beq, beq_self_eq_true, Bool.true_and]
      (first | refine call (awake19_fun) ?_ | refine callP (awake19_fun) ?_); simp -dsimp only [push_cast, ↓reduceIte, Nat.reduceAdd, Nat.reduceMul, Nat.reduceSub, Nat.reduceLeDiff, Nat.reduceEqDiff, Nat.reduceBEq, Int.reduceToNat, Nat.reduceLT, Int.reduceEq, Int.reduceLT, Int.reduceLE, Int.reduceAdd, Int.reduceSub, Int.reduceMul, reduceCtorEq, Bool.not_false, Bool.not_true, Bool.true_beq, Bool.false_beq, beq_self_eq_true, Bool.true_and]
      (first | refine call (hf) ?_ | refine callP (hf) ?_); simp -dsimp only [push_cast, ↓reduceIte, Nat.reduceAdd, Nat.reduceMul, Nat.reduceSub, Nat.reduceLeDiff, Nat.reduceEqDiff, Nat.reduceBEq, Int.reduceToNat, Nat.reduceLT, Int.reduceEq, Int.reduceLT, Int.reduceLE, Int.reduceAdd, Int.reduceSub, Int.reduceMul, reduceCtorEq, Bool.not_false, Bool.not_true, Bool.true_beq, Bool.false_beq, beq_self_eq_true, Bool.true_and, hemod]
      (try simp only [List.length_append, List.length_cons, List.length_nil, List.length_map, List.length_take]); repeat (refine And.intro (by omega) ?_)
      (first | refine call (h1) ?_ | refine callP (h1) ?_); simp -dsimp only [push_cast, ↓reduceIte, Nat.reduceAdd, Nat.reduceMul, Nat.reduceSub, Nat.reduceLeDiff, Nat.reduceEqDiff, Nat.reduceBEq, Int.reduceToNat, Nat.reduceLT, Int.reduceEq, Int.reduceLT, Int.reduceLE, Int.reduceAdd, Int.reduceSub, Int.reduceMul, reduceCtorEq, Bool.not_false, Bool.not_true, Bool.true_beq, Bool.false_beq, beq_self_eq_true, Bool.true_and]
      (first | refine call (h2) ?_ | refine callP (h2) ?_); simp -dsimp only [push_cast, ↓reduceIte, Nat.reduceAdd, Nat.reduceMul, Nat.reduceSub, Nat.reduceLeDiff, Nat.reduceEqDiff, Nat.reduceBEq, Int.reduceToNat, Nat.reduceLT, Int.reduceEq, Int.reduceLT, Int.reduceLE, Int.reduceAdd, Int.reduceSub, Int.reduceMul, reduceCtorEq, Bool.not_false, Bool.not_true, Bool.true_beq, Bool.false_beq, beq_self_eq_true, Bool.true_and]
      (try simp only [List.length_append, List.length_cons, List.length_nil, List.length_map, List.length_take]); repeat (refine And.intro (by omega) ?_)
      (first | refine call (h3) ?_ | refine callP (h3) ?_); simp -dsimp only [push_cast, ↓reduceIte, Nat.reduceAdd, Nat.reduceMul, Nat.reduceSub, Nat.reduceLeDiff, Nat.reduceEqDiff, Nat.reduceBEq, Int.reduceToNat, Nat.reduceLT, Int.reduceEq, Int.reduceLT, Int.reduceLE, Int.reduceAdd, Int.reduceSub, Int.reduceMul, reduceCtorEq, Bool.not_false, Bool.not_true, Bool.true_beq, Bool.false_beq, beq_self_eq_true, Bool.true_and]
      (try simp only [List.length_append, List.length_cons, List.length_nil, List.length_map, List.length_take]); repeat (refine And.intro (by omega) ?_)
      (first | refine call (h4) ?_ | refine callP (h4) ?_); simp -dsimp only [push_cast, ↓reduceIte, Nat.reduceAdd, Nat.reduceMul, Nat.reduceSub, Nat.reduceLeDiff, Nat.reduceEqDiff, Nat.reduceBEq, Int.reduceToNat, Nat.reduceLT, Int.reduceEq, Int.reduceLT, Int.reduceLE, Int.reduceAdd, Int.reduceSub, Int.reduceMul, reduceCtorEq, Bool.not_false, Bool.not_true, Bool.true_beq, Bool.false_beq, beq_self_eq_true, Bool.true_and]
      (try simp only [List.length_append, List.length_cons, List.length_nil, List.length_map, List.length_take]); repeat (refine And.intro (by omega) ?_)
      (first | refine call (h5) ?_ | refine callP (h5) ?_); simp -dsimp only [push_cast, ↓reduceIte, Nat.reduceAdd, Nat.reduceMul, Nat.reduceSub, Nat.reduceLeDiff, Nat.reduceEqDiff, Nat.reduceBEq, Int.reduceToNat, Nat.reduceLT, Int.reduceEq, Int.reduceLT, Int.reduceLE, Int.reduceAdd, Int.reduceSub, Int.reduceMul, reduceCtorEq, Bool.not_false, Bool.not_true, Bool.true_beq, Bool.false_beq, beq_self_eq_true, Bool.true_and]
      (try simp only [List.length_append, List.length_cons, List.length_nil, List.length_map, List.length_take]); repeat (refine And.intro (by omega) ?_)
      (first | refine call (h6) ?_ | refine callP (h6) ?_); simp -dsimp only [push_cast, ↓reduceIte, Nat.reduceAdd, Nat.reduceMul, Nat.reduceSub, Nat.reduceLeDiff, Nat.reduceEqDiff, Nat.reduceBEq, Int.reduceToNat, Nat.reduceLT, Int.reduceEq, Int.reduceLT, Int.reduceLE, Int.reduceAdd, Int.reduceSub, Int.reduceMul, reduceCtorEq, Bool.not_false, Bool.not_true, Bool.true_beq, Bool.false_beq, beq_self_eq_true, Bool.true_and]
      (try simp only [List.length_append, List.length_cons, List.length_nil, List.length_map, List.length_take]); repeat (refine And.intro (by omega) ?_)
      refine loop (fun i : Nat => ⟨[(0, .sl 5 (opsC l)), (6, .sc (.bool true)), (7, .sc (.bool true)), (8, .sc (.int .i64 i))], [], 0, 0⟩) (fun i => i ≤ l.length) (fun i => l.length - i) 0 (Nat.zero_le _) ?_ ?_
      · exact Weak.mk [] rfl rfl (Nat.le_refl _) rfl (by simp -dsimp only [WeakTm, WeakBx, CLe, CLeL, push_cast, ↓reduceIte, Nat.reduceAdd, Nat.reduceMul, Nat.reduceSub, Nat.reduceLeDiff, Nat.reduceEqDiff, Nat.reduceBEq, Int.reduceToNat, Nat.reduceLT, Int.reduceEq, Int.reduceLT, Int.reduceLE, Int.reduceAdd, Int.reduceSub, Int.reduceMul, reduceCtorEq, Bool.not_false, Bool.not_true, Bool.true_beq, Bool.false_beq, beq_self_eq_true, Bool.true_and]) (by simp -dsimp only [WeakTm, WeakBx, CLe, CLeL, push_cast, ↓reduceIte, Nat.reduceAdd, Nat.reduceMul, Nat.reduceSub, Nat.reduceLeDiff, Nat.reduceEqDiff, Nat.reduceBEq, Int.reduceToNat, Nat.reduceLT, Int.reduceEq, Int.reduceLT, Int.reduceLE, Int.reduceAdd, Int.reduceSub, Int.reduceMul, reduceCtorEq, Bool.not_false, Bool.not_true, Bool.true_beq, Bool.false_beq, beq_self_eq_true, Bool.true_and])
      · intro i hi
        by_cases h : i < l.length
        · have hgi := opsC_at l i h
          have hbi := fun h1 h2 => hb h1 h2 h
          have hai := fun h1 (k : Nat) (hk : k < i) => @ha h1 i k h hk
          cases ho : l[i]'h with
          | mk kd s a b d =>
            rw [ho] at hgi hbi
            simp only [opL] at hgi
            simp only at hbi
            have q1 := (slotted_fun kd).glob0 (G' := G1)
            have hk6 := hbi (by simp) (by simp)
            simp -dsimp only [push_cast, ↓reduceIte, Nat.reduceAdd, Nat.reduceMul, Nat.reduceSub, Nat.reduceLeDiff, Nat.reduceEqDiff, Nat.reduceBEq, Int.reduceToNat, Nat.reduceLT, Int.reduceEq, Int.reduceLT, Int.reduceLE, Int.reduceAdd, Int.reduceSub, Int.reduceMul, reduceCtorEq, Bool.not_false, Bool.not_true, Bool.true_beq, Bool.false_beq, beq_self_eq_true, Bool.true_and, h, hgi, hk6]
            (try simp only [List.length_append, List.length_cons, List.length_nil, List.length_map, List.length_take]); repeat (refine And.intro (by omega) ?_)
            refine loop (fun k : Nat => ⟨[(0, .sl 5 (opsC l)), (6, .sc (.bool true)), (7, .sc (.bool true)), (8, .sc (.int .i64 i)), (9, .sc (.int .i64 k))], [], 0, 0⟩) (fun k => k ≤ i) (fun k => i - k) 0 (Nat.zero_le _) ?_ ?_
            · exact Weak.mk [] rfl rfl (Nat.le_refl _) rfl (by simp -dsimp only [WeakTm, WeakBx, CLe, CLeL, push_cast, ↓reduceIte, Nat.reduceAdd, Nat.reduceMul, Nat.reduceSub, Nat.reduceLeDiff, Nat.reduceEqDiff, Nat.reduceBEq, Int.reduceToNat, Nat.reduceLT, Int.reduceEq, Int.reduceLT, Int.reduceLE, Int.reduceAdd, Int.reduceSub, Int.reduceMul, reduceCtorEq, Bool.not_false, Bool.not_true, Bool.true_beq, Bool.false_beq, beq_self_eq_true, Bool.true_and]) (by simp -dsimp only [WeakTm, WeakBx, CLe, CLeL, push_cast, ↓reduceIte, Nat.reduceAdd, Nat.reduceMul, Nat.reduceSub, Nat.reduceLeDiff, Nat.reduceEqDiff, Nat.reduceBEq, Int.reduceToNat, Nat.reduceLT, Int.reduceEq, Int.reduceLT, Int.reduceLE, Int.reduceAdd, Int.reduceSub, Int.reduceMul, reduceCtorEq, Bool.not_false, Bool.not_true, Bool.true_beq, Bool.false_beq, beq_self_eq_true, Bool.true_and])
            · intro k hk
              by_cases hki : k < i
              · have hgk := opsC_at l k (by omega)
                have hak := hai rfl k hki
                cases ho2 : l[k]'(by omega) with
                | mk kd2 s2 a2 b2 d2 =>
                  rw [ho2] at hgk
                  rw [ho, ho2] at hak
                  simp only [opL] at hgk
                  have q2 := (slotted_fun kd2).glob0 (G' := G1)
                  simp only at hak
                  cases hs1 : slotted kd with
                  | false =>
                    rw [hs1] at q1
                    simp -dsimp only [push_cast, ↓reduceIte, Nat.reduceAdd, Nat.reduceMul, Nat.reduceSub, Nat.reduceLeDiff, Nat.reduceEqDiff, Nat.reduceBEq, Int.reduceToNat, Nat.reduceLT, Int.reduceEq, Int.reduceLT, Int.reduceLE, Int.reduceAdd, Int.reduceSub, Int.reduceMul, reduceCtorEq, Bool.not_false, Bool.not_true, Bool.true_beq, Bool.false_beq, beq_self_eq_true, Bool.true_and, hki, hgi, hgk]
                    (try simp only [List.length_append, List.length_cons, List.length_nil, List.length_map, List.length_take]); repeat (refine And.intro (by omega) ?_)
                    (first | refine call (q1) ?_ | refine callP (q1) ?_); simp -dsimp only [push_cast, ↓reduceIte, Nat.reduceAdd, Nat.reduceMul, Nat.reduceSub, Nat.reduceLeDiff, Nat.reduceEqDiff, Nat.reduceBEq, Int.reduceToNat, Nat.reduceLT, Int.reduceEq, Int.reduceLT, Int.reduceLE, Int.reduceAdd, Int.reduceSub, Int.reduceMul, reduceCtorEq, Bool.not_false, Bool.not_true, Bool.true_beq, Bool.false_beq, beq_self_eq_true, Bool.true_and, hgk]
                    (try simp only [List.length_append, List.length_cons, List.length_nil, List.length_map, List.length_take]); repeat (refine And.intro (by omega) ?_)
                    refine ⟨k + 1, by omega, by omega, Weak.mk [] rfl rfl (Nat.le_refl _) rfl (by simp -dsimp only [WeakTm, WeakBx, CLe, CLeL, push_cast, ↓reduceIte, Nat.reduceAdd, Nat.reduceMul, Nat.reduceSub, Nat.reduceLeDiff, Nat.reduceEqDiff, Nat.reduceBEq, Int.reduceToNat, Nat.reduceLT, Int.reduceEq, Int.reduceLT, Int.reduceLE, Int.reduceAdd, Int.reduceSub, Int.reduceMul, reduceCtorEq, Bool.not_false, Bool.not_true, Bool.true_beq, Bool.false_beq, beq_self_eq_true, Bool.true_and]) (by simp -dsimp only [WeakTm, WeakBx, CLe, CLeL, push_cast, ↓reduceIte, Nat.reduceAdd, Nat.reduceMul, Nat.reduceSub, Nat.reduceLeDiff, Nat.reduceEqDiff, Nat.reduceBEq, Int.reduceToNat, Nat.reduceLT, Int.reduceEq, Int.reduceLT, Int.reduceLE, Int.reduceAdd, Int.reduceSub, Int.reduceMul, reduceCtorEq, Bool.not_false, Bool.not_true, Bool.true_beq, Bool.false_beq, beq_self_eq_true, Bool.true_and])⟩
                  | true =>
                    rw [hs1] at q1
                    cases hs2 : slotted kd2 with
                    | false =>
                      rw [hs2] at q2
                      simp -dsimp only [push_cast, ↓reduceIte, Nat.reduceAdd, Nat.reduceMul, Nat.reduceSub, Nat.reduceLeDiff, Nat.reduceEqDiff, Nat.reduceBEq, Int.reduceToNat, Nat.reduceLT, Int.reduceEq, Int.reduceLT, Int.reduceLE, Int.reduceAdd, Int.reduceSub, Int.reduceMul, reduceCtorEq, Bool.not_false, Bool.not_true, Bool.true_beq, Bool.false_beq, beq_self_eq_true, Bool.true_and, hki, hgi, hgk]
                      (try simp only [List.length_append, List.length_cons, List.length_nil, List.length_map, List.length_take]); repeat (refine And.intro (by omega) ?_)
                      (first | refine call (q1) ?_ | refine callP (q1) ?_); simp -dsimp only [push_cast, ↓reduceIte, Nat.reduceAdd, Nat.reduceMul, Nat.reduceSub, Nat.reduceLeDiff, Nat.reduceEqDiff, Nat.reduceBEq, Int.reduceToNat, Nat.reduceLT, Int.reduceEq, Int.reduceLT, Int.reduceLE, Int.reduceAdd, Int.reduceSub, Int.reduceMul, reduceCtorEq, Bool.not_false, Bool.not_true, Bool.true_beq, Bool.false_beq, beq_self_eq_true, Bool.true_and, hgk]
                      (try simp only [List.length_append, List.length_cons, List.length_nil, List.length_map, List.length_take]); repeat (refine And.intro (by omega) ?_)
                      (first | refine call (q2) ?_ | refine callP (q2) ?_); simp -dsimp only [push_cast, ↓reduceIte, Nat.reduceAdd, Nat.reduceMul, Nat.reduceSub, Nat.reduceLeDiff, Nat.reduceEqDiff, Nat.reduceBEq, Int.reduceToNat, Nat.reduceLT, Int.reduceEq, Int.reduceLT, Int.reduceLE, Int.reduceAdd, Int.reduceSub, Int.reduceMul, reduceCtorEq, Bool.not_false, Bool.not_true, Bool.true_beq, Bool.false_beq, beq_self_eq_true, Bool.true_and]
                      (try simp only [List.length_append, List.length_cons, List.length_nil, List.length_map, List.length_take]); repeat (refine And.intro (by omega) ?_)
                      refine ⟨k + 1, by omega, by omega, Weak.mk [] rfl rfl (Nat.le_refl _) rfl (by simp -dsimp only [WeakTm, WeakBx, CLe, CLeL, push_cast, ↓reduceIte, Nat.reduceAdd, Nat.reduceMul, Nat.reduceSub, Nat.reduceLeDiff, Nat.reduceEqDiff, Nat.reduceBEq, Int.reduceToNat, Nat.reduceLT, Int.reduceEq, Int.reduceLT, Int.reduceLE, Int.reduceAdd, Int.reduceSub, Int.reduceMul, reduceCtorEq, Bool.not_false, Bool.not_true, Bool.true_beq, Bool.false_beq, beq_self_eq_true, Bool.true_and]) (by simp -dsimp only [WeakTm, WeakBx, CLe, CLeL, push_cast, ↓reduceIte, Nat.reduceAdd, Nat.reduceMul, Nat.reduceSub, Nat.reduceLeDiff, Nat.reduceEqDiff, Nat.reduceBEq, Int.reduceToNat, Nat.reduceLT, Int.reduceEq, Int.reduceLT, Int.reduceLE, Int.reduceAdd, Int.reduceSub, Int.reduceMul, reduceCtorEq, Bool.not_false, Bool.not_true, Bool.true_beq, Bool.false_beq, beq_self_eq_true, Bool.true_and])⟩
                    | true =>
                      rw [hs2] at q2
                      have hne := hak hs1 hs2
                      simp -dsimp only [push_cast, ↓reduceIte, Nat.reduceAdd, Nat.reduceMul, Nat.reduceSub, Nat.reduceLeDiff, Nat.reduceEqDiff, Nat.reduceBEq, Int.reduceToNat, Nat.reduceLT, Int.reduceEq, Int.reduceLT, Int.reduceLE, Int.reduceAdd, Int.reduceSub, Int.reduceMul, reduceCtorEq, Bool.not_false, Bool.not_true, Bool.true_beq, Bool.false_beq, beq_self_eq_true, Bool.true_and, hki, hgi, hgk]
                      (try simp only [List.length_append, List.length_cons, List.length_nil, List.length_map, List.length_take]); repeat (refine And.intro (by omega) ?_)
                      (first | refine call (q1) ?_ | refine callP (q1) ?_); simp -dsimp only [push_cast, ↓reduceIte, Nat.reduceAdd, Nat.reduceMul, Nat.reduceSub, Nat.reduceLeDiff, Nat.reduceEqDiff, Nat.reduceBEq, Int.reduceToNat, Nat.reduceLT, Int.reduceEq, Int.reduceLT, Int.reduceLE, Int.reduceAdd, Int.reduceSub, Int.reduceMul, reduceCtorEq, Bool.not_false, Bool.not_true, Bool.true_beq, Bool.false_beq, beq_self_eq_true, Bool.true_and, hgk]
                      (try simp only [List.length_append, List.length_cons, List.length_nil, List.length_map, List.length_take]); repeat (refine And.intro (by omega) ?_)
                      (first | refine call (q2) ?_ | refine callP (q2) ?_); simp -dsimp only [push_cast, ↓reduceIte, Nat.reduceAdd, Nat.reduceMul, Nat.reduceSub, Nat.reduceLeDiff, Nat.reduceEqDiff, Nat.reduceBEq, Int.reduceToNat, Nat.reduceLT, Int.reduceEq, Int.reduceLT, Int.reduceLE, Int.reduceAdd, Int.reduceSub, Int.reduceMul, reduceCtorEq, Bool.not_false, Bool.not_true, Bool.true_beq, Bool.false_beq, beq_self_eq_true, Bool.true_and, hgi, hgk, hne]
                      (try simp only [List.length_append, List.length_cons, List.length_nil, List.length_map, List.length_take]); repeat (refine And.intro (by omega) ?_)
                      refine ⟨k + 1, by omega, by omega, Weak.mk [] rfl rfl (Nat.le_refl _) rfl (by simp -dsimp only [WeakTm, WeakBx, CLe, CLeL, push_cast, ↓reduceIte, Nat.reduceAdd, Nat.reduceMul, Nat.reduceSub, Nat.reduceLeDiff, Nat.reduceEqDiff, Nat.reduceBEq, Int.reduceToNat, Nat.reduceLT, Int.reduceEq, Int.reduceLT, Int.reduceLE, Int.reduceAdd, Int.reduceSub, Int.reduceMul, reduceCtorEq, Bool.not_false, Bool.not_true, Bool.true_beq, Bool.false_beq, beq_self_eq_true, Bool.true_and]) (by simp -dsimp only [WeakTm, WeakBx, CLe, CLeL, push_cast, ↓reduceIte, Nat.reduceAdd, Nat.reduceMul, Nat.reduceSub, Nat.reduceLeDiff, Nat.reduceEqDiff, Nat.reduceBEq, Int.reduceToNat, Nat.reduceLT, Int.reduceEq, Int.reduceLT, Int.reduceLE, Int.reduceAdd, Int.reduceSub, Int.reduceMul, reduceCtorEq, Bool.not_false, Bool.not_true, Bool.true_beq, Bool.false_beq, beq_self_eq_true, Bool.true_and])⟩
              · simp -dsimp only [push_cast, ↓reduceIte, Nat.reduceAdd, Nat.reduceMul, Nat.reduceSub, Nat.reduceLeDiff, Nat.reduceEqDiff, Nat.reduceBEq, Int.reduceToNat, Nat.reduceLT, Int.reduceEq, Int.reduceLT, Int.reduceLE, Int.reduceAdd, Int.reduceSub, Int.reduceMul, reduceCtorEq, Bool.not_false, Bool.not_true, Bool.true_beq, Bool.false_beq, beq_self_eq_true, Bool.true_and, hki]
                (try simp only [List.length_append, List.length_cons, List.length_nil, List.length_map, List.length_take]); repeat (refine And.intro (by omega) ?_)
                refine ⟨i + 1, by omega, by omega, Weak.mk [] rfl rfl (Nat.le_refl _) rfl (by simp -dsimp only [WeakTm, WeakBx, CLe, CLeL, push_cast, ↓reduceIte, Nat.reduceAdd, Nat.reduceMul, Nat.reduceSub, Nat.reduceLeDiff, Nat.reduceEqDiff, Nat.reduceBEq, Int.reduceToNat, Nat.reduceLT, Int.reduceEq, Int.reduceLT, Int.reduceLE, Int.reduceAdd, Int.reduceSub, Int.reduceMul, reduceCtorEq, Bool.not_false, Bool.not_true, Bool.true_beq, Bool.false_beq, beq_self_eq_true, Bool.true_and]) (by simp -dsimp only [WeakTm, WeakBx, CLe, CLeL, push_cast, ↓reduceIte, Nat.reduceAdd, Nat.reduceMul, Nat.reduceSub, Nat.reduceLeDiff, Nat.reduceEqDiff, Nat.reduceBEq, Int.reduceToNat, Nat.reduceLT, Int.reduceEq, Int.reduceLT, Int.reduceLE, Int.reduceAdd, Int.reduceSub, Int.reduceMul, reduceCtorEq, Bool.not_false, Bool.not_true, Bool.true_beq, Bool.false_beq, beq_self_eq_true, Bool.true_and])⟩
        · simp -dsimp only [push_cast, ↓reduceIte, Nat.reduceAdd, Nat.reduceMul, Nat.reduceSub, Nat.reduceLeDiff, Nat.reduceEqDiff, Nat.reduceBEq, Int.reduceToNat, Nat.reduceLT, Int.reduceEq, Int.reduceLT, Int.reduceLE, Int.reduceAdd, Int.reduceSub, Int.reduceMul, reduceCtorEq, Bool.not_false, Bool.not_true, Bool.true_beq, Bool.false_beq, beq_self_eq_true, Bool.true_and, h]
          exact ⟨[], rfl, rfl, by simp -dsimp only [WeakTm, WeakBx, CLe, CLeL, push_cast, ↓reduceIte, Nat.reduceAdd, Nat.reduceMul, Nat.reduceSub, Nat.reduceLeDiff, Nat.reduceEqDiff, Nat.reduceBEq, Int.reduceToNat, Nat.reduceLT, Int.reduceEq, Int.reduceLT, Int.reduceLE, Int.reduceAdd, Int.reduceSub, Int.reduceMul, reduceCtorEq, Bool.not_false, Bool.not_true, Bool.true_beq, Bool.false_beq, beq_self_eq_true, Bool.true_and]⟩
end Go.Proofs.YtbkdmegjgakjpaaDoor.Vcg
