/- Layer 3's law PathUnder, walked: it answers true. No condition. -/
import Derived.Test.YtnjglohgjhihjaaDoorLaw3d
set_option linter.unusedVariables false
set_option linter.unusedSimpArgs false
namespace Go.Proofs.YtnjglohgjhihjaaDoor.Vcg
open Go.RowKit
theorem filter_take (f : List UInt8 → Bool) (xs : List (List UInt8)) (k : Nat) (h : k < xs.length) : (xs.take (k + 1)).filter f = if f (xs[k]'h) then (xs.take k).filter f ++ [xs[k]'h] else (xs.take k).filter f := by
  rw [List.take_add_one, List.getElem?_eq_getElem h, List.filter_append]
  cases hf : f (xs[k]'h) <;> simp [hf]
theorem filter_le (f : List UInt8 → Bool) (xs : List (List UInt8)) (k : Nat) : ((xs.take k).filter f).length ≤ k := by
  have := List.length_filter_le f (xs.take k)
  have : (xs.take k).length ≤ k := by rw [List.length_take]; omega
  omega
theorem filter_join (f : List UInt8 → Bool) (xs : List (List UInt8)) (h : (Lib.join xs [47]).length ≤ 20000) : (Lib.join (xs.filter f) [47]).length ≤ 20000 := by
  by_cases hf : xs.filter f = []
  · rw [hf]; simp [Lib.join]
  · have hx : xs ≠ [] := fun e => hf (by rw [e]; rfl)
    have h1 := join_len _ hf
    have h2 := join_len xs hx
    have h3 := filter_sum f xs
    omega
theorem join_app_len (a z : List (List UInt8)) : (Lib.join (a ++ z) [47]).length ≤ (Lib.join a [47]).length + (Lib.join z [47]).length + 1 := by
  by_cases ha : a = []
  · rw [ha]; simp [Lib.join]
  · by_cases hz : z = []
    · rw [hz]; simp; omega
    · have h1 := join_len a ha
      have h2 := join_len z hz
      have h3 := join_len (a ++ z) (by simp [ha])
      rw [List.map_append, List.sum_append] at h3
      omega
set_option maxRecDepth 100000 in
set_option maxHeartbeats 1000000 in
theorem pathUnder_fun (xs ys : List (List UInt8)) : Fun Tryd.prog G0 12 [.sl 1 (strs xs), .sl 1 (strs ys)] (boolC true) 0 := by
  have hf := few_fun xs
  have hg := few_fun ys
  cases hfx : few xs with
  | true =>
    cases hfy : few ys with
    | true =>
      rw [hfx] at hf
      rw [hfy] at hg
      refine Fun.of (fun _ => []) (by kernel_rfl) Tryd.func12 rfl rfl (Nat.le_of_ble_eq_true rfl) (by kernel_rfl) ?_; dsimp only [Tryd.f12, List.append_eq, List.cons_append, List.nil_append]
      simp -dsimp only [push_cast, ↓reduceIte, Nat.reduceAdd, Nat.reduceMul, Nat.reduceSub, Nat.reduceLeDiff, Nat.reduceEqDiff, Nat.reduceBEq, Int.reduceToNat, Nat.reduceLT, Int.reduceEq, Int.reduceLT, Int.reduceLE, Int.reduceAdd, Int.reduceSub, Int.reduceMul, reduceCtorEq, Bool.not_false, Bool.not_true, Bool.true_beq, Bool.false_beq, beq_self_eq_true]
      (first | refine call (awake_fun) ?_ | refine callP (awake_fun) ?_); simp -dsimp only [push_cast, ↓reduceIte, Nat.reduceAdd, Nat.reduceMul, Nat.reduceSub, Nat.reduceLeDiff, Nat.reduceEqDiff, Nat.reduceBEq, Int.reduceToNat, Nat.reduceLT, Int.reduceEq, Int.reduceLT, Int.reduceLE, Int.reduceAdd, Int.reduceSub, Int.reduceMul, reduceCtorEq, Bool.not_false, Bool.not_true, Bool.true_beq, Bool.false_beq, beq_self_eq_true]
      (first | refine call (hf) ?_ | refine callP (hf) ?_); simp -dsimp only [push_cast, ↓reduceIte, Nat.reduceAdd, Nat.reduceMul, Nat.reduceSub, Nat.reduceLeDiff, Nat.reduceEqDiff, Nat.reduceBEq, Int.reduceToNat, Nat.reduceLT, Int.reduceEq, Int.reduceLT, Int.reduceLE, Int.reduceAdd, Int.reduceSub, Int.reduceMul, reduceCtorEq, Bool.not_false, Bool.not_true, Bool.true_beq, Bool.false_beq, beq_self_eq_true]
      (first | refine call (hg) ?_ | refine callP (hg) ?_); simp -dsimp only [push_cast, ↓reduceIte, Nat.reduceAdd, Nat.reduceMul, Nat.reduceSub, Nat.reduceLeDiff, Nat.reduceEqDiff, Nat.reduceBEq, Int.reduceToNat, Nat.reduceLT, Int.reduceEq, Int.reduceLT, Int.reduceLE, Int.reduceAdd, Int.reduceSub, Int.reduceMul, reduceCtorEq, Bool.not_false, Bool.not_true, Bool.true_beq, Bool.false_beq, beq_self_eq_true]
      have hj := few_join hfx
      have hk := few_join hfy
      refine loop (fun k : Nat => ⟨[(0, .sl 1 (strs xs)), (1, .sl 1 (strs ys)), (5, .own 0 9 1 (strs ((xs.take k).filter may))), (6, .sc (.slice none 0 0)), (7, .sc (.int .i64 k))], [], 1, 0⟩) (fun k => k ≤ xs.length) (fun k => xs.length - k) 0 (Nat.zero_le _) ?_ ?_
      · exact Weak.mk [.inr (9, 1)] rfl rfl (Nat.zero_le _) rfl (by simp -dsimp only [WeakTm, WeakBx, CLe, CLeL, push_cast, ↓reduceIte, Nat.reduceAdd, Nat.reduceMul, Nat.reduceSub, Nat.reduceLeDiff, Nat.reduceEqDiff, Nat.reduceBEq, Int.reduceToNat, Nat.reduceLT, Int.reduceEq, Int.reduceLT, Int.reduceLE, Int.reduceAdd, Int.reduceSub, Int.reduceMul, reduceCtorEq, Bool.not_false, Bool.not_true, Bool.true_beq, Bool.false_beq, beq_self_eq_true] <;> rfl) (by simp -dsimp only [WeakTm, WeakBx, CLe, CLeL, push_cast, ↓reduceIte, Nat.reduceAdd, Nat.reduceMul, Nat.reduceSub, Nat.reduceLeDiff, Nat.reduceEqDiff, Nat.reduceBEq, Int.reduceToNat, Nat.reduceLT, Int.reduceEq, Int.reduceLT, Int.reduceLE, Int.reduceAdd, Int.reduceSub, Int.reduceMul, reduceCtorEq, Bool.not_false, Bool.not_true, Bool.true_beq, Bool.false_beq, beq_self_eq_true])
      · intro k hkk
        by_cases h : k < xs.length
        · have hgk := strs_at xs k h
          have hsz := few_size hfx _ (List.getElem_mem h)
          have hm := may_fun (xs[k]'h) (by omega)
          have hft := filter_take may xs k h
          have hfl := filter_le may xs k
          cases hb : may (xs[k]'h) with
          | true =>
            rw [hb] at hm
            rw [hb, if_pos rfl] at hft
            simp -dsimp only [push_cast, ↓reduceIte, Nat.reduceAdd, Nat.reduceMul, Nat.reduceSub, Nat.reduceLeDiff, Nat.reduceEqDiff, Nat.reduceBEq, Int.reduceToNat, Nat.reduceLT, Int.reduceEq, Int.reduceLT, Int.reduceLE, Int.reduceAdd, Int.reduceSub, Int.reduceMul, reduceCtorEq, Bool.not_false, Bool.not_true, Bool.true_beq, Bool.false_beq, beq_self_eq_true, h, hgk]
            refine ⟨by omega, ?_⟩
            (first | refine call (hm) ?_ | refine callP (hm) ?_); simp -dsimp only [push_cast, ↓reduceIte, Nat.reduceAdd, Nat.reduceMul, Nat.reduceSub, Nat.reduceLeDiff, Nat.reduceEqDiff, Nat.reduceBEq, Int.reduceToNat, Nat.reduceLT, Int.reduceEq, Int.reduceLT, Int.reduceLE, Int.reduceAdd, Int.reduceSub, Int.reduceMul, reduceCtorEq, Bool.not_false, Bool.not_true, Bool.true_beq, Bool.false_beq, beq_self_eq_true, hgk]
            (try simp only [List.length_append, List.length_cons, List.length_nil, List.length_map, List.length_take]); repeat (refine And.intro (by omega) ?_)
            refine ⟨k + 1, by omega, by omega, Weak.mk [.inl 0] rfl rfl (Nat.zero_le _) rfl (by simp -dsimp only [WeakTm, WeakBx, CLe, CLeL, push_cast, ↓reduceIte, Nat.reduceAdd, Nat.reduceMul, Nat.reduceSub, Nat.reduceLeDiff, Nat.reduceEqDiff, Nat.reduceBEq, Int.reduceToNat, Nat.reduceLT, Int.reduceEq, Int.reduceLT, Int.reduceLE, Int.reduceAdd, Int.reduceSub, Int.reduceMul, reduceCtorEq, Bool.not_false, Bool.not_true, Bool.true_beq, Bool.false_beq, beq_self_eq_true, hft]) (by simp -dsimp only [WeakTm, WeakBx, CLe, CLeL, push_cast, ↓reduceIte, Nat.reduceAdd, Nat.reduceMul, Nat.reduceSub, Nat.reduceLeDiff, Nat.reduceEqDiff, Nat.reduceBEq, Int.reduceToNat, Nat.reduceLT, Int.reduceEq, Int.reduceLT, Int.reduceLE, Int.reduceAdd, Int.reduceSub, Int.reduceMul, reduceCtorEq, Bool.not_false, Bool.not_true, Bool.true_beq, Bool.false_beq, beq_self_eq_true])⟩
          | false =>
            rw [hb] at hm
            rw [hb, if_neg (by simp)] at hft
            simp -dsimp only [push_cast, ↓reduceIte, Nat.reduceAdd, Nat.reduceMul, Nat.reduceSub, Nat.reduceLeDiff, Nat.reduceEqDiff, Nat.reduceBEq, Int.reduceToNat, Nat.reduceLT, Int.reduceEq, Int.reduceLT, Int.reduceLE, Int.reduceAdd, Int.reduceSub, Int.reduceMul, reduceCtorEq, Bool.not_false, Bool.not_true, Bool.true_beq, Bool.false_beq, beq_self_eq_true, h, hgk]
            refine ⟨by omega, ?_⟩
            (first | refine call (hm) ?_ | refine callP (hm) ?_); simp -dsimp only [push_cast, ↓reduceIte, Nat.reduceAdd, Nat.reduceMul, Nat.reduceSub, Nat.reduceLeDiff, Nat.reduceEqDiff, Nat.reduceBEq, Int.reduceToNat, Nat.reduceLT, Int.reduceEq, Int.reduceLT, Int.reduceLE, Int.reduceAdd, Int.reduceSub, Int.reduceMul, reduceCtorEq, Bool.not_false, Bool.not_true, Bool.true_beq, Bool.false_beq, beq_self_eq_true]
            (try simp only [List.length_append, List.length_cons, List.length_nil, List.length_map, List.length_take]); repeat (refine And.intro (by omega) ?_)
            refine ⟨k + 1, by omega, by omega, Weak.mk [.inl 0] rfl rfl (Nat.zero_le _) rfl (by simp -dsimp only [WeakTm, WeakBx, CLe, CLeL, push_cast, ↓reduceIte, Nat.reduceAdd, Nat.reduceMul, Nat.reduceSub, Nat.reduceLeDiff, Nat.reduceEqDiff, Nat.reduceBEq, Int.reduceToNat, Nat.reduceLT, Int.reduceEq, Int.reduceLT, Int.reduceLE, Int.reduceAdd, Int.reduceSub, Int.reduceMul, reduceCtorEq, Bool.not_false, Bool.not_true, Bool.true_beq, Bool.false_beq, beq_self_eq_true, hft]) (by simp -dsimp only [WeakTm, WeakBx, CLe, CLeL, push_cast, ↓reduceIte, Nat.reduceAdd, Nat.reduceMul, Nat.reduceSub, Nat.reduceLeDiff, Nat.reduceEqDiff, Nat.reduceBEq, Int.reduceToNat, Nat.reduceLT, Int.reduceEq, Int.reduceLT, Int.reduceLE, Int.reduceAdd, Int.reduceSub, Int.reduceMul, reduceCtorEq, Bool.not_false, Bool.not_true, Bool.true_beq, Bool.false_beq, beq_self_eq_true])⟩
        · obtain rfl : k = xs.length := by omega
          rw [List.take_length]
          have hAl : (xs.filter may).length ≤ 40 := by have := List.length_filter_le may xs; omega
          have hAm : ∀ x ∈ xs.filter may, may x = true := fun x hx => (List.mem_filter.1 hx).2
          have hAj := filter_join may xs (by omega)
          generalize xs.filter may = A at hAl hAm hAj
          simp -dsimp only [push_cast, ↓reduceIte, Nat.reduceAdd, Nat.reduceMul, Nat.reduceSub, Nat.reduceLeDiff, Nat.reduceEqDiff, Nat.reduceBEq, Int.reduceToNat, Nat.reduceLT, Int.reduceEq, Int.reduceLT, Int.reduceLE, Int.reduceAdd, Int.reduceSub, Int.reduceMul, reduceCtorEq, Bool.not_false, Bool.not_true, Bool.true_beq, Bool.false_beq, beq_self_eq_true, h]
          (try simp only [List.length_append, List.length_cons, List.length_nil, List.length_map, List.length_take]); repeat (refine And.intro (by omega) ?_)
          refine loop (fun k : Nat => ⟨[(1, .sl 1 (strs ys)), (5, .own 0 9 1 (strs A)), (6, .own 1 9 1 (strs (A ++ (ys.take k).filter may))), (8, .sc (.int .i64 k))], [], 2, 0⟩) (fun k => k ≤ ys.length) (fun k => ys.length - k) 0 (Nat.zero_le _) ?_ ?_
          · exact Weak.mk [.inl 0, .inl 1] rfl rfl (Nat.zero_le _) rfl (by simp -dsimp only [WeakTm, WeakBx, CLe, CLeL, push_cast, ↓reduceIte, Nat.reduceAdd, Nat.reduceMul, Nat.reduceSub, Nat.reduceLeDiff, Nat.reduceEqDiff, Nat.reduceBEq, Int.reduceToNat, Nat.reduceLT, Int.reduceEq, Int.reduceLT, Int.reduceLE, Int.reduceAdd, Int.reduceSub, Int.reduceMul, reduceCtorEq, Bool.not_false, Bool.not_true, Bool.true_beq, Bool.false_beq, beq_self_eq_true] <;> simp) (by simp -dsimp only [WeakTm, WeakBx, CLe, CLeL, push_cast, ↓reduceIte, Nat.reduceAdd, Nat.reduceMul, Nat.reduceSub, Nat.reduceLeDiff, Nat.reduceEqDiff, Nat.reduceBEq, Int.reduceToNat, Nat.reduceLT, Int.reduceEq, Int.reduceLT, Int.reduceLE, Int.reduceAdd, Int.reduceSub, Int.reduceMul, reduceCtorEq, Bool.not_false, Bool.not_true, Bool.true_beq, Bool.false_beq, beq_self_eq_true])
          · intro k hkk
            by_cases h : k < ys.length
            · have hgk := strs_at ys k h
              have hsz := few_size hfy _ (List.getElem_mem h)
              have hm := may_fun (ys[k]'h) (by omega)
              have hft := filter_take may ys k h
              have hfl := filter_le may ys k
              cases hb : may (ys[k]'h) with
              | true =>
                rw [hb] at hm
                rw [hb, if_pos rfl] at hft
                simp -dsimp only [push_cast, ↓reduceIte, Nat.reduceAdd, Nat.reduceMul, Nat.reduceSub, Nat.reduceLeDiff, Nat.reduceEqDiff, Nat.reduceBEq, Int.reduceToNat, Nat.reduceLT, Int.reduceEq, Int.reduceLT, Int.reduceLE, Int.reduceAdd, Int.reduceSub, Int.reduceMul, reduceCtorEq, Bool.not_false, Bool.not_true, Bool.true_beq, Bool.false_beq, beq_self_eq_true, h, hgk]
                refine ⟨by omega, ?_⟩
                (first | refine call (hm) ?_ | refine callP (hm) ?_); simp -dsimp only [push_cast, ↓reduceIte, Nat.reduceAdd, Nat.reduceMul, Nat.reduceSub, Nat.reduceLeDiff, Nat.reduceEqDiff, Nat.reduceBEq, Int.reduceToNat, Nat.reduceLT, Int.reduceEq, Int.reduceLT, Int.reduceLE, Int.reduceAdd, Int.reduceSub, Int.reduceMul, reduceCtorEq, Bool.not_false, Bool.not_true, Bool.true_beq, Bool.false_beq, beq_self_eq_true, hgk]
                (try simp only [List.length_append, List.length_cons, List.length_nil, List.length_map, List.length_take]); repeat (refine And.intro (by omega) ?_)
                refine ⟨k + 1, by omega, by omega, Weak.mk [.inl 0, .inl 1] rfl rfl (Nat.zero_le _) rfl (by simp -dsimp only [WeakTm, WeakBx, CLe, CLeL, push_cast, ↓reduceIte, Nat.reduceAdd, Nat.reduceMul, Nat.reduceSub, Nat.reduceLeDiff, Nat.reduceEqDiff, Nat.reduceBEq, Int.reduceToNat, Nat.reduceLT, Int.reduceEq, Int.reduceLT, Int.reduceLE, Int.reduceAdd, Int.reduceSub, Int.reduceMul, reduceCtorEq, Bool.not_false, Bool.not_true, Bool.true_beq, Bool.false_beq, beq_self_eq_true, hft] <;> simp) (by simp -dsimp only [WeakTm, WeakBx, CLe, CLeL, push_cast, ↓reduceIte, Nat.reduceAdd, Nat.reduceMul, Nat.reduceSub, Nat.reduceLeDiff, Nat.reduceEqDiff, Nat.reduceBEq, Int.reduceToNat, Nat.reduceLT, Int.reduceEq, Int.reduceLT, Int.reduceLE, Int.reduceAdd, Int.reduceSub, Int.reduceMul, reduceCtorEq, Bool.not_false, Bool.not_true, Bool.true_beq, Bool.false_beq, beq_self_eq_true])⟩
              | false =>
                rw [hb] at hm
                rw [hb, if_neg (by simp)] at hft
                simp -dsimp only [push_cast, ↓reduceIte, Nat.reduceAdd, Nat.reduceMul, Nat.reduceSub, Nat.reduceLeDiff, Nat.reduceEqDiff, Nat.reduceBEq, Int.reduceToNat, Nat.reduceLT, Int.reduceEq, Int.reduceLT, Int.reduceLE, Int.reduceAdd, Int.reduceSub, Int.reduceMul, reduceCtorEq, Bool.not_false, Bool.not_true, Bool.true_beq, Bool.false_beq, beq_self_eq_true, h, hgk]
                refine ⟨by omega, ?_⟩
                (first | refine call (hm) ?_ | refine callP (hm) ?_); simp -dsimp only [push_cast, ↓reduceIte, Nat.reduceAdd, Nat.reduceMul, Nat.reduceSub, Nat.reduceLeDiff, Nat.reduceEqDiff, Nat.reduceBEq, Int.reduceToNat, Nat.reduceLT, Int.reduceEq, Int.reduceLT, Int.reduceLE, Int.reduceAdd, Int.reduceSub, Int.reduceMul, reduceCtorEq, Bool.not_false, Bool.not_true, Bool.true_beq, Bool.false_beq, beq_self_eq_true]
                (try simp only [List.length_append, List.length_cons, List.length_nil, List.length_map, List.length_take]); repeat (refine And.intro (by omega) ?_)
                refine ⟨k + 1, by omega, by omega, Weak.mk [.inl 0, .inl 1] rfl rfl (Nat.zero_le _) rfl (by simp -dsimp only [WeakTm, WeakBx, CLe, CLeL, push_cast, ↓reduceIte, Nat.reduceAdd, Nat.reduceMul, Nat.reduceSub, Nat.reduceLeDiff, Nat.reduceEqDiff, Nat.reduceBEq, Int.reduceToNat, Nat.reduceLT, Int.reduceEq, Int.reduceLT, Int.reduceLE, Int.reduceAdd, Int.reduceSub, Int.reduceMul, reduceCtorEq, Bool.not_false, Bool.not_true, Bool.true_beq, Bool.false_beq, beq_self_eq_true, hft]) (by simp -dsimp only [WeakTm, WeakBx, CLe, CLeL, push_cast, ↓reduceIte, Nat.reduceAdd, Nat.reduceMul, Nat.reduceSub, Nat.reduceLeDiff, Nat.reduceEqDiff, Nat.reduceBEq, Int.reduceToNat, Nat.reduceLT, Int.reduceEq, Int.reduceLT, Int.reduceLE, Int.reduceAdd, Int.reduceSub, Int.reduceMul, reduceCtorEq, Bool.not_false, Bool.not_true, Bool.true_beq, Bool.false_beq, beq_self_eq_true])⟩
            · obtain rfl : k = ys.length := by omega
              rw [List.take_length]
              have hZl : (ys.filter may).length ≤ 40 := by have := List.length_filter_le may ys; omega
              have hZm : ∀ x ∈ ys.filter may, may x = true := fun x hx => (List.mem_filter.1 hx).2
              have hZj := filter_join may ys (by omega)
              generalize ys.filter may = Z at hZl hZm hZj
              have hBm : ∀ x ∈ A ++ Z, may x = true := fun x hx => (List.mem_append.1 hx).elim (hAm x) (hZm x)
              have hBj := join_app_len A Z
              have hBl : (A ++ Z).length = A.length + Z.length := List.length_append
              have hAn : ∀ x ∈ A, isName x := fun x hx => may_name (hAm x hx)
              have hBn : ∀ x ∈ A ++ Z, isName x := fun x hx => may_name (hBm x hx)
              have j1 := joinP_fun A (by omega) (by omega)
              have j2 := joinP_fun (A ++ Z) (by omega) (by omega)
              have l1 := joinP_len A
              have l2 := joinP_len (A ++ Z)
              have u1 := (underP_fun (joinP (A ++ Z)) (joinP A) (by omega)).as (r' := boolC true) (by rw [under_joinP _ _ hBn hAn]; simp)
              have u2 := (underP_fun (joinP A) (joinP (A ++ Z)) (by omega)).as (r' := boolC (decide (Z = []))) (by
                rw [under_joinP _ _ hAn hBn, List.take_of_length_le (by omega)]
                refine congrArg boolC (decide_eq_decide.2 ⟨fun e => by have := congrArg List.length e; exact List.eq_nil_of_length_eq_zero (by omega), fun e => by rw [e, List.append_nil]⟩))
              have u3 := (underP_fun (joinP A) [47] (by decide)).as (r' := boolC true) (by simp [underP])
              by_cases hZ : Z = []
              · subst hZ
                simp only [List.append_nil] at j2 u1 u2 ⊢
                simp -dsimp only [push_cast, ↓reduceIte, Nat.reduceAdd, Nat.reduceMul, Nat.reduceSub, Nat.reduceLeDiff, Nat.reduceEqDiff, Nat.reduceBEq, Int.reduceToNat, Nat.reduceLT, Int.reduceEq, Int.reduceLT, Int.reduceLE, Int.reduceAdd, Int.reduceSub, Int.reduceMul, reduceCtorEq, Bool.not_false, Bool.not_true, Bool.true_beq, Bool.false_beq, beq_self_eq_true, h]
                (first | refine call (j1) ?_ | refine callP (j1) ?_); simp -dsimp only [push_cast, ↓reduceIte, Nat.reduceAdd, Nat.reduceMul, Nat.reduceSub, Nat.reduceLeDiff, Nat.reduceEqDiff, Nat.reduceBEq, Int.reduceToNat, Nat.reduceLT, Int.reduceEq, Int.reduceLT, Int.reduceLE, Int.reduceAdd, Int.reduceSub, Int.reduceMul, reduceCtorEq, Bool.not_false, Bool.not_true, Bool.true_beq, Bool.false_beq, beq_self_eq_true]
                (first | refine call (j2) ?_ | refine callP (j2) ?_); simp -dsimp only [push_cast, ↓reduceIte, Nat.reduceAdd, Nat.reduceMul, Nat.reduceSub, Nat.reduceLeDiff, Nat.reduceEqDiff, Nat.reduceBEq, Int.reduceToNat, Nat.reduceLT, Int.reduceEq, Int.reduceLT, Int.reduceLE, Int.reduceAdd, Int.reduceSub, Int.reduceMul, reduceCtorEq, Bool.not_false, Bool.not_true, Bool.true_beq, Bool.false_beq, beq_self_eq_true]
                (first | refine call (u1) ?_ | refine callP (u1) ?_); simp -dsimp only [push_cast, ↓reduceIte, Nat.reduceAdd, Nat.reduceMul, Nat.reduceSub, Nat.reduceLeDiff, Nat.reduceEqDiff, Nat.reduceBEq, Int.reduceToNat, Nat.reduceLT, Int.reduceEq, Int.reduceLT, Int.reduceLE, Int.reduceAdd, Int.reduceSub, Int.reduceMul, reduceCtorEq, Bool.not_false, Bool.not_true, Bool.true_beq, Bool.false_beq, beq_self_eq_true]
                (first | refine call (u2) ?_ | refine callP (u2) ?_); simp -dsimp only [push_cast, ↓reduceIte, Nat.reduceAdd, Nat.reduceMul, Nat.reduceSub, Nat.reduceLeDiff, Nat.reduceEqDiff, Nat.reduceBEq, Int.reduceToNat, Nat.reduceLT, Int.reduceEq, Int.reduceLT, Int.reduceLE, Int.reduceAdd, Int.reduceSub, Int.reduceMul, reduceCtorEq, Bool.not_false, Bool.not_true, Bool.true_beq, Bool.false_beq, beq_self_eq_true]
                (first | refine call (u3) ?_ | refine callP (u3) ?_); simp -dsimp only [push_cast, ↓reduceIte, Nat.reduceAdd, Nat.reduceMul, Nat.reduceSub, Nat.reduceLeDiff, Nat.reduceEqDiff, Nat.reduceBEq, Int.reduceToNat, Nat.reduceLT, Int.reduceEq, Int.reduceLT, Int.reduceLE, Int.reduceAdd, Int.reduceSub, Int.reduceMul, reduceCtorEq, Bool.not_false, Bool.not_true, Bool.true_beq, Bool.false_beq, beq_self_eq_true]
                exact ⟨[], rfl, rfl, by simp -dsimp only [WeakTm, WeakBx, CLe, CLeL, push_cast, ↓reduceIte, Nat.reduceAdd, Nat.reduceMul, Nat.reduceSub, Nat.reduceLeDiff, Nat.reduceEqDiff, Nat.reduceBEq, Int.reduceToNat, Nat.reduceLT, Int.reduceEq, Int.reduceLT, Int.reduceLE, Int.reduceAdd, Int.reduceSub, Int.reduceMul, reduceCtorEq, Bool.not_false, Bool.not_true, Bool.true_beq, Bool.false_beq, beq_self_eq_true]⟩
              · have hZ' := List.length_pos_iff.2 hZ
                have hne : ¬ (A.length = (A ++ Z).length) := by omega
                rw [decide_eq_false hZ] at u2
                simp -dsimp only [push_cast, ↓reduceIte, Nat.reduceAdd, Nat.reduceMul, Nat.reduceSub, Nat.reduceLeDiff, Nat.reduceEqDiff, Nat.reduceBEq, Int.reduceToNat, Nat.reduceLT, Int.reduceEq, Int.reduceLT, Int.reduceLE, Int.reduceAdd, Int.reduceSub, Int.reduceMul, reduceCtorEq, Bool.not_false, Bool.not_true, Bool.true_beq, Bool.false_beq, beq_self_eq_true, h]
                (first | refine call (j1) ?_ | refine callP (j1) ?_); simp -dsimp only [push_cast, ↓reduceIte, Nat.reduceAdd, Nat.reduceMul, Nat.reduceSub, Nat.reduceLeDiff, Nat.reduceEqDiff, Nat.reduceBEq, Int.reduceToNat, Nat.reduceLT, Int.reduceEq, Int.reduceLT, Int.reduceLE, Int.reduceAdd, Int.reduceSub, Int.reduceMul, reduceCtorEq, Bool.not_false, Bool.not_true, Bool.true_beq, Bool.false_beq, beq_self_eq_true]
                (first | refine call (j2) ?_ | refine callP (j2) ?_); simp -dsimp only [push_cast, ↓reduceIte, Nat.reduceAdd, Nat.reduceMul, Nat.reduceSub, Nat.reduceLeDiff, Nat.reduceEqDiff, Nat.reduceBEq, Int.reduceToNat, Nat.reduceLT, Int.reduceEq, Int.reduceLT, Int.reduceLE, Int.reduceAdd, Int.reduceSub, Int.reduceMul, reduceCtorEq, Bool.not_false, Bool.not_true, Bool.true_beq, Bool.false_beq, beq_self_eq_true]
                (first | refine call (u1) ?_ | refine callP (u1) ?_); simp -dsimp only [push_cast, ↓reduceIte, Nat.reduceAdd, Nat.reduceMul, Nat.reduceSub, Nat.reduceLeDiff, Nat.reduceEqDiff, Nat.reduceBEq, Int.reduceToNat, Nat.reduceLT, Int.reduceEq, Int.reduceLT, Int.reduceLE, Int.reduceAdd, Int.reduceSub, Int.reduceMul, reduceCtorEq, Bool.not_false, Bool.not_true, Bool.true_beq, Bool.false_beq, beq_self_eq_true]
                (first | refine call (u2) ?_ | refine callP (u2) ?_); simp -dsimp only [push_cast, ↓reduceIte, Nat.reduceAdd, Nat.reduceMul, Nat.reduceSub, Nat.reduceLeDiff, Nat.reduceEqDiff, Nat.reduceBEq, Int.reduceToNat, Nat.reduceLT, Int.reduceEq, Int.reduceLT, Int.reduceLE, Int.reduceAdd, Int.reduceSub, Int.reduceMul, reduceCtorEq, Bool.not_false, Bool.not_true, Bool.true_beq, Bool.false_beq, beq_self_eq_true, hne, decide_false]
                (first | refine call (u3) ?_ | refine callP (u3) ?_); simp -dsimp only [push_cast, ↓reduceIte, Nat.reduceAdd, Nat.reduceMul, Nat.reduceSub, Nat.reduceLeDiff, Nat.reduceEqDiff, Nat.reduceBEq, Int.reduceToNat, Nat.reduceLT, Int.reduceEq, Int.reduceLT, Int.reduceLE, Int.reduceAdd, Int.reduceSub, Int.reduceMul, reduceCtorEq, Bool.not_false, Bool.not_true, Bool.true_beq, Bool.false_beq, beq_self_eq_true]
                exact ⟨[], rfl, rfl, by simp -dsimp only [WeakTm, WeakBx, CLe, CLeL, push_cast, ↓reduceIte, Nat.reduceAdd, Nat.reduceMul, Nat.reduceSub, Nat.reduceLeDiff, Nat.reduceEqDiff, Nat.reduceBEq, Int.reduceToNat, Nat.reduceLT, Int.reduceEq, Int.reduceLT, Int.reduceLE, Int.reduceAdd, Int.reduceSub, Int.reduceMul, reduceCtorEq, Bool.not_false, Bool.not_true, Bool.true_beq, Bool.false_beq, beq_self_eq_true]⟩
    | false =>
      rw [hfx] at hf
      rw [hfy] at hg
      refine Fun.of (fun _ => []) (by kernel_rfl) Tryd.func12 rfl rfl (Nat.le_of_ble_eq_true rfl) (by kernel_rfl) ?_; dsimp only [Tryd.f12, List.append_eq, List.cons_append, List.nil_append]
      simp -dsimp only [push_cast, ↓reduceIte, Nat.reduceAdd, Nat.reduceMul, Nat.reduceSub, Nat.reduceLeDiff, Nat.reduceEqDiff, Nat.reduceBEq, Int.reduceToNat, Nat.reduceLT, Int.reduceEq, Int.reduceLT, Int.reduceLE, Int.reduceAdd, Int.reduceSub, Int.reduceMul, reduceCtorEq, Bool.not_false, Bool.not_true, Bool.true_beq, Bool.false_beq, beq_self_eq_true]
      (first | refine call (awake_fun) ?_ | refine callP (awake_fun) ?_); simp -dsimp only [push_cast, ↓reduceIte, Nat.reduceAdd, Nat.reduceMul, Nat.reduceSub, Nat.reduceLeDiff, Nat.reduceEqDiff, Nat.reduceBEq, Int.reduceToNat, Nat.reduceLT, Int.reduceEq, Int.reduceLT, Int.reduceLE, Int.reduceAdd, Int.reduceSub, Int.reduceMul, reduceCtorEq, Bool.not_false, Bool.not_true, Bool.true_beq, Bool.false_beq, beq_self_eq_true]
      (first | refine call (hf) ?_ | refine callP (hf) ?_); simp -dsimp only [push_cast, ↓reduceIte, Nat.reduceAdd, Nat.reduceMul, Nat.reduceSub, Nat.reduceLeDiff, Nat.reduceEqDiff, Nat.reduceBEq, Int.reduceToNat, Nat.reduceLT, Int.reduceEq, Int.reduceLT, Int.reduceLE, Int.reduceAdd, Int.reduceSub, Int.reduceMul, reduceCtorEq, Bool.not_false, Bool.not_true, Bool.true_beq, Bool.false_beq, beq_self_eq_true]
      (first | refine call (hg) ?_ | refine callP (hg) ?_); simp -dsimp only [push_cast, ↓reduceIte, Nat.reduceAdd, Nat.reduceMul, Nat.reduceSub, Nat.reduceLeDiff, Nat.reduceEqDiff, Nat.reduceBEq, Int.reduceToNat, Nat.reduceLT, Int.reduceEq, Int.reduceLT, Int.reduceLE, Int.reduceAdd, Int.reduceSub, Int.reduceMul, reduceCtorEq, Bool.not_false, Bool.not_true, Bool.true_beq, Bool.false_beq, beq_self_eq_true]
      (first | refine call (awake_fun) ?_ | refine callP (awake_fun) ?_); simp -dsimp only [push_cast, ↓reduceIte, Nat.reduceAdd, Nat.reduceMul, Nat.reduceSub, Nat.reduceLeDiff, Nat.reduceEqDiff, Nat.reduceBEq, Int.reduceToNat, Nat.reduceLT, Int.reduceEq, Int.reduceLT, Int.reduceLE, Int.reduceAdd, Int.reduceSub, Int.reduceMul, reduceCtorEq, Bool.not_false, Bool.not_true, Bool.true_beq, Bool.false_beq, beq_self_eq_true]
      exact ⟨[], rfl, rfl, by simp -dsimp only [WeakTm, WeakBx, CLe, CLeL, push_cast, ↓reduceIte, Nat.reduceAdd, Nat.reduceMul, Nat.reduceSub, Nat.reduceLeDiff, Nat.reduceEqDiff, Nat.reduceBEq, Int.reduceToNat, Nat.reduceLT, Int.reduceEq, Int.reduceLT, Int.reduceLE, Int.reduceAdd, Int.reduceSub, Int.reduceMul, reduceCtorEq, Bool.not_false, Bool.not_true, Bool.true_beq, Bool.false_beq, beq_self_eq_true]⟩
  | false =>
    rw [hfx] at hf
    refine Fun.of (fun _ => []) (by kernel_rfl) Tryd.func12 rfl rfl (Nat.le_of_ble_eq_true rfl) (by kernel_rfl) ?_; dsimp only [Tryd.f12, List.append_eq, List.cons_append, List.nil_append]
    simp -dsimp only [push_cast, ↓reduceIte, Nat.reduceAdd, Nat.reduceMul, Nat.reduceSub, Nat.reduceLeDiff, Nat.reduceEqDiff, Nat.reduceBEq, Int.reduceToNat, Nat.reduceLT, Int.reduceEq, Int.reduceLT, Int.reduceLE, Int.reduceAdd, Int.reduceSub, Int.reduceMul, reduceCtorEq, Bool.not_false, Bool.not_true, Bool.true_beq, Bool.false_beq, beq_self_eq_true]
    (first | refine call (awake_fun) ?_ | refine callP (awake_fun) ?_); simp -dsimp only [push_cast, ↓reduceIte, Nat.reduceAdd, Nat.reduceMul, Nat.reduceSub, Nat.reduceLeDiff, Nat.reduceEqDiff, Nat.reduceBEq, Int.reduceToNat, Nat.reduceLT, Int.reduceEq, Int.reduceLT, Int.reduceLE, Int.reduceAdd, Int.reduceSub, Int.reduceMul, reduceCtorEq, Bool.not_false, Bool.not_true, Bool.true_beq, Bool.false_beq, beq_self_eq_true]
    (first | refine call (hf) ?_ | refine callP (hf) ?_); simp -dsimp only [push_cast, ↓reduceIte, Nat.reduceAdd, Nat.reduceMul, Nat.reduceSub, Nat.reduceLeDiff, Nat.reduceEqDiff, Nat.reduceBEq, Int.reduceToNat, Nat.reduceLT, Int.reduceEq, Int.reduceLT, Int.reduceLE, Int.reduceAdd, Int.reduceSub, Int.reduceMul, reduceCtorEq, Bool.not_false, Bool.not_true, Bool.true_beq, Bool.false_beq, beq_self_eq_true]
    (first | refine call (awake_fun) ?_ | refine callP (awake_fun) ?_); simp -dsimp only [push_cast, ↓reduceIte, Nat.reduceAdd, Nat.reduceMul, Nat.reduceSub, Nat.reduceLeDiff, Nat.reduceEqDiff, Nat.reduceBEq, Int.reduceToNat, Nat.reduceLT, Int.reduceEq, Int.reduceLT, Int.reduceLE, Int.reduceAdd, Int.reduceSub, Int.reduceMul, reduceCtorEq, Bool.not_false, Bool.not_true, Bool.true_beq, Bool.false_beq, beq_self_eq_true]
    exact ⟨[], rfl, rfl, by simp -dsimp only [WeakTm, WeakBx, CLe, CLeL, push_cast, ↓reduceIte, Nat.reduceAdd, Nat.reduceMul, Nat.reduceSub, Nat.reduceLeDiff, Nat.reduceEqDiff, Nat.reduceBEq, Int.reduceToNat, Nat.reduceLT, Int.reduceEq, Int.reduceLT, Int.reduceLE, Int.reduceAdd, Int.reduceSub, Int.reduceMul, reduceCtorEq, Bool.not_false, Bool.not_true, Bool.true_beq, Bool.false_beq, beq_self_eq_true]⟩
end Go.Proofs.YtnjglohgjhihjaaDoor.Vcg
