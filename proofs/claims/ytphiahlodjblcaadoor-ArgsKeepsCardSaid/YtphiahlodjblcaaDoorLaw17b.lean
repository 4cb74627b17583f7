/- Layer 17's law ArgsOperands, walked: it answers true. No condition but bounds that each states. -/
import Derived.Test.YtphiahlodjblcaaDoorLaw17
set_option linter.unusedVariables false
set_option linter.unusedSimpArgs false
namespace Go.Proofs.YtphiahlodjblcaaDoor.Vcg
open Go.RowKit QuotePlain
theorem kindUp_name {k : Int} (hk : k = 1 ∨ k = 2 ∨ k = 3 ∨ k = 4 ∨ k = 5) : kindUp (nameV k) 5 = k := by
  rcases hk with rfl | rfl | rfl | rfl | rfl <;> decide
theorem name_len {k : Int} (hk : k = 1 ∨ k = 2 ∨ k = 3 ∨ k = 4 ∨ k = 5) : (nameV k).length ≤ 300 := by
  rcases hk with rfl | rfl | rfl | rfl | rfl <;> decide
theorem readV_plain {k : Int} (hk : k = 1 ∨ k = 2 ∨ k = 3 ∨ k = 4 ∨ k = 5) (first : List UInt8) (rest : List (List UInt8)) (hf : first.length < 2 ∨ first[0]? ≠ some 45) :
    readV (nameV k :: first :: rest) = if 4 ≤ k ∧ rest = [] then (noCmd, nameV k ++ [58, 32] ++ ([109, 105, 115, 115, 105, 110, 103, 32, 100, 101, 115, 116, 105, 110, 97, 116, 105, 111, 110, 32, 111, 112, 101, 114, 97, 110, 100, 32, 97, 102, 116, 101, 114, 32] ++ quoteL first)) else (⟨k, [], first :: rest⟩, []) := by
  have h45 : first ≠ [45, 45] := by
    rintro rfl
    rcases hf with h | h <;> simp at h
  have hk0 : ¬ k = 0 := by omega
  have hq : lettersG (refAll k) snocF [] 0 (first :: rest) = ([], 0, []) := by
    rw [lettersG, if_neg h45, if_pos hf]
  rw [readV, kindUp_name hk, if_neg hk0, hq]
  unfold readTail
  rw [if_neg (by simp)]
  dsimp only
  rw [optV_nil, List.drop_zero]
  have hleast : leastV k = if 4 ≤ k then 2 else 1 := by
    unfold leastV
    by_cases h4 : 4 ≤ k
    · rw [if_pos h4, if_pos (by omega)]
    · rw [if_neg h4, if_neg (by omega)]
  have hw : wrongV k [] (first :: rest) = if 4 ≤ k ∧ rest = [] then ([109, 105, 115, 115, 105, 110, 103, 32, 100, 101, 115, 116, 105, 110, 97, 116, 105, 111, 110, 32, 111, 112, 101, 114, 97, 110, 100, 32, 97, 102, 116, 101, 114, 32] ++ quoteL first) else [] := by
    unfold wrongV
    rw [if_neg (by simp), hleast]
    cases rest with
    | nil => by_cases h4 : 4 ≤ k <;> simp [h4]
    | cons y r => by_cases h4 : 4 ≤ k <;> simp [h4]
  rw [hw]
  by_cases h : 4 ≤ k ∧ rest = []
  · rw [if_pos h, if_pos h, if_pos (by simp)]
  · rw [if_neg h, if_neg h, if_neg (by simp)]
set_option maxHeartbeats 1000000 in
theorem argsOperands_fun (n : Nat) (hn : n ≤ 255) (first : List UInt8) (rest : List (List UInt8)) (hfl : first.length ≤ 9223372036854775807) : Fun Tryd.prog G3 6 [.sc (.int .u8 n), .str first, .sl 1 (strs rest)] (boolC true) 0 := by
  have hf := (few_fun rest).glob0 (G' := G3)
  cases hfr : few rest with
  | false =>
    rw [hfr] at hf
    refine Fun.of (fun _ => []) (by kernel_rfl) Tryd.func6 rfl rfl (Nat.le_of_ble_eq_true rfl) (by kernel_rfl) ?_; dsimp only [Tryd.f6, List.append_eq, List.cons_append, List.nil_append]
    simp -dsimp only [push_cast, Int.ofNat_eq_natCast, ↓reduceIte, Nat.reduceAdd, Nat.reduceMul, Nat.reduceSub, Nat.reduceLeDiff, Nat.reduceEqDiff, Nat.reduceBEq, Int.reduceToNat, Nat.reduceLT, Int.reduceEq, Int.reduceLT, Int.reduceLE, Int.reduceAdd, Int.reduceSub, Int.reduceMul, reduceCtorEq, Bool.not_false, Bool.not_true, Bool.true_beq, Bool.false_beq, beq_self_eq_true, Bool.true_and]
    (first | refine call (awake17_fun) ?_ | refine callP (awake17_fun) ?_); simp -dsimp only [push_cast, Int.ofNat_eq_natCast, ↓reduceIte, Nat.reduceAdd, Nat.reduceMul, Nat.reduceSub, Nat.reduceLeDiff, Nat.reduceEqDiff, Nat.reduceBEq, Int.reduceToNat, Nat.reduceLT, Int.reduceEq, Int.reduceLT, Int.reduceLE, Int.reduceAdd, Int.reduceSub, Int.reduceMul, reduceCtorEq, Bool.not_false, Bool.not_true, Bool.true_beq, Bool.false_beq, beq_self_eq_true, Bool.true_and]
    (first | refine call (hf) ?_ | refine callP (hf) ?_); simp -dsimp only [push_cast, Int.ofNat_eq_natCast, ↓reduceIte, Nat.reduceAdd, Nat.reduceMul, Nat.reduceSub, Nat.reduceLeDiff, Nat.reduceEqDiff, Nat.reduceBEq, Int.reduceToNat, Nat.reduceLT, Int.reduceEq, Int.reduceLT, Int.reduceLE, Int.reduceAdd, Int.reduceSub, Int.reduceMul, reduceCtorEq, Bool.not_false, Bool.not_true, Bool.true_beq, Bool.false_beq, beq_self_eq_true, Bool.true_and]
    (first | refine call (awake17_fun) ?_ | refine callP (awake17_fun) ?_); simp -dsimp only [push_cast, Int.ofNat_eq_natCast, ↓reduceIte, Nat.reduceAdd, Nat.reduceMul, Nat.reduceSub, Nat.reduceLeDiff, Nat.reduceEqDiff, Nat.reduceBEq, Int.reduceToNat, Nat.reduceLT, Int.reduceEq, Int.reduceLT, Int.reduceLE, Int.reduceAdd, Int.reduceSub, Int.reduceMul, reduceCtorEq, Bool.not_false, Bool.not_true, Bool.true_beq, Bool.false_beq, beq_self_eq_true, Bool.true_and]
    exact ⟨[], rfl, rfl, by simp -dsimp only [WeakTm, WeakBx, CLe, CLeL, push_cast, Int.ofNat_eq_natCast, ↓reduceIte, Nat.reduceAdd, Nat.reduceMul, Nat.reduceSub, Nat.reduceLeDiff, Nat.reduceEqDiff, Nat.reduceBEq, Int.reduceToNat, Nat.reduceLT, Int.reduceEq, Int.reduceLT, Int.reduceLE, Int.reduceAdd, Int.reduceSub, Int.reduceMul, reduceCtorEq, Bool.not_false, Bool.not_true, Bool.true_beq, Bool.false_beq, beq_self_eq_true, Bool.true_and]⟩
  | true =>
    rw [hfr] at hf
    by_cases h300 : first.length ≤ 300
    · have h300' : (300 < (first.length : Int)) = False := eq_false (by omega)
      by_cases hlong : first.length < 2 ∨ first[0]? ≠ some 45
      · have hfl2 := few_len hfr
        have hfs := few_size hfr
        obtain ⟨k, hk⟩ : ∃ k : Int, (1 + (n : Int) % 5) = k := ⟨_, rfl⟩
        have hkk : k = 1 ∨ k = 2 ∨ k = 3 ∨ k = 4 ∨ k = 5 := by omega
        have hnl := name_len hkk
        have hrn := (rName_fun k).glob0 (G' := G3)
        have hrd := read_fun (nameV k :: first :: rest) (by simp; omega) (by
          intro x hx
          simp only [List.mem_cons] at hx
          rcases hx with rfl | rfl | hx
          · exact hnl
          · exact h300
          · exact hfs x hx)
        rw [readV_plain hkk first rest hlong] at hrd
        have hsm := (same_fun (first :: rest) (first :: rest) (by simp; omega)).glob0 (G' := G3)
        have hsC : strs (nameV k :: first :: rest) = [.str (nameV k)] :: [.str first] :: strs rest := rfl
        have hsC2 : strs (first :: rest) = [.str first] :: strs rest := rfl
        rw [hsC] at hrd
        rw [hsC2] at hsm
        by_cases h2 : first.length < 2
        · have h2' : (1 < (first.length : Int)) = False := eq_false (by omega)
          by_cases hc : 4 ≤ k ∧ rest = []
          · have h4 := hc.1
            have hr0 := hc.2
            rw [if_pos hc] at hrd
            have hmne : nameV k ++ [58, 32] ++ ([109, 105, 115, 115, 105, 110, 103, 32, 100, 101, 115, 116, 105, 110, 97, 116, 105, 111, 110, 32, 111, 112, 101, 114, 97, 110, 100, 32, 97, 102, 116, 101, 114, 32] ++ quoteL first) ≠ [] := by simp
            generalize nameV k ++ [58, 32] ++ ([109, 105, 115, 115, 105, 110, 103, 32, 100, 101, 115, 116, 105, 110, 97, 116, 105, 111, 110, 32, 111, 112, 101, 114, 97, 110, 100, 32, 97, 102, 116, 101, 114, 32] ++ quoteL first) = m at hrd hmne
            refine Fun.of (fun _ => []) (by kernel_rfl) Tryd.func6 rfl rfl (Nat.le_of_ble_eq_true rfl) (by kernel_rfl) ?_; dsimp only [Tryd.f6, List.append_eq, List.cons_append, List.nil_append]
            simp -dsimp only [push_cast, Int.ofNat_eq_natCast, ↓reduceIte, Nat.reduceAdd, Nat.reduceMul, Nat.reduceSub, Nat.reduceLeDiff, Nat.reduceEqDiff, Nat.reduceBEq, Int.reduceToNat, Nat.reduceLT, Int.reduceEq, Int.reduceLT, Int.reduceLE, Int.reduceAdd, Int.reduceSub, Int.reduceMul, reduceCtorEq, Bool.not_false, Bool.not_true, Bool.true_beq, Bool.false_beq, beq_self_eq_true, Bool.true_and]
            (first | refine call (awake17_fun) ?_ | refine callP (awake17_fun) ?_); simp -dsimp only [push_cast, Int.ofNat_eq_natCast, ↓reduceIte, Nat.reduceAdd, Nat.reduceMul, Nat.reduceSub, Nat.reduceLeDiff, Nat.reduceEqDiff, Nat.reduceBEq, Int.reduceToNat, Nat.reduceLT, Int.reduceEq, Int.reduceLT, Int.reduceLE, Int.reduceAdd, Int.reduceSub, Int.reduceMul, reduceCtorEq, Bool.not_false, Bool.not_true, Bool.true_beq, Bool.false_beq, beq_self_eq_true, Bool.true_and]
            (first | refine call (hf) ?_ | refine callP (hf) ?_); simp -dsimp only [push_cast, Int.ofNat_eq_natCast, ↓reduceIte, Nat.reduceAdd, Nat.reduceMul, Nat.reduceSub, Nat.reduceLeDiff, Nat.reduceEqDiff, Nat.reduceBEq, Int.reduceToNat, Nat.reduceLT, Int.reduceEq, Int.reduceLT, Int.reduceLE, Int.reduceAdd, Int.reduceSub, Int.reduceMul, reduceCtorEq, Bool.not_false, Bool.not_true, Bool.true_beq, Bool.false_beq, beq_self_eq_true, Bool.true_and, h300', h2', hk]
            (try simp only [List.length_append, List.length_cons, List.length_nil, List.length_map, List.length_take, List.length_drop]); repeat (refine And.intro (by omega) ?_)
            (first | refine call (hrn) ?_ | refine callP (hrn) ?_); simp -dsimp only [push_cast, Int.ofNat_eq_natCast, ↓reduceIte, Nat.reduceAdd, Nat.reduceMul, Nat.reduceSub, Nat.reduceLeDiff, Nat.reduceEqDiff, Nat.reduceBEq, Int.reduceToNat, Nat.reduceLT, Int.reduceEq, Int.reduceLT, Int.reduceLE, Int.reduceAdd, Int.reduceSub, Int.reduceMul, reduceCtorEq, Bool.not_false, Bool.not_true, Bool.true_beq, Bool.false_beq, beq_self_eq_true, Bool.true_and]
            (try simp only [List.length_append, List.length_cons, List.length_nil, List.length_map, List.length_take, List.length_drop]); repeat (refine And.intro (by omega) ?_)
            (first | refine call (hrd) ?_ | refine callP (hrd) ?_); simp -dsimp only [push_cast, Int.ofNat_eq_natCast, ↓reduceIte, Nat.reduceAdd, Nat.reduceMul, Nat.reduceSub, Nat.reduceLeDiff, Nat.reduceEqDiff, Nat.reduceBEq, Int.reduceToNat, Nat.reduceLT, Int.reduceEq, Int.reduceLT, Int.reduceLE, Int.reduceAdd, Int.reduceSub, Int.reduceMul, reduceCtorEq, Bool.not_false, Bool.not_true, Bool.true_beq, Bool.false_beq, beq_self_eq_true, Bool.true_and, hmne, h4, hr0, strs, List.map_nil, List.length_nil]
            exact ⟨[], rfl, rfl, by simp -dsimp only [WeakTm, WeakBx, CLe, CLeL, push_cast, Int.ofNat_eq_natCast, ↓reduceIte, Nat.reduceAdd, Nat.reduceMul, Nat.reduceSub, Nat.reduceLeDiff, Nat.reduceEqDiff, Nat.reduceBEq, Int.reduceToNat, Nat.reduceLT, Int.reduceEq, Int.reduceLT, Int.reduceLE, Int.reduceAdd, Int.reduceSub, Int.reduceMul, reduceCtorEq, Bool.not_false, Bool.not_true, Bool.true_beq, Bool.false_beq, beq_self_eq_true, Bool.true_and]⟩
          · rw [if_neg hc] at hrd
            refine Fun.of (fun _ => []) (by kernel_rfl) Tryd.func6 rfl rfl (Nat.le_of_ble_eq_true rfl) (by kernel_rfl) ?_; dsimp only [Tryd.f6, List.append_eq, List.cons_append, List.nil_append]
            simp -dsimp only [push_cast, Int.ofNat_eq_natCast, ↓reduceIte, Nat.reduceAdd, Nat.reduceMul, Nat.reduceSub, Nat.reduceLeDiff, Nat.reduceEqDiff, Nat.reduceBEq, Int.reduceToNat, Nat.reduceLT, Int.reduceEq, Int.reduceLT, Int.reduceLE, Int.reduceAdd, Int.reduceSub, Int.reduceMul, reduceCtorEq, Bool.not_false, Bool.not_true, Bool.true_beq, Bool.false_beq, beq_self_eq_true, Bool.true_and]
            (first | refine call (awake17_fun) ?_ | refine callP (awake17_fun) ?_); simp -dsimp only [push_cast, Int.ofNat_eq_natCast, ↓reduceIte, Nat.reduceAdd, Nat.reduceMul, Nat.reduceSub, Nat.reduceLeDiff, Nat.reduceEqDiff, Nat.reduceBEq, Int.reduceToNat, Nat.reduceLT, Int.reduceEq, Int.reduceLT, Int.reduceLE, Int.reduceAdd, Int.reduceSub, Int.reduceMul, reduceCtorEq, Bool.not_false, Bool.not_true, Bool.true_beq, Bool.false_beq, beq_self_eq_true, Bool.true_and]
            (first | refine call (hf) ?_ | refine callP (hf) ?_); simp -dsimp only [push_cast, Int.ofNat_eq_natCast, ↓reduceIte, Nat.reduceAdd, Nat.reduceMul, Nat.reduceSub, Nat.reduceLeDiff, Nat.reduceEqDiff, Nat.reduceBEq, Int.reduceToNat, Nat.reduceLT, Int.reduceEq, Int.reduceLT, Int.reduceLE, Int.reduceAdd, Int.reduceSub, Int.reduceMul, reduceCtorEq, Bool.not_false, Bool.not_true, Bool.true_beq, Bool.false_beq, beq_self_eq_true, Bool.true_and, h300', h2', hk]
            (try simp only [List.length_append, List.length_cons, List.length_nil, List.length_map, List.length_take, List.length_drop]); repeat (refine And.intro (by omega) ?_)
            (first | refine call (hrn) ?_ | refine callP (hrn) ?_); simp -dsimp only [push_cast, Int.ofNat_eq_natCast, ↓reduceIte, Nat.reduceAdd, Nat.reduceMul, Nat.reduceSub, Nat.reduceLeDiff, Nat.reduceEqDiff, Nat.reduceBEq, Int.reduceToNat, Nat.reduceLT, Int.reduceEq, Int.reduceLT, Int.reduceLE, Int.reduceAdd, Int.reduceSub, Int.reduceMul, reduceCtorEq, Bool.not_false, Bool.not_true, Bool.true_beq, Bool.false_beq, beq_self_eq_true, Bool.true_and]
            (try simp only [List.length_append, List.length_cons, List.length_nil, List.length_map, List.length_take, List.length_drop]); repeat (refine And.intro (by omega) ?_)
            (first | refine call (hrd) ?_ | refine callP (hrd) ?_); simp -dsimp only [push_cast, Int.ofNat_eq_natCast, ↓reduceIte, Nat.reduceAdd, Nat.reduceMul, Nat.reduceSub, Nat.reduceLeDiff, Nat.reduceEqDiff, Nat.reduceBEq, Int.reduceToNat, Nat.reduceLT, Int.reduceEq, Int.reduceLT, Int.reduceLE, Int.reduceAdd, Int.reduceSub, Int.reduceMul, reduceCtorEq, Bool.not_false, Bool.not_true, Bool.true_beq, Bool.false_beq, beq_self_eq_true, Bool.true_and]
            (first | refine call (hsm) ?_ | refine callP (hsm) ?_); simp -dsimp only [push_cast, Int.ofNat_eq_natCast, ↓reduceIte, Nat.reduceAdd, Nat.reduceMul, Nat.reduceSub, Nat.reduceLeDiff, Nat.reduceEqDiff, Nat.reduceBEq, Int.reduceToNat, Nat.reduceLT, Int.reduceEq, Int.reduceLT, Int.reduceLE, Int.reduceAdd, Int.reduceSub, Int.reduceMul, reduceCtorEq, Bool.not_false, Bool.not_true, Bool.true_beq, Bool.false_beq, beq_self_eq_true, Bool.true_and]
            exact ⟨[], rfl, rfl, by simp -dsimp only [WeakTm, WeakBx, CLe, CLeL, push_cast, Int.ofNat_eq_natCast, ↓reduceIte, Nat.reduceAdd, Nat.reduceMul, Nat.reduceSub, Nat.reduceLeDiff, Nat.reduceEqDiff, Nat.reduceBEq, Int.reduceToNat, Nat.reduceLT, Int.reduceEq, Int.reduceLT, Int.reduceLE, Int.reduceAdd, Int.reduceSub, Int.reduceMul, reduceCtorEq, Bool.not_false, Bool.not_true, Bool.true_beq, Bool.false_beq, beq_self_eq_true, Bool.true_and]⟩
        · have h2' : (1 < (first.length : Int)) = True := eq_true (by omega)
          have hg : first[0]? = some first[0] := List.getElem?_eq_getElem (by omega)
          have h3 : first[0] ≠ 45 := by
            rcases hlong with h | h
            · exact absurd h h2
            · rw [hg] at h; simpa using h
          have h3' : ((first[0].toNat : Int) = 45) = False := eq_false (fun hh => h3 (UInt8.toNat_inj.1 (by show _ = 45; omega)))
          by_cases hc : 4 ≤ k ∧ rest = []
          · have h4 := hc.1
            have hr0 := hc.2
            rw [if_pos hc] at hrd
            have hmne : nameV k ++ [58, 32] ++ ([109, 105, 115, 115, 105, 110, 103, 32, 100, 101, 115, 116, 105, 110, 97, 116, 105, 111, 110, 32, 111, 112, 101, 114, 97, 110, 100, 32, 97, 102, 116, 101, 114, 32] ++ quoteL first) ≠ [] := by simp
            generalize nameV k ++ [58, 32] ++ ([109, 105, 115, 115, 105, 110, 103, 32, 100, 101, 115, 116, 105, 110, 97, 116, 105, 111, 110, 32, 111, 112, 101, 114, 97, 110, 100, 32, 97, 102, 116, 101, 114, 32] ++ quoteL first) = m at hrd hmne
            refine Fun.of (fun _ => []) (by kernel_rfl) Tryd.func6 rfl rfl (Nat.le_of_ble_eq_true rfl) (by kernel_rfl) ?_; dsimp only [Tryd.f6, List.append_eq, List.cons_append, List.nil_append]
            simp -dsimp only [push_cast, Int.ofNat_eq_natCast, ↓reduceIte, Nat.reduceAdd, Nat.reduceMul, Nat.reduceSub, Nat.reduceLeDiff, Nat.reduceEqDiff, Nat.reduceBEq, Int.reduceToNat, Nat.reduceLT, Int.reduceEq, Int.reduceLT, Int.reduceLE, Int.reduceAdd, Int.reduceSub, Int.reduceMul, reduceCtorEq, Bool.not_false, Bool.not_true, Bool.true_beq, Bool.false_beq, beq_self_eq_true, Bool.true_and]
            (first | refine call (awake17_fun) ?_ | refine callP (awake17_fun) ?_); simp -dsimp only [push_cast, Int.ofNat_eq_natCast, ↓reduceIte, Nat.reduceAdd, Nat.reduceMul, Nat.reduceSub, Nat.reduceLeDiff, Nat.reduceEqDiff, Nat.reduceBEq, Int.reduceToNat, Nat.reduceLT, Int.reduceEq, Int.reduceLT, Int.reduceLE, Int.reduceAdd, Int.reduceSub, Int.reduceMul, reduceCtorEq, Bool.not_false, Bool.not_true, Bool.true_beq, Bool.false_beq, beq_self_eq_true, Bool.true_and]
            (first | refine call (hf) ?_ | refine callP (hf) ?_); simp -dsimp only [push_cast, Int.ofNat_eq_natCast, ↓reduceIte, Nat.reduceAdd, Nat.reduceMul, Nat.reduceSub, Nat.reduceLeDiff, Nat.reduceEqDiff, Nat.reduceBEq, Int.reduceToNat, Nat.reduceLT, Int.reduceEq, Int.reduceLT, Int.reduceLE, Int.reduceAdd, Int.reduceSub, Int.reduceMul, reduceCtorEq, Bool.not_false, Bool.not_true, Bool.true_beq, Bool.false_beq, beq_self_eq_true, Bool.true_and, h300', h2', hk, hg, h3']
            (try simp only [List.length_append, List.length_cons, List.length_nil, List.length_map, List.length_take, List.length_drop]); repeat (refine And.intro (by omega) ?_)
            (first | refine call (hrn) ?_ | refine callP (hrn) ?_); simp -dsimp only [push_cast, Int.ofNat_eq_natCast, ↓reduceIte, Nat.reduceAdd, Nat.reduceMul, Nat.reduceSub, Nat.reduceLeDiff, Nat.reduceEqDiff, Nat.reduceBEq, Int.reduceToNat, Nat.reduceLT, Int.reduceEq, Int.reduceLT, Int.reduceLE, Int.reduceAdd, Int.reduceSub, Int.reduceMul, reduceCtorEq, Bool.not_false, Bool.not_true, Bool.true_beq, Bool.false_beq, beq_self_eq_true, Bool.true_and]
            (try simp only [List.length_append, List.length_cons, List.length_nil, List.length_map, List.length_take, List.length_drop]); repeat (refine And.intro (by omega) ?_)
            (first | refine call (hrd) ?_ | refine callP (hrd) ?_); simp -dsimp only [push_cast, Int.ofNat_eq_natCast, ↓reduceIte, Nat.reduceAdd, Nat.reduceMul, Nat.reduceSub, Nat.reduceLeDiff, Nat.reduceEqDiff, Nat.reduceBEq, Int.reduceToNat, Nat.reduceLT, Int.reduceEq, Int.reduceLT, Int.reduceLE, Int.reduceAdd, Int.reduceSub, Int.reduceMul, reduceCtorEq, Bool.not_false, Bool.not_true, Bool.true_beq, Bool.false_beq, beq_self_eq_true, Bool.true_and, hmne, h4, hr0, strs, List.map_nil, List.length_nil]
            exact ⟨[], rfl, rfl, by simp -dsimp only [WeakTm, WeakBx, CLe, CLeL, push_cast, Int.ofNat_eq_natCast, ↓reduceIte, Nat.reduceAdd, Nat.reduceMul, Nat.reduceSub, Nat.reduceLeDiff, Nat.reduceEqDiff, Nat.reduceBEq, Int.reduceToNat, Nat.reduceLT, Int.reduceEq, Int.reduceLT, Int.reduceLE, Int.reduceAdd, Int.reduceSub, Int.reduceMul, reduceCtorEq, Bool.not_false, Bool.not_true, Bool.true_beq, Bool.false_beq, beq_self_eq_true, Bool.true_and]⟩
          · rw [if_neg hc] at hrd
            refine Fun.of (fun _ => []) (by kernel_rfl) Tryd.func6 rfl rfl (Nat.le_of_ble_eq_true rfl) (by kernel_rfl) ?_; dsimp only [Tryd.f6, List.append_eq, List.cons_append, List.nil_append]
            simp -dsimp only [push_cast, Int.ofNat_eq_natCast, ↓reduceIte, Nat.reduceAdd, Nat.reduceMul, Nat.reduceSub, Nat.reduceLeDiff, Nat.reduceEqDiff, Nat.reduceBEq, Int.reduceToNat, Nat.reduceLT, Int.reduceEq, Int.reduceLT, Int.reduceLE, Int.reduceAdd, Int.reduceSub, Int.reduceMul, reduceCtorEq, Bool.not_false, Bool.not_true, Bool.true_beq, Bool.false_beq, beq_self_eq_true, Bool.true_and]
            (first | refine call (awake17_fun) ?_ | refine callP (awake17_fun) ?_); simp -dsimp only [push_cast, Int.ofNat_eq_natCast, ↓reduceIte, Nat.reduceAdd, Nat.reduceMul, Nat.reduceSub, Nat.reduceLeDiff, Nat.reduceEqDiff, Nat.reduceBEq, Int.reduceToNat, Nat.reduceLT, Int.reduceEq, Int.reduceLT, Int.reduceLE, Int.reduceAdd, Int.reduceSub, Int.reduceMul, reduceCtorEq, Bool.not_false, Bool.not_true, Bool.true_beq, Bool.false_beq, beq_self_eq_true, Bool.true_and]
            (first | refine call (hf) ?_ | refine callP (hf) ?_); simp -dsimp only [push_cast, Int.ofNat_eq_natCast, ↓reduceIte, Nat.reduceAdd, Nat.reduceMul, Nat.reduceSub, Nat.reduceLeDiff, Nat.reduceEqDiff, Nat.reduceBEq, Int.reduceToNat, Nat.reduceLT, Int.reduceEq, Int.reduceLT, Int.reduceLE, Int.reduceAdd, Int.reduceSub, Int.reduceMul, reduceCtorEq, Bool.not_false, Bool.not_true, Bool.true_beq, Bool.false_beq, beq_self_eq_true, Bool.true_and, h300', h2', hk, hg, h3']
            (try simp only [List.length_append, List.length_cons, List.length_nil, List.length_map, List.length_take, List.length_drop]); repeat (refine And.intro (by omega) ?_)
            (first | refine call (hrn) ?_ | refine callP (hrn) ?_); simp -dsimp only [push_cast, Int.ofNat_eq_natCast, ↓reduceIte, Nat.reduceAdd, Nat.reduceMul, Nat.reduceSub, Nat.reduceLeDiff, Nat.reduceEqDiff, Nat.reduceBEq, Int.reduceToNat, Nat.reduceLT, Int.reduceEq, Int.reduceLT, Int.reduceLE, Int.reduceAdd, Int.reduceSub, Int.reduceMul, reduceCtorEq, Bool.not_false, Bool.not_true, Bool.true_beq, Bool.false_beq, beq_self_eq_true, Bool.true_and]
            (try simp only [List.length_append, List.length_cons, List.length_nil, List.length_map, List.length_take, List.length_drop]); repeat (refine And.intro (by omega) ?_)
            (first | refine call (hrd) ?_ | refine callP (hrd) ?_); simp -dsimp only [push_cast, Int.ofNat_eq_natCast, ↓reduceIte, Nat.reduceAdd, Nat.reduceMul, Nat.reduceSub, Nat.reduceLeDiff, Nat.reduceEqDiff, Nat.reduceBEq, Int.reduceToNat, Nat.reduceLT, Int.reduceEq, Int.reduceLT, Int.reduceLE, Int.reduceAdd, Int.reduceSub, Int.reduceMul, reduceCtorEq, Bool.not_false, Bool.not_true, Bool.true_beq, Bool.false_beq, beq_self_eq_true, Bool.true_and]
            (first | refine call (hsm) ?_ | refine callP (hsm) ?_); simp -dsimp only [push_cast, Int.ofNat_eq_natCast, ↓reduceIte, Nat.reduceAdd, Nat.reduceMul, Nat.reduceSub, Nat.reduceLeDiff, Nat.reduceEqDiff, Nat.reduceBEq, Int.reduceToNat, Nat.reduceLT, Int.reduceEq, Int.reduceLT, Int.reduceLE, Int.reduceAdd, Int.reduceSub, Int.reduceMul, reduceCtorEq, Bool.not_false, Bool.not_true, Bool.true_beq, Bool.false_beq, beq_self_eq_true, Bool.true_and]
            exact ⟨[], rfl, rfl, by simp -dsimp only [WeakTm, WeakBx, CLe, CLeL, push_cast, Int.ofNat_eq_natCast, ↓reduceIte, Nat.reduceAdd, Nat.reduceMul, Nat.reduceSub, Nat.reduceLeDiff, Nat.reduceEqDiff, Nat.reduceBEq, Int.reduceToNat, Nat.reduceLT, Int.reduceEq, Int.reduceLT, Int.reduceLE, Int.reduceAdd, Int.reduceSub, Int.reduceMul, reduceCtorEq, Bool.not_false, Bool.not_true, Bool.true_beq, Bool.false_beq, beq_self_eq_true, Bool.true_and]⟩
      · have h2 : ¬ first.length < 2 := fun h => hlong (.inl h)
        have h2' : (1 < (first.length : Int)) = True := eq_true (by omega)
        have hg : first[0]? = some first[0] := List.getElem?_eq_getElem (by omega)
        have h3 : first[0] = 45 := by
          apply Decidable.byContradiction
          intro h
          exact hlong (.inr (by rw [hg]; simpa using h))
        have h3' : ((first[0].toNat : Int) = 45) = True := eq_true (by rw [h3]; rfl)
        refine Fun.of (fun _ => []) (by kernel_rfl) Tryd.func6 rfl rfl (Nat.le_of_ble_eq_true rfl) (by kernel_rfl) ?_; dsimp only [Tryd.f6, List.append_eq, List.cons_append, List.nil_append]
        simp -dsimp only [push_cast, Int.ofNat_eq_natCast, ↓reduceIte, Nat.reduceAdd, Nat.reduceMul, Nat.reduceSub, Nat.reduceLeDiff, Nat.reduceEqDiff, Nat.reduceBEq, Int.reduceToNat, Nat.reduceLT, Int.reduceEq, Int.reduceLT, Int.reduceLE, Int.reduceAdd, Int.reduceSub, Int.reduceMul, reduceCtorEq, Bool.not_false, Bool.not_true, Bool.true_beq, Bool.false_beq, beq_self_eq_true, Bool.true_and]
        (first | refine call (awake17_fun) ?_ | refine callP (awake17_fun) ?_); simp -dsimp only [push_cast, Int.ofNat_eq_natCast, ↓reduceIte, Nat.reduceAdd, Nat.reduceMul, Nat.reduceSub, Nat.reduceLeDiff, Nat.reduceEqDiff, Nat.reduceBEq, Int.reduceToNat, Nat.reduceLT, Int.reduceEq, Int.reduceLT, Int.reduceLE, Int.reduceAdd, Int.reduceSub, Int.reduceMul, reduceCtorEq, Bool.not_false, Bool.not_true, Bool.true_beq, Bool.false_beq, beq_self_eq_true, Bool.true_and]
        (first | refine call (hf) ?_ | refine callP (hf) ?_); simp -dsimp only [push_cast, Int.ofNat_eq_natCast, ↓reduceIte, Nat.reduceAdd, Nat.reduceMul, Nat.reduceSub, Nat.reduceLeDiff, Nat.reduceEqDiff, Nat.reduceBEq, Int.reduceToNat, Nat.reduceLT, Int.reduceEq, Int.reduceLT, Int.reduceLE, Int.reduceAdd, Int.reduceSub, Int.reduceMul, reduceCtorEq, Bool.not_false, Bool.not_true, Bool.true_beq, Bool.false_beq, beq_self_eq_true, Bool.true_and, h300', h2', hg, h3']
        (first | refine call (awake17_fun) ?_ | refine callP (awake17_fun) ?_); simp -dsimp only [push_cast, Int.ofNat_eq_natCast, ↓reduceIte, Nat.reduceAdd, Nat.reduceMul, Nat.reduceSub, Nat.reduceLeDiff, Nat.reduceEqDiff, Nat.reduceBEq, Int.reduceToNat, Nat.reduceLT, Int.reduceEq, Int.reduceLT, Int.reduceLE, Int.reduceAdd, Int.reduceSub, Int.reduceMul, reduceCtorEq, Bool.not_false, Bool.not_true, Bool.true_beq, Bool.false_beq, beq_self_eq_true, Bool.true_and]
        exact ⟨[], rfl, rfl, by simp -dsimp only [WeakTm, WeakBx, CLe, CLeL, push_cast, Int.ofNat_eq_natCast, ↓reduceIte, Nat.reduceAdd, Nat.reduceMul, Nat.reduceSub, Nat.reduceLeDiff, Nat.reduceEqDiff, Nat.reduceBEq, Int.reduceToNat, Nat.reduceLT, Int.reduceEq, Int.reduceLT, Int.reduceLE, Int.reduceAdd, Int.reduceSub, Int.reduceMul, reduceCtorEq, Bool.not_false, Bool.not_true, Bool.true_beq, Bool.false_beq, beq_self_eq_true, Bool.true_and]⟩
    · have h300' : (300 < (first.length : Int)) = True := eq_true (by omega)
      refine Fun.of (fun _ => []) (by kernel_rfl) Tryd.func6 rfl rfl (Nat.le_of_ble_eq_true rfl) (by kernel_rfl) ?_; dsimp only [Tryd.f6, List.append_eq, List.cons_append, List.nil_append]
      simp -dsimp only [push_cast, Int.ofNat_eq_natCast, ↓reduceIte, Nat.reduceAdd, Nat.reduceMul, Nat.reduceSub, Nat.reduceLeDiff, Nat.reduceEqDiff, Nat.reduceBEq, Int.reduceToNat, Nat.reduceLT, Int.reduceEq, Int.reduceLT, Int.reduceLE, Int.reduceAdd, Int.reduceSub, Int.reduceMul, reduceCtorEq, Bool.not_false, Bool.not_true, Bool.true_beq, Bool.false_beq, beq_self_eq_true, Bool.true_and]
      (first | refine call (awake17_fun) ?_ | refine callP (awake17_fun) ?_); simp -dsimp only [push_cast, Int.ofNat_eq_natCast, ↓reduceIte, Nat.reduceAdd, Nat.reduceMul, Nat.reduceSub, Nat.reduceLeDiff, Nat.reduceEqDiff, Nat.reduceBEq, Int.reduceToNat, Nat.reduceLT, Int.reduceEq, Int.reduceLT, Int.reduceLE, Int.reduceAdd, Int.reduceSub, Int.reduceMul, reduceCtorEq, Bool.not_false, Bool.not_true, Bool.true_beq, Bool.false_beq, beq_self_eq_true, Bool.true_and]
      (first | refine call (hf) ?_ | refine callP (hf) ?_); simp -dsimp only [push_cast, Int.ofNat_eq_natCast, ↓reduceIte, Nat.reduceAdd, Nat.reduceMul, Nat.reduceSub, Nat.reduceLeDiff, Nat.reduceEqDiff, Nat.reduceBEq, Int.reduceToNat, Nat.reduceLT, Int.reduceEq, Int.reduceLT, Int.reduceLE, Int.reduceAdd, Int.reduceSub, Int.reduceMul, reduceCtorEq, Bool.not_false, Bool.not_true, Bool.true_beq, Bool.false_beq, beq_self_eq_true, Bool.true_and, h300']
      (first | refine call (awake17_fun) ?_ | refine callP (awake17_fun) ?_); simp -dsimp only [push_cast, Int.ofNat_eq_natCast, ↓reduceIte, Nat.reduceAdd, Nat.reduceMul, Nat.reduceSub, Nat.reduceLeDiff, Nat.reduceEqDiff, Nat.reduceBEq, Int.reduceToNat, Nat.reduceLT, Int.reduceEq, Int.reduceLT, Int.reduceLE, Int.reduceAdd, Int.reduceSub, Int.reduceMul, reduceCtorEq, Bool.not_false, Bool.not_true, Bool.true_beq, Bool.false_beq, beq_self_eq_true, Bool.true_and]
      exact ⟨[], rfl, rfl, by simp -dsimp only [WeakTm, WeakBx, CLe, CLeL, push_cast, Int.ofNat_eq_natCast, ↓reduceIte, Nat.reduceAdd, Nat.reduceMul, Nat.reduceSub, Nat.reduceLeDiff, Nat.reduceEqDiff, Nat.reduceBEq, Int.reduceToNat, Nat.reduceLT, Int.reduceEq, Int.reduceLT, Int.reduceLE, Int.reduceAdd, Int.reduceSub, Int.reduceMul, reduceCtorEq, Bool.not_false, Bool.not_true, Bool.true_beq, Bool.false_beq, beq_self_eq_true, Bool.true_and]⟩
open Go.ChangeMaps Go.ChangeShapes Go.WideShapes in
theorem argsOperands_any {n : Int} (hw : (Lit.int .u8 n).wf = true) (first : List UInt8) (rest : List (List UInt8)) (hfl : first.length ≤ maxLen) : Fun Tryd.prog G3 6 [.sc (.int .u8 n), .str first, .sl 1 (strs rest)] (boolC true) 0 := by
  have h : 0 ≤ n ∧ n ≤ 255 := by simpa [Lit.wf, IntKind.min, IntKind.max, IntKind.signed, IntKind.bits] using hw
  obtain ⟨k, rfl⟩ : ∃ k : Nat, n = (k : Int) := ⟨n.toNat, by omega⟩
  exact argsOperands_fun k (by omega) first rest (by unfold maxLen at hfl; omega)
end Go.Proofs.YtphiahlodjblcaaDoor.Vcg
