/- A path's parts: the library's split and the program's names, as what they hand out one by one. No condition but bounds that each states. -/
import Derived.Test.YtbkdmegjgakjpaaDoorRef1
import Derived.Test.YtbkdmegjgakjpaaDoorShelf
set_option linter.unusedVariables false
set_option linter.unusedSimpArgs false
namespace Go.Proofs.YtbkdmegjgakjpaaDoor.Vcg
open Go.RowKit
/-- a contract of another make, as one of these -/
theorem Fun.wrap {P : Program} {G : Globs} {f : FuncId} {args : List C} {r : C} (he : entersB P f = true)
    (h : ∀ (R : Env) (vs : List Value), RepL R noLoc args vs → Calls P f vs.toArray R.w fun e w' => ∃ v, e = .returned v ∧ Below R.w.heap.size R.w w' ∧ ∀ R', Ext R R' → Rep R' noLoc r v) : Fun P G f args r 0 := by
  refine ⟨he, fun R vs hg ha => (h R vs ha).mono ?_⟩
  rintro e w' ⟨v, rfl, hb, hr⟩
  have st : PStep 0 0 R noLoc ⟨w', fun b o => b < R.w.heap.size ∧ R.M b o, R.F⟩ noLoc := PStep.mem (nx := 0) hb
  exact ⟨v, _, noLoc, rfl, rfl, st, hr _ st.ext⟩
/-- parts between slashes -/
def spl : List UInt8 → List (List UInt8)
  | [] => [[]]
  | b :: l => if b = 47 then [] :: spl l else match spl l with
    | [] => [[b]]
    | x :: r => (b :: x) :: r
theorem spl_ne (l : List UInt8) : spl l ≠ [] := by
  cases l with
  | nil => simp [spl]
  | cons b l =>
    unfold spl
    split
    · simp
    · split <;> simp
theorem spl_none : ∀ l : List UInt8, Lib.indexByte l 47 < 0 → spl l = [l]
  | [], _ => rfl
  | b :: l, h => by
    unfold Lib.indexByte at h
    by_cases hb : b = 47
    · subst hb; simp at h
    · have hb' : (b == 47) = false := by simpa using hb
      rw [hb'] at h
      simp only [Bool.false_eq_true, if_false] at h
      have hl : Lib.indexByte l 47 < 0 := by
        split at h
        · rename_i g; have := beq_iff_eq.1 g; omega
        · omega
      unfold spl
      rw [if_neg hb, spl_none l hl]
theorem index_ge : ∀ l : List UInt8, -1 ≤ Lib.indexByte l 47
  | [] => Int.le_refl _
  | b :: l => by
    have := index_ge l
    unfold Lib.indexByte
    split
    · decide
    · split
      · decide
      · omega
theorem spl_some : ∀ (l : List UInt8) (i : Nat), Lib.indexByte l 47 = (i : Int) → i < l.length ∧ spl l = l.take i :: spl (l.drop (i + 1))
  | [], i, h => by
    have h : (-1 : Int) = (i : Int) := h
    omega
  | b :: l, i, h => by
    unfold Lib.indexByte at h
    by_cases hb : b = 47
    · subst hb
      simp at h
      obtain rfl : i = 0 := by omega
      refine ⟨by simp, ?_⟩
      conv => lhs; unfold spl
      simp
    · have hb' : (b == 47) = false := by simpa using hb
      rw [hb'] at h
      simp only [Bool.false_eq_true, if_false] at h
      split at h
      · omega
      · rename_i g
        have g' : Lib.indexByte l 47 ≠ -1 := by simpa using g
        have hg := index_ge l
        obtain ⟨j, rfl⟩ : ∃ j, i = j + 1 := ⟨i - 1, by omega⟩
        have hj : Lib.indexByte l 47 = (j : Int) := by omega
        obtain ⟨h1, h2⟩ := spl_some l j hj
        refine ⟨by simp; omega, ?_⟩
        conv => lhs; unfold spl
        rw [if_neg hb, h2]
        simp
theorem spl_length (l : List UInt8) : (spl l).length ≤ l.length + 1 := by
  induction l with
  | nil => simp [spl]
  | cons b l ih =>
    unfold spl
    split
    · simp; omega
    · split
      · simp
      · rename_i x r h
        rw [h] at ih
        simp at ih ⊢; omega
theorem nfold_app : ∀ (l : List UInt8) (a : List (List UInt8)) (cur : List UInt8), nfin (l.foldl nstep (a, cur)) = a ++ (match spl l with | [] => [] | x :: r => (cur ++ x) :: r).filter (fun x => !decide (x = []))
  | [], a, cur => by
    simp only [List.foldl_nil, nfin, spl]
    by_cases h : cur = [] <;> simp [h]
  | b :: l, a, cur => by
    simp only [List.foldl_cons]
    by_cases hb : b = 47
    · subst hb
      have hn : nstep (a, cur) 47 = (if cur = [] then a else a ++ [cur], []) := by simp [nstep]
      rw [hn, nfold_app l]
      conv => rhs; unfold spl
      simp only [if_true]
      have hne := spl_ne l
      cases hs : spl l with
      | nil => exact absurd hs hne
      | cons x r => by_cases h : cur = [] <;> simp [h]
    · have hn : nstep (a, cur) b = (a, cur ++ [b]) := by simp [nstep, hb]
      rw [hn, nfold_app l]
      conv => rhs; unfold spl
      rw [if_neg hb]
      have hne := spl_ne l
      cases hs : spl l with
      | nil => exact absurd hs hne
      | cons x r => simp
theorem names_spl (l : List UInt8) : names l = (spl l).filter (fun x => !decide (x = [])) := by
  unfold names
  rw [nfold_app]
  cases hs : spl l with
  | nil => rfl
  | cons x r => simp
theorem index_fun (l : List UInt8) : Fun Tryd.prog G0 65 [.str l, .str [47]] (.sc (.int .i64 (Lib.indexByte l 47))) 0 := by
  refine Fun.wrap (by kernel_rfl) fun R vs h => ?_
  obtain ⟨v1, us1, rfl, h1, h⟩ := repL_cons.1 h
  obtain ⟨v2, us2, rfl, h2, h⟩ := repL_cons.1 h
  rw [repL_nil] at h
  subst h
  rw [rep_str] at h1 h2
  subst h1 h2
  refine (Tryd.strings_Index_one ⟨l.toArray⟩ 47 R.w).mono ?_
  rintro e w' ⟨rfl, rfl⟩
  exact ⟨_, rfl, Below.refl _ _, fun R' _ => rep_sc.2 (by simp)⟩
set_option maxRecDepth 100000 in
set_option maxHeartbeats 1000000 in
theorem splitSeq1_iter (s : List UInt8) (hs : s.length ≤ 1000000) : Iter Tryd.prog G0 63 [] [.ptr 1 0, .ptr 0 0, .ptr 2 0] [[.str s], [.str [47]], [.sc (.int .i64 0)]] (strs (spl s)) := by
  refine Iter.of (fun _ => []) (by kernel_rfl) Tryd.func63 rfl rfl (Nat.le_of_ble_eq_true rfl) (by kernel_rfl) ?_; dsimp only [Tryd.f63, List.append_eq, List.cons_append, List.nil_append]
  intro l sf
  simp -dsimp only [push_cast, ↓reduceIte, Nat.reduceAdd, Nat.reduceMul, Nat.reduceSub, Nat.reduceLeDiff, Nat.reduceEqDiff, Nat.reduceBEq, Int.reduceToNat, Nat.reduceLT, Int.reduceEq, Int.reduceLT, Int.reduceLE, Int.reduceAdd, Int.reduceSub, Int.reduceMul, reduceCtorEq, Bool.not_false, Bool.not_true, Bool.true_beq, Bool.false_beq, beq_self_eq_true]
  refine loop (fun x : List UInt8 × Nat => ⟨[(0, .sc (.func (.yield l) #[] #[])), (1, .ptr 1 0), (2, .ptr 0 0), (3, .ptr 2 0)], [[.str x.1], [.str [47]], [.sc (.int .i64 0)]], 0, x.2⟩)
    (fun x => x.1.length ≤ 1000000 ∧ (∃ done, spl s = done ++ spl x.1 ∧ done.length = x.2) ∧ ∀ j, j < x.2 → sf j = false) (fun x => x.1.length) (s, 0) ⟨hs, ⟨[], rfl, rfl⟩, fun j hj => by omega⟩ ?_ ?_
  · refine Weak.mk [] rfl rfl (Nat.zero_le _) rfl ?_ ?_ <;> simp -dsimp only [WeakTm, WeakBx, CLe, CLeL, push_cast, ↓reduceIte, Nat.reduceAdd, Nat.reduceMul, Nat.reduceSub, Nat.reduceLeDiff, Nat.reduceEqDiff, Nat.reduceBEq, Int.reduceToNat, Nat.reduceLT, Int.reduceEq, Int.reduceLT, Int.reduceLE, Int.reduceAdd, Int.reduceSub, Int.reduceMul, reduceCtorEq, Bool.not_false, Bool.not_true, Bool.true_beq, Bool.false_beq, beq_self_eq_true] <;> omega
  · rintro ⟨r, k⟩ hx
    simp only at hx ⊢
    have hr := hx.1
    have hsf := hx.2.2
    obtain ⟨done, hd, hdl⟩ := hx.2.1
    clear hx
    simp -dsimp only [push_cast, ↓reduceIte, Nat.reduceAdd, Nat.reduceMul, Nat.reduceSub, Nat.reduceLeDiff, Nat.reduceEqDiff, Nat.reduceBEq, Int.reduceToNat, Nat.reduceLT, Int.reduceEq, Int.reduceLT, Int.reduceLE, Int.reduceAdd, Int.reduceSub, Int.reduceMul, reduceCtorEq, Bool.not_false, Bool.not_true, Bool.true_beq, Bool.false_beq, beq_self_eq_true]
    refine call (index_fun r) ?_
    simp -dsimp only [push_cast, ↓reduceIte, Nat.reduceAdd, Nat.reduceMul, Nat.reduceSub, Nat.reduceLeDiff, Nat.reduceEqDiff, Nat.reduceBEq, Int.reduceToNat, Nat.reduceLT, Int.reduceEq, Int.reduceLT, Int.reduceLE, Int.reduceAdd, Int.reduceSub, Int.reduceMul, reduceCtorEq, Bool.not_false, Bool.not_true, Bool.true_beq, Bool.false_beq, beq_self_eq_true]
    by_cases hi : Lib.indexByte r 47 < 0
    · simp -dsimp only [push_cast, ↓reduceIte, Nat.reduceAdd, Nat.reduceMul, Nat.reduceSub, Nat.reduceLeDiff, Nat.reduceEqDiff, Nat.reduceBEq, Int.reduceToNat, Nat.reduceLT, Int.reduceEq, Int.reduceLT, Int.reduceLE, Int.reduceAdd, Int.reduceSub, Int.reduceMul, reduceCtorEq, Bool.not_false, Bool.not_true, Bool.true_beq, Bool.false_beq, beq_self_eq_true, hi]
      have hk : (strs (spl s))[k]? = some [.str r] := by
        rw [hd, spl_none r hi]; simp [← hdl]
      rw [hk]
      simp -dsimp only [push_cast, ↓reduceIte, Nat.reduceAdd, Nat.reduceMul, Nat.reduceSub, Nat.reduceLeDiff, Nat.reduceEqDiff, Nat.reduceBEq, Int.reduceToNat, Nat.reduceLT, Int.reduceEq, Int.reduceLT, Int.reduceLE, Int.reduceAdd, Int.reduceSub, Int.reduceMul, reduceCtorEq, Bool.not_false, Bool.not_true, Bool.true_beq, Bool.false_beq, beq_self_eq_true]
      refine ⟨by simp -dsimp only [WeakTm, WeakBx, CLe, CLeL, push_cast, ↓reduceIte, Nat.reduceAdd, Nat.reduceMul, Nat.reduceSub, Nat.reduceLeDiff, Nat.reduceEqDiff, Nat.reduceBEq, Int.reduceToNat, Nat.reduceLT, Int.reduceEq, Int.reduceLT, Int.reduceLE, Int.reduceAdd, Int.reduceSub, Int.reduceMul, reduceCtorEq, Bool.not_false, Bool.not_true, Bool.true_beq, Bool.false_beq, beq_self_eq_true], hsf, ?_⟩
      cases hk2 : sf k with
      | true => exact .inr ⟨Nat.succ_pos k, hk2⟩
      | false =>
        refine .inl ⟨?_, fun j (hj : j < k + 1) => ?_⟩
        · rw [hd, spl_none r hi]; simp [hdl]
        · rcases Nat.lt_or_ge j k with g | g
          · exact hsf j g
          · rw [show j = k by omega]; exact hk2
    · have hg := index_ge r
      obtain ⟨i, hii⟩ : ∃ i : Nat, Lib.indexByte r 47 = (i : Int) := ⟨(Lib.indexByte r 47).toNat, by omega⟩
      obtain ⟨hir, hsp⟩ := spl_some r i hii
      have hk : (strs (spl s))[k]? = some [.str (r.take i)] := by
        rw [hd, hsp]; simp [← hdl]
      rw [hii] at hi ⊢
      simp -dsimp only [push_cast, ↓reduceIte, Nat.reduceAdd, Nat.reduceMul, Nat.reduceSub, Nat.reduceLeDiff, Nat.reduceEqDiff, Nat.reduceBEq, Int.reduceToNat, Nat.reduceLT, Int.reduceEq, Int.reduceLT, Int.reduceLE, Int.reduceAdd, Int.reduceSub, Int.reduceMul, reduceCtorEq, Bool.not_false, Bool.not_true, Bool.true_beq, Bool.false_beq, beq_self_eq_true, hi]
      rw [hk]
      simp -dsimp only [push_cast, ↓reduceIte, Nat.reduceAdd, Nat.reduceMul, Nat.reduceSub, Nat.reduceLeDiff, Nat.reduceEqDiff, Nat.reduceBEq, Int.reduceToNat, Nat.reduceLT, Int.reduceEq, Int.reduceLT, Int.reduceLE, Int.reduceAdd, Int.reduceSub, Int.reduceMul, reduceCtorEq, Bool.not_false, Bool.not_true, Bool.true_beq, Bool.false_beq, beq_self_eq_true]
      refine ⟨by omega, by omega, by simp -dsimp only [WeakTm, WeakBx, CLe, CLeL, push_cast, ↓reduceIte, Nat.reduceAdd, Nat.reduceMul, Nat.reduceSub, Nat.reduceLeDiff, Nat.reduceEqDiff, Nat.reduceBEq, Int.reduceToNat, Nat.reduceLT, Int.reduceEq, Int.reduceLT, Int.reduceLE, Int.reduceAdd, Int.reduceSub, Int.reduceMul, reduceCtorEq, Bool.not_false, Bool.not_true, Bool.true_beq, Bool.false_beq, beq_self_eq_true], hsf, br (fun hk2 => ?_) (fun hk2 => ?_)⟩
      · simp -dsimp only [push_cast, ↓reduceIte, Nat.reduceAdd, Nat.reduceMul, Nat.reduceSub, Nat.reduceLeDiff, Nat.reduceEqDiff, Nat.reduceBEq, Int.reduceToNat, Nat.reduceLT, Int.reduceEq, Int.reduceLT, Int.reduceLE, Int.reduceAdd, Int.reduceSub, Int.reduceMul, reduceCtorEq, Bool.not_false, Bool.not_true, Bool.true_beq, Bool.false_beq, beq_self_eq_true]
        exact .inr ⟨Nat.succ_pos k, hk2⟩
      · simp -dsimp only [push_cast, ↓reduceIte, Nat.reduceAdd, Nat.reduceMul, Nat.reduceSub, Nat.reduceLeDiff, Nat.reduceEqDiff, Nat.reduceBEq, Int.reduceToNat, Nat.reduceLT, Int.reduceEq, Int.reduceLT, Int.reduceLE, Int.reduceAdd, Int.reduceSub, Int.reduceMul, reduceCtorEq, Bool.not_false, Bool.not_true, Bool.true_beq, Bool.false_beq, beq_self_eq_true]
        refine ⟨by omega, by omega, (r.drop (i + 1), k + 1), ⟨by simp; omega, ⟨done ++ [r.take i], by rw [hd, hsp]; simp, by simp [hdl]⟩, fun j (hj : j < k + 1) => ?_⟩, by simp; omega, Weak.mk [] rfl rfl (Nat.zero_le _) rfl ?_ ?_⟩
        · rcases Nat.lt_or_ge j k with g | g
          · exact hsf j g
          · rw [show j = k by omega]; exact hk2
        · simp -dsimp only [WeakTm, WeakBx, CLe, CLeL, push_cast, ↓reduceIte, Nat.reduceAdd, Nat.reduceMul, Nat.reduceSub, Nat.reduceLeDiff, Nat.reduceEqDiff, Nat.reduceBEq, Int.reduceToNat, Nat.reduceLT, Int.reduceEq, Int.reduceLT, Int.reduceLE, Int.reduceAdd, Int.reduceSub, Int.reduceMul, reduceCtorEq, Bool.not_false, Bool.not_true, Bool.true_beq, Bool.false_beq, beq_self_eq_true]
        · simp -dsimp only [WeakTm, WeakBx, CLe, CLeL, push_cast, ↓reduceIte, Nat.reduceAdd, Nat.reduceMul, Nat.reduceSub, Nat.reduceLeDiff, Nat.reduceEqDiff, Nat.reduceBEq, Int.reduceToNat, Nat.reduceLT, Int.reduceEq, Int.reduceLT, Int.reduceLE, Int.reduceAdd, Int.reduceSub, Int.reduceMul, reduceCtorEq, Bool.not_false, Bool.not_true, Bool.true_beq, Bool.false_beq, beq_self_eq_true]
/-- strings.SplitSeq at a slash: a function that hands out the parts -/
theorem splitSeq_fun (s : List UInt8) : FunB Tryd.prog G0 48 [.str s, .str [47], .sc (.int .i64 0)] [] 0 (.clo (.func 63) [] [.ptr 1 0, .ptr 0 0, .ptr 2 0]) [[.str s], [.str [47]], [.sc (.int .i64 0)]] 0 := by
  refine FunB.of (fun _ => []) (by kernel_rfl) Tryd.func48 rfl rfl (Nat.le_of_ble_eq_true rfl) (by kernel_rfl) (Nat.le_of_ble_eq_true rfl) ?_; dsimp only [Tryd.f48, List.append_eq, List.cons_append, List.nil_append]
  simp -dsimp only [push_cast, ↓reduceIte, Nat.reduceAdd, Nat.reduceMul, Nat.reduceSub, Nat.reduceLeDiff, Nat.reduceEqDiff, Nat.reduceBEq, Int.reduceToNat, Nat.reduceLT, Int.reduceEq, Int.reduceLT, Int.reduceLE, Int.reduceAdd, Int.reduceSub, Int.reduceMul, reduceCtorEq, Bool.not_false, Bool.not_true, Bool.true_beq, Bool.false_beq, beq_self_eq_true]
  exact ⟨[], rfl, rfl, by simp -dsimp only [WeakTm, WeakBx, CLe, CLeL, push_cast, ↓reduceIte, Nat.reduceAdd, Nat.reduceMul, Nat.reduceSub, Nat.reduceLeDiff, Nat.reduceEqDiff, Nat.reduceBEq, Int.reduceToNat, Nat.reduceLT, Int.reduceEq, Int.reduceLT, Int.reduceLE, Int.reduceAdd, Int.reduceSub, Int.reduceMul, reduceCtorEq, Bool.not_false, Bool.not_true, Bool.true_beq, Bool.false_beq, beq_self_eq_true], by simp -dsimp only [WeakTm, WeakBx, CLe, CLeL, push_cast, ↓reduceIte, Nat.reduceAdd, Nat.reduceMul, Nat.reduceSub, Nat.reduceLeDiff, Nat.reduceEqDiff, Nat.reduceBEq, Int.reduceToNat, Nat.reduceLT, Int.reduceEq, Int.reduceLT, Int.reduceLE, Int.reduceAdd, Int.reduceSub, Int.reduceMul, reduceCtorEq, Bool.not_false, Bool.not_true, Bool.true_beq, Bool.false_beq, beq_self_eq_true]⟩
theorem SplitSeq_fun (s : List UInt8) : FunB Tryd.prog G0 29 [.str s, .str [47]] [] 0 (.clo (.func 63) [] [.ptr 1 0, .ptr 0 0, .ptr 2 0]) [[.str s], [.str [47]], [.sc (.int .i64 0)]] 0 := by
  refine FunB.of (fun _ => []) (by kernel_rfl) Tryd.func29 rfl rfl (Nat.le_of_ble_eq_true rfl) (by kernel_rfl) (Nat.le_of_ble_eq_true rfl) ?_; dsimp only [Tryd.f29, List.append_eq, List.cons_append, List.nil_append]
  simp -dsimp only [push_cast, ↓reduceIte, Nat.reduceAdd, Nat.reduceMul, Nat.reduceSub, Nat.reduceLeDiff, Nat.reduceEqDiff, Nat.reduceBEq, Int.reduceToNat, Nat.reduceLT, Int.reduceEq, Int.reduceLT, Int.reduceLE, Int.reduceAdd, Int.reduceSub, Int.reduceMul, reduceCtorEq, Bool.not_false, Bool.not_true, Bool.true_beq, Bool.false_beq, beq_self_eq_true]
  refine callB [] [] (splitSeq_fun s) rfl (by simp) (by simp) (fun i hi => by cases hi) (by simp -dsimp only [push_cast, ↓reduceIte, Nat.reduceAdd, Nat.reduceMul, Nat.reduceSub, Nat.reduceLeDiff, Nat.reduceEqDiff, Nat.reduceBEq, Int.reduceToNat, Nat.reduceLT, Int.reduceEq, Int.reduceLT, Int.reduceLE, Int.reduceAdd, Int.reduceSub, Int.reduceMul, reduceCtorEq, Bool.not_false, Bool.not_true, Bool.true_beq, Bool.false_beq, beq_self_eq_true]) rfl ?_
  simp -dsimp only [push_cast, ↓reduceIte, Nat.reduceAdd, Nat.reduceMul, Nat.reduceSub, Nat.reduceLeDiff, Nat.reduceEqDiff, Nat.reduceBEq, Int.reduceToNat, Nat.reduceLT, Int.reduceEq, Int.reduceLT, Int.reduceLE, Int.reduceAdd, Int.reduceSub, Int.reduceMul, reduceCtorEq, Bool.not_false, Bool.not_true, Bool.true_beq, Bool.false_beq, beq_self_eq_true]
  exact ⟨[], rfl, rfl, by simp -dsimp only [WeakTm, WeakBx, CLe, CLeL, push_cast, ↓reduceIte, Nat.reduceAdd, Nat.reduceMul, Nat.reduceSub, Nat.reduceLeDiff, Nat.reduceEqDiff, Nat.reduceBEq, Int.reduceToNat, Nat.reduceLT, Int.reduceEq, Int.reduceLT, Int.reduceLE, Int.reduceAdd, Int.reduceSub, Int.reduceMul, reduceCtorEq, Bool.not_false, Bool.not_true, Bool.true_beq, Bool.false_beq, beq_self_eq_true], by simp -dsimp only [WeakTm, WeakBx, CLe, CLeL, push_cast, ↓reduceIte, Nat.reduceAdd, Nat.reduceMul, Nat.reduceSub, Nat.reduceLeDiff, Nat.reduceEqDiff, Nat.reduceBEq, Int.reduceToNat, Nat.reduceLT, Int.reduceEq, Int.reduceLT, Int.reduceLE, Int.reduceAdd, Int.reduceSub, Int.reduceMul, reduceCtorEq, Bool.not_false, Bool.not_true, Bool.true_beq, Bool.false_beq, beq_self_eq_true]⟩
end Go.Proofs.YtbkdmegjgakjpaaDoor.Vcg
