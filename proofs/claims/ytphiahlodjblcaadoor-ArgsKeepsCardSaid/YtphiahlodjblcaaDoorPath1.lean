/- A path's parts: the library's split and the program's names, as what they hand out one by one. No condition but bounds that each states. -/
import Derived.Test.YtphiahlodjblcaaDoorRef1
import Derived.Test.YtphiahlodjblcaaDoorShelf
set_option linter.unusedVariables false
set_option linter.unusedSimpArgs false
namespace Go.Proofs.YtphiahlodjblcaaDoor.Vcg
open Go.RowKit
/-- a contract of another make, as one of these -/
theorem Fun.wrap {P : Program} {G : Globs} {f : FuncId} {args : List C} {r : C} (he : entersB P f = true)
    (h : ∀ (R : Env) (vs : List Value), RepL R noLoc args vs → Calls P f vs.toArray R.w fun e w' => ∃ v, e = .returned v ∧ Below R.w.heap.size R.w w' ∧ ∀ R', Ext R R' → Rep R' noLoc r v) : Fun P G f args r 0 := by
  refine ⟨he, fun R vs hg ha => (h R vs ha).mono ?_⟩
  rintro e w' ⟨v, rfl, hb, hr⟩
  have st : PStep 0 0 R noLoc ⟨w', fun b o => b < R.w.heap.size ∧ R.M b o, R.F⟩ noLoc := PStep.mem (nx := 0) hb
  exact ⟨v, _, noLoc, rfl, rfl, st, hr _ st.ext⟩
/-- parts between slashes -/
def spl : List UInt8 → List (List UInt8)
  | [] => [[]]
  | b :: l => if b = 47 then [] :: spl l else match spl l with
    | [] => [[b]]
    | x :: r => (b :: x) :: r
theorem spl_ne (l : List UInt8) : spl l ≠ [] := by
  cases l with
  | nil => simp [spl]
  | cons b l =>
    unfold spl
    split
    · simp
    · split <;> simp
theorem spl_none : ∀ l : List UInt8, Lib.indexByte l 47 < 0 → spl l = [l]
  | [], _ => rfl
  | b :: l, h => by
    unfold Lib.indexByte at h
    by_cases hb : b = 47
    · subst hb; simp at h
    · have hb' : (b == 47) = false := by simpa using hb
      rw [hb'] at h
      simp only [Bool.false_eq_true, if_false] at h
      have hl : Lib.indexByte l 47 < 0 := by
        split at h
        · rename_i g; have := beq_iff_eq.1 g; omega
        · omega
      unfold spl
      rw [if_neg hb, spl_none l hl]
theorem index_ge : ∀ l : List UInt8, -1 ≤ Lib.indexByte l 47
  | [] => Int.le_refl _
  | b :: l => by
    have := index_ge l
    unfold Lib.indexByte
    split
    · decide
    · split
      · decide
      · omega
theorem spl_some : ∀ (l : List UInt8) (i : Nat), Lib.indexByte l 47 = (i : Int) → i < l.length ∧ spl l = l.take i :: spl (l.drop (i + 1))
  | [], i, h => by
    have h : (-1 : Int) = (i : Int) := h
    omega
  | b :: l, i, h => by
    unfold Lib.indexByte at h
    by_cases hb : b = 47
    · subst hb
      simp at h
      obtain rfl : i = 0 := by omega
      refine ⟨by simp, ?_⟩
      conv => lhs; unfold spl
      simp
    · have hb' : (b == 47) = false := by simpa using hb
      rw [hb'] at h
      simp only [Bool.false_eq_true, if_false] at h
      split at h
      · omega
      · rename_i g
        have g' : Lib.indexByte l 47 ≠ -1 := by simpa using g
        have hg := index_ge l
        obtain ⟨j, rfl⟩ : ∃ j, i = j + 1 := ⟨i - 1, by omega⟩
        have hj : Lib.indexByte l 47 = (j : Int) := by omega
        obtain ⟨h1, h2⟩ := spl_some l j hj
        refine ⟨by simp; omega, ?_⟩
        conv => lhs; unfold spl
        rw [if_neg hb, h2]
        simp
theorem spl_length (l : List UInt8) : (spl l).length ≤ l.length + 1 := by
  induction l with
  | nil => simp [spl]
  | cons b l ih =>
    unfold spl
    split
    · simp; omega
    · split
      · simp
      · rename_i x r h
        rw [h] at ih
        simp at ih ⊢; omega
theorem nfold_app : ∀ (l : List UInt8) (a : List (List UInt8)) (cur : List UInt8), nfin (l.foldl nstep (a, cur)) = a ++ (match spl l with | [] => [] | x :: r => (cur ++ x) :: r).filter (fun x => !decide (x = []))
  | [], a, cur => by
    simp only [List.foldl_nil, nfin, spl]
    by_cases h : cur = [] <;> simp [h]
  | b :: l, a, cur => by
    simp only [List.foldl_cons]
    by_cases hb : b = 47
    · subst hb
      have hn : nstep (a, cur) 47 = (if cur = [] then a else a ++ [cur], []) := by simp [nstep]
      rw [hn, nfold_app l]
      conv => rhs; unfold spl
      simp only [if_true]
      have hne := spl_ne l
      cases hs : spl l with
      | nil => exact absurd hs hne
      | cons x r => by_cases h : cur = [] <;> simp [h]
    · have hn : nstep (a, cur) b = (a, cur ++ [b]) := by simp [nstep, hb]
      rw [hn, nfold_app l]
      conv => rhs; unfold spl
      rw [if_neg hb]
      have hne := spl_ne l
      cases hs : spl l with
      | nil => exact absurd hs hne
      | cons x r => simp
theorem names_spl (l : List UInt8) : names l = (spl l).filter (fun x => !decide (x = [])) := by
  unfold names
  rw [nfold_app]
  cases hs : spl l with
  | nil => rfl
  | cons x r => simp
end Go.Proofs.YtphiahlodjblcaaDoor.Vcg
