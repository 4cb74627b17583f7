/- Lists in boxes that are lent, or handed in: Clone, and what a table's Set and Drop answer over one. No condition but what each states. -/
import Derived.Test.YtheokoehnmlafaaTabR
set_option linter.unusedVariables false
set_option linter.unusedSimpArgs false
namespace Go.Proofs.Ytheokoehnmlafaa.Vcg
open Go.RowKit
section
variable {G : Globs}
theorem lend_box {bx : List (List C)} {i k n cap : Nat} {rows : List (List C)} {cs : List C} (hb : bx[i]? = some cs) (hn : rows.length = n) (hc : n ≤ cap) (hm : cap ≤ 9223372036854775807) (hk : ∀ r ∈ rows, r.length = k) (hs : staysR rows) (ht : cs.take (n * k) = rows.flatten) : lends bx (.bs i 0 k n cap) (.sl k rows) := by
  unfold lends
  exact ⟨rows, cs, rfl, hn, hc, by unfold maxLen; omega, hb, hk, by rw [List.drop_zero, ht, stays_frz (stays_flat hs)]⟩
theorem lend_fs {bx : List (List C)} {f : FsV} {i cap : Nat} {cs : List C} {n : Nat} (hn : f.xs.length = n) (hb : bx[i]? = some cs) (hc : n ≤ cap) (hm : cap ≤ 9223372036854775807) (ht : cs.take (n * 6) = (nodsC f.xs).flatten) : lends bx (.agg [.sc (.int .i64 f.maxI), .sc (.int .i64 f.maxB), .sc (.int .i64 f.next), .bs i 0 6 n cap]) (.agg (fsC f)) := by
  unfold lends
  refine ⟨_, rfl, ?_⟩
  unfold lendsL
  refine ⟨_, _, rfl, by unfold lends; rw [C.frz], ?_⟩
  unfold lendsL
  refine ⟨_, _, rfl, by unfold lends; rw [C.frz], ?_⟩
  unfold lendsL
  refine ⟨_, _, rfl, by unfold lends; rw [C.frz], ?_⟩
  unfold lendsL
  exact ⟨_, _, rfl, lend_box hb (by rw [List.length_map]; exact hn) hc hm nods_len nods_stay ht, by unfold lendsL; rfl⟩
theorem cloneB_fun (rows : List (List C)) (tail : List C) (cap : Nat) (hk : ∀ r ∈ rows, r.length = 6) (hs : staysR rows) (hst : (tail.all C.stayB) = true) (hl : rows.length ≤ 100000) (hc : rows.length ≤ cap) (hcm : cap ≤ 9223372036854775807) (htl : tail.length = (cap - rows.length) * 6) :
    FunX Try.prog G 20 [.bs 0 0 6 rows.length cap] [rows.flatten ++ tail] 0 (fun r bx' n => n = 0 ∧ ((rows ≠ [] ∧ ∃ c, rows.length ≤ c ∧ c ≤ 9223372036854775807 ∧ r = .bs 2 0 6 rows.length c ∧ bx' = [rows.flatten ++ tail, [], boxR 6 rows c]) ∨ (rows = [] ∧ r = .bs 1 0 6 0 0 ∧ bx' = [rows.flatten ++ tail, []]))) := by
  have hfl := flat_len hk
  have hBl : (rows.flatten ++ tail).length = cap * 6 := by rw [List.length_append, hfl, htl]; omega
  have hBs : ((rows.flatten ++ tail).all C.stayB) = true := by rw [List.all_append, stays_flat hs, hst]; rfl
  have hBt : (rows.flatten ++ tail).take (rows.length * 6) = rows.flatten := List.take_left' hfl
  generalize hB : rows.flatten ++ tail = B at hBl hBs hBt ⊢
  refine FunX.of (fun i => if i = 1000000 + 22 then [true, true] else []) (by kernel_rfl) Try.func20 rfl rfl (Nat.le_of_ble_eq_true rfl) (by kernel_rfl) ?_; dsimp only [Try.f20, List.append_eq, List.cons_append, List.nil_append]
  simp -dsimp only [push_cast, Int.ofNat_eq_natCast, ↓reduceIte, Nat.reduceAdd, Nat.reduceMul, Nat.reduceSub, Nat.reduceLeDiff, Nat.reduceEqDiff, Nat.reduceBEq, Int.reduceToNat, Nat.reduceLT, Int.reduceEq, Int.reduceLT, Int.reduceLE, Int.reduceAdd, Int.reduceSub, Int.reduceMul, reduceCtorEq, Bool.not_false, Bool.not_true, Bool.true_beq, Bool.false_beq, beq_self_eq_true, Bool.true_and]
  refine appB2 lay22 lay30 (xs_box rfl (by rw [hBl]; omega)) rfl (by decide) rfl (by rw [List.drop_zero, hBt, hfl]) rfl (Nat.le_refl _) (Nat.le_refl _) (by omega) (by omega) (fun h0 => ?_) (fun h0 c h1 h2 => ?_)
  · have he : rows = [] := List.eq_nil_of_length_eq_zero (by omega)
    have hl0 : rows.length = 0 := by rw [he]; rfl
    simp -dsimp only [push_cast, Int.ofNat_eq_natCast, ↓reduceIte, Nat.reduceAdd, Nat.reduceMul, Nat.reduceSub, Nat.reduceLeDiff, Nat.reduceEqDiff, Nat.reduceBEq, Int.reduceToNat, Nat.reduceLT, Int.reduceEq, Int.reduceLT, Int.reduceLE, Int.reduceAdd, Int.reduceSub, Int.reduceMul, reduceCtorEq, Bool.not_false, Bool.not_true, Bool.true_beq, Bool.false_beq, beq_self_eq_true, Bool.true_and, hl0]
    refine ⟨_, _, _, ⟨⟨rfl, .inr ⟨he, rfl, rfl⟩⟩, Nat.le_of_ble_eq_true rfl⟩, [], rfl, rfl, ?_, by simp -dsimp only [WeakTm, WeakBx, CLe, CLeL, push_cast, Int.ofNat_eq_natCast, ↓reduceIte, Nat.reduceAdd, Nat.reduceMul, Nat.reduceSub, Nat.reduceLeDiff, Nat.reduceEqDiff, Nat.reduceBEq, Int.reduceToNat, Nat.reduceLT, Int.reduceEq, Int.reduceLT, Int.reduceLE, Int.reduceAdd, Int.reduceSub, Int.reduceMul, reduceCtorEq, Bool.not_false, Bool.not_true, Bool.true_beq, Bool.false_beq, beq_self_eq_true, Bool.true_and]⟩
    simp -dsimp only [WeakTm, WeakBx, CLe, CLeL, push_cast, Int.ofNat_eq_natCast, ↓reduceIte, Nat.reduceAdd, Nat.reduceMul, Nat.reduceSub, Nat.reduceLeDiff, Nat.reduceEqDiff, Nat.reduceBEq, Int.reduceToNat, Nat.reduceLT, Int.reduceEq, Int.reduceLT, Int.reduceLE, Int.reduceAdd, Int.reduceSub, Int.reduceMul, reduceCtorEq, Bool.not_false, Bool.not_true, Bool.true_beq, Bool.false_beq, beq_self_eq_true, Bool.true_and, spl]
    first | exact stays_le hBs | exact ⟨stays_le hBs, trivial⟩ | (simp [CLeL]; exact stays_le hBs)
  · have h : rows ≠ [] := fun he => by rw [he] at h0; simp at h0
    rw [Nat.zero_add] at h1 h0
    simp -dsimp only [push_cast, Int.ofNat_eq_natCast, ↓reduceIte, Nat.reduceAdd, Nat.reduceMul, Nat.reduceSub, Nat.reduceLeDiff, Nat.reduceEqDiff, Nat.reduceBEq, Int.reduceToNat, Nat.reduceLT, Int.reduceEq, Int.reduceLT, Int.reduceLE, Int.reduceAdd, Int.reduceSub, Int.reduceMul, reduceCtorEq, Bool.not_false, Bool.not_true, Bool.true_beq, Bool.false_beq, beq_self_eq_true, Bool.true_and, hBt]
    refine ⟨_, _, _, ⟨⟨rfl, .inl ⟨h, c, h1, h2, rfl, rfl⟩⟩, Nat.le_of_ble_eq_true rfl⟩, [], rfl, rfl, ?_, by simp -dsimp only [WeakTm, WeakBx, CLe, CLeL, push_cast, Int.ofNat_eq_natCast, ↓reduceIte, Nat.reduceAdd, Nat.reduceMul, Nat.reduceSub, Nat.reduceLeDiff, Nat.reduceEqDiff, Nat.reduceBEq, Int.reduceToNat, Nat.reduceLT, Int.reduceEq, Int.reduceLT, Int.reduceLE, Int.reduceAdd, Int.reduceSub, Int.reduceMul, reduceCtorEq, Bool.not_false, Bool.not_true, Bool.true_beq, Bool.false_beq, beq_self_eq_true, Bool.true_and]⟩
    simp -dsimp only [WeakTm, WeakBx, CLe, CLeL, push_cast, Int.ofNat_eq_natCast, ↓reduceIte, Nat.reduceAdd, Nat.reduceMul, Nat.reduceSub, Nat.reduceLeDiff, Nat.reduceEqDiff, Nat.reduceBEq, Int.reduceToNat, Nat.reduceLT, Int.reduceEq, Int.reduceLT, Int.reduceLE, Int.reduceAdd, Int.reduceSub, Int.reduceMul, reduceCtorEq, Bool.not_false, Bool.not_true, Bool.true_beq, Bool.false_beq, beq_self_eq_true, Bool.true_and]
    have := stays_le (src := []) (n := 3) (stays_box (k := 6) (c := c) hs)
    unfold boxR at this ⊢
    exact ⟨stays_le hBs, by simpa using this⟩
/-- what a table's Set, or Drop, answers where the table's list is lent: the list stays, the answer has a box of its own -/
abbrev ans4 (f : FsV) (xs : List NodV) (j c : Nat) : C := .agg [.sc (.int .i64 f.maxI), .sc (.int .i64 f.maxB), .sc (.int .i64 f.next), .bs j 0 6 xs.length c]
abbrev any4 : List C := [.any, .any, .any, .any]
abbrev any6 : List C := [.any, .any, .any, .any, .any, .any]
def setBP (f : FsV) (xs : List NodV) (B : List C) (r : C) (bx' : List (List C)) (n : Nat) : Prop :=
  n = 0 ∧ ∃ c, xs.length ≤ c ∧ c ≤ 9223372036854775807 ∧ ((r = ans4 f xs 5 c ∧ bx' = [B, any4, any6, any4, [], boxR 6 (nodsC xs) c]) ∨ (r = ans4 f xs 4 c ∧ bx' = [B, any4, any6, any4, boxR 6 (nodsC xs) c]) ∨ (∃ m, r = ans4 f xs 6 c ∧ bx' = [B, any4, any6, any4, [], List.replicate m .any, boxR 6 (nodsC xs) c]))
def dropBP (f : FsV) (xs : List NodV) (B : List C) (r : C) (bx' : List (List C)) (n : Nat) : Prop :=
  n = 0 ∧ ∃ c, xs.length ≤ c ∧ c ≤ 9223372036854775807 ∧ ((r = ans4 f xs 4 c ∧ bx' = [B, any4, any4, [], boxR 6 (nodsC xs) c]) ∨ (r = ans4 f xs 3 c ∧ bx' = [B, any4, any4, boxR 6 (nodsC xs) c]))
theorem le_any4 {src : Src} {n : Nat} {a b c d : C} : CLeL src n [a, b, c, d] any4 = True := by simp only [CLeL, le_anyC, and_self]
theorem le_any6 {src : Src} {n : Nat} {a b c d e f : C} : CLeL src n [a, b, c, d, e, f] any6 = True := by simp only [CLeL, le_anyC, and_self]
theorem nods_box {xs : List NodV} {c : Nat} {src : Src} {n : Nat} : CLeL src n (boxR 6 (nodsC xs) c) (boxR 6 (nodsC xs) c) = True := eq_true (stays_le (stays_box nods_stay))
theorem setB_fun (f : FsV) (x : NodV) (tail : List C) (cap : Nat) (hl : f.xs.length ≤ 90000) (hR : Rises f.xs) (hst : (tail.all C.stayB) = true) (hc : f.xs.length ≤ cap) (hcm : cap ≤ 9223372036854775807) (htl : tail.length = (cap - f.xs.length) * 6) :
    FunX Try.prog G 6 [.agg [.sc (.int .i64 f.maxI), .sc (.int .i64 f.maxB), .sc (.int .i64 f.next), .bs 0 0 6 f.xs.length cap], .agg (nodC x)] [(nodsC f.xs).flatten ++ tail] 0 (setBP f (setV x f.xs) ((nodsC f.xs).flatten ++ tail)) := by
  have hll : (nodsC f.xs).length = f.xs.length := List.length_map ..
  have hfl := flat_len (nods_len (xs := f.xs))
  have hBl : ((nodsC f.xs).flatten ++ tail).length = cap * 6 := by rw [List.length_append, hfl, htl]; omega
  have hBs : (((nodsC f.xs).flatten ++ tail).all C.stayB) = true := by rw [List.all_append, stays_flat nods_stay, hst]; rfl
  have hBt : ((nodsC f.xs).flatten ++ tail).take (f.xs.length * 6) = (nodsC f.xs).flatten := List.take_left' (by rw [hfl, hll])
  have hclone := cloneB_fun (G := G) (nodsC f.xs) tail cap nods_len nods_stay hst (by omega) (by omega) hcm (by rw [hll]; exact htl)
  generalize hB : (nodsC f.xs).flatten ++ tail = B at hBl hBs hBt hclone ⊢
  have hBre : ∀ fp fo, C.reL fp fo B = B := fun fp fo => stays_re hBs
  refine FunX.of (fun _ => []) (by kernel_rfl) Try.func6 rfl rfl (Nat.le_of_ble_eq_true rfl) (by kernel_rfl) ?_; dsimp only [Try.f6, List.append_eq, List.cons_append, List.nil_append]
  simp -dsimp only [push_cast, Int.ofNat_eq_natCast, ↓reduceIte, Nat.reduceAdd, Nat.reduceMul, Nat.reduceSub, Nat.reduceLeDiff, Nat.reduceEqDiff, Nat.reduceBEq, Int.reduceToNat, Nat.reduceLT, Int.reduceEq, Int.reduceLT, Int.reduceLE, Int.reduceAdd, Int.reduceSub, Int.reduceMul, reduceCtorEq, Bool.not_false, Bool.not_true, Bool.true_beq, Bool.false_beq, beq_self_eq_true, Bool.true_and]
  refine callR [.agg (fsC f), .sc (.int .i64 x.ino)] (at_fun f x.ino (by omega) hR) rfl ?_ ?_
  · unfold lendsL
    exact ⟨_, _, rfl, lend_fs rfl rfl hc hcm hBt, by unfold lendsL; exact ⟨_, _, rfl, by unfold lends; rw [C.frz], by unfold lendsL; rfl⟩⟩
  simp -dsimp only [push_cast, Int.ofNat_eq_natCast, ↓reduceIte, Nat.reduceAdd, Nat.reduceMul, Nat.reduceSub, Nat.reduceLeDiff, Nat.reduceEqDiff, Nat.reduceBEq, Int.reduceToNat, Nat.reduceLT, Int.reduceEq, Int.reduceLT, Int.reduceLE, Int.reduceAdd, Int.reduceSub, Int.reduceMul, reduceCtorEq, Bool.not_false, Bool.not_true, Bool.true_beq, Bool.false_beq, beq_self_eq_true, Bool.true_and]
  rw [hll] at hclone
  refine callX [0] [] hclone rfl (by decide) (by decide) (by simp) (by simp -dsimp only [push_cast, Int.ofNat_eq_natCast, ↓reduceIte, Nat.reduceAdd, Nat.reduceMul, Nat.reduceSub, Nat.reduceLeDiff, Nat.reduceEqDiff, Nat.reduceBEq, Int.reduceToNat, Nat.reduceLT, Int.reduceEq, Int.reduceLT, Int.reduceLE, Int.reduceAdd, Int.reduceSub, Int.reduceMul, reduceCtorEq, Bool.not_false, Bool.not_true, Bool.true_beq, Bool.false_beq, beq_self_eq_true, Bool.true_and]) (by simp -dsimp only [push_cast, Int.ofNat_eq_natCast, ↓reduceIte, Nat.reduceAdd, Nat.reduceMul, Nat.reduceSub, Nat.reduceLeDiff, Nat.reduceEqDiff, Nat.reduceBEq, Int.reduceToNat, Nat.reduceLT, Int.reduceEq, Int.reduceLT, Int.reduceLE, Int.reduceAdd, Int.reduceSub, Int.reduceMul, reduceCtorEq, Bool.not_false, Bool.not_true, Bool.true_beq, Bool.false_beq, beq_self_eq_true, Bool.true_and, hBre]) (fun r bx' m hp => ?_)
  obtain ⟨rfl, ⟨hne, c, h1, h2, rfl, rfl⟩ | ⟨he, rfl, rfl⟩⟩ := hp
  · have hbl := boxR_len (nods_len (xs := f.xs)) (by rw [hll]; exact h1)
    have hre : ∀ fp fo, C.reL fp fo (boxR 6 (nodsC f.xs) c) = boxR 6 (nodsC f.xs) c := fun fp fo => stays_re (stays_box nods_stay)
    cases hh : hasV x.ino f.xs with
    | true =>
      obtain ⟨hlt, _⟩ := get_rank hR hh
      have hst := boxR_set (c := c) (rows := nodsC f.xs) (row := nodC x) (i := rankV x.ino f.xs) nods_len rfl (by omega)
      have hset : nodsC (setV x f.xs) = (nodsC f.xs).set (rankV x.ino f.xs) (nodC x) := by rw [← set_has hR hh]; simp [List.map_set]
      have hsl : (setV x f.xs).length = f.xs.length := by
        have := congrArg List.length hset
        rw [List.length_set, hll] at this
        rw [← this]; exact (List.length_map ..).symm
      simp -dsimp only [push_cast, Int.ofNat_eq_natCast, ↓reduceIte, Nat.reduceAdd, Nat.reduceMul, Nat.reduceSub, Nat.reduceLeDiff, Nat.reduceEqDiff, Nat.reduceBEq, Int.reduceToNat, Nat.reduceLT, Int.reduceEq, Int.reduceLT, Int.reduceLE, Int.reduceAdd, Int.reduceSub, Int.reduceMul, reduceCtorEq, Bool.not_false, Bool.not_true, Bool.true_beq, Bool.false_beq, beq_self_eq_true, Bool.true_and, hh, hre, hst, hBre]
      refine ⟨by omega, by omega, by rw [hbl]; omega, _, _, _, ⟨⟨rfl, c, by omega, h2, .inl ⟨rfl, rfl⟩⟩, Nat.le_of_ble_eq_true rfl⟩, [], rfl, rfl, ?_, ?_⟩
      · simp -dsimp only [WeakTm, WeakBx, CLe, CLeL, push_cast, Int.ofNat_eq_natCast, ↓reduceIte, Nat.reduceAdd, Nat.reduceMul, Nat.reduceSub, Nat.reduceLeDiff, Nat.reduceEqDiff, Nat.reduceBEq, Int.reduceToNat, Nat.reduceLT, Int.reduceEq, Int.reduceLT, Int.reduceLE, Int.reduceAdd, Int.reduceSub, Int.reduceMul, reduceCtorEq, Bool.not_false, Bool.not_true, Bool.true_beq, Bool.false_beq, beq_self_eq_true, Bool.true_and, le_any4, le_any6]
        exact ⟨stays_le hBs, by rw [← hset]; exact stays_le (stays_box nods_stay)⟩
      · simp -dsimp only [WeakTm, WeakBx, CLe, CLeL, push_cast, Int.ofNat_eq_natCast, ↓reduceIte, Nat.reduceAdd, Nat.reduceMul, Nat.reduceSub, Nat.reduceLeDiff, Nat.reduceEqDiff, Nat.reduceBEq, Int.reduceToNat, Nat.reduceLT, Int.reduceEq, Int.reduceLT, Int.reduceLE, Int.reduceAdd, Int.reduceSub, Int.reduceMul, reduceCtorEq, Bool.not_false, Bool.not_true, Bool.true_beq, Bool.false_beq, beq_self_eq_true, Bool.true_and, hsl]
    | false =>
      have hset : nodsC (setV x f.xs) = (nodsC f.xs).take (rankV x.ino f.xs) ++ nodC x :: (nodsC f.xs).drop (rankV x.ino f.xs) := by rw [← set_not hR hh]; simp
      have hrl := rank_le x.ino f.xs
      have hsl : (nodsC (setV x f.xs)).length = (nodsC f.xs).length + 1 := by rw [hset]; simp; omega
      have hsx : (nodsC (setV x f.xs)).length = (setV x f.xs).length := List.length_map ..
      have hins := insI_fun (G := G) (e := 30) (nodsC f.xs) (nodC x) (rankV x.ino f.xs) c nods_len rfl nods_stay rfl (by omega) (by omega) (by omega) h2
      rw [← hset, hll] at hins
      simp -dsimp only [push_cast, Int.ofNat_eq_natCast, ↓reduceIte, Nat.reduceAdd, Nat.reduceMul, Nat.reduceSub, Nat.reduceLeDiff, Nat.reduceEqDiff, Nat.reduceBEq, Int.reduceToNat, Nat.reduceLT, Int.reduceEq, Int.reduceLT, Int.reduceLE, Int.reduceAdd, Int.reduceSub, Int.reduceMul, reduceCtorEq, Bool.not_false, Bool.not_true, Bool.true_beq, Bool.false_beq, beq_self_eq_true, Bool.true_and, hh, hre, hBre]
      refine callX [5] [0] hins rfl (by decide) (by decide) (by simp) (by simp -dsimp only [push_cast, Int.ofNat_eq_natCast, ↓reduceIte, Nat.reduceAdd, Nat.reduceMul, Nat.reduceSub, Nat.reduceLeDiff, Nat.reduceEqDiff, Nat.reduceBEq, Int.reduceToNat, Nat.reduceLT, Int.reduceEq, Int.reduceLT, Int.reduceLE, Int.reduceAdd, Int.reduceSub, Int.reduceMul, reduceCtorEq, Bool.not_false, Bool.not_true, Bool.true_beq, Bool.false_beq, beq_self_eq_true, Bool.true_and]) (by simp -dsimp only [push_cast, Int.ofNat_eq_natCast, ↓reduceIte, Nat.reduceAdd, Nat.reduceMul, Nat.reduceSub, Nat.reduceLeDiff, Nat.reduceEqDiff, Nat.reduceBEq, Int.reduceToNat, Nat.reduceLT, Int.reduceEq, Int.reduceLT, Int.reduceLE, Int.reduceAdd, Int.reduceSub, Int.reduceMul, reduceCtorEq, Bool.not_false, Bool.not_true, Bool.true_beq, Bool.false_beq, beq_self_eq_true, Bool.true_and, hre]) (fun r bx' m hp => ?_)
      have hre2 : ∀ fp fo c, C.reL fp fo (boxR 6 (nodsC (setV x f.xs)) c) = boxR 6 (nodsC (setV x f.xs)) c := fun fp fo c => stays_re (stays_box nods_stay)
      obtain ⟨rfl, c', g1, g2, ⟨rfl, rfl⟩ | ⟨rfl, rfl⟩⟩ := hp
      · simp -dsimp only [push_cast, Int.ofNat_eq_natCast, ↓reduceIte, Nat.reduceAdd, Nat.reduceMul, Nat.reduceSub, Nat.reduceLeDiff, Nat.reduceEqDiff, Nat.reduceBEq, Int.reduceToNat, Nat.reduceLT, Int.reduceEq, Int.reduceLT, Int.reduceLE, Int.reduceAdd, Int.reduceSub, Int.reduceMul, reduceCtorEq, Bool.not_false, Bool.not_true, Bool.true_beq, Bool.false_beq, beq_self_eq_true, Bool.true_and, hre2, hre, hBre, hsx]
        refine ⟨_, _, _, ⟨⟨rfl, c', by omega, g2, .inl ⟨rfl, rfl⟩⟩, Nat.le_of_ble_eq_true rfl⟩, [], rfl, rfl, ?_, by simp -dsimp only [WeakTm, WeakBx, CLe, CLeL, push_cast, Int.ofNat_eq_natCast, ↓reduceIte, Nat.reduceAdd, Nat.reduceMul, Nat.reduceSub, Nat.reduceLeDiff, Nat.reduceEqDiff, Nat.reduceBEq, Int.reduceToNat, Nat.reduceLT, Int.reduceEq, Int.reduceLT, Int.reduceLE, Int.reduceAdd, Int.reduceSub, Int.reduceMul, reduceCtorEq, Bool.not_false, Bool.not_true, Bool.true_beq, Bool.false_beq, beq_self_eq_true, Bool.true_and]⟩
        simp -dsimp only [WeakTm, WeakBx, CLe, CLeL, push_cast, Int.ofNat_eq_natCast, ↓reduceIte, Nat.reduceAdd, Nat.reduceMul, Nat.reduceSub, Nat.reduceLeDiff, Nat.reduceEqDiff, Nat.reduceBEq, Int.reduceToNat, Nat.reduceLT, Int.reduceEq, Int.reduceLT, Int.reduceLE, Int.reduceAdd, Int.reduceSub, Int.reduceMul, reduceCtorEq, Bool.not_false, Bool.not_true, Bool.true_beq, Bool.false_beq, beq_self_eq_true, Bool.true_and, le_any4, le_any6, nods_box]
        exact stays_le hBs
      · have hra : ∀ fp fo, C.reL fp fo (List.replicate (c * 6) .any) = List.replicate (c * 6) .any := fun fp fo => stays_re (by simp [List.all_replicate, C.stayB])
        simp -dsimp only [push_cast, Int.ofNat_eq_natCast, ↓reduceIte, Nat.reduceAdd, Nat.reduceMul, Nat.reduceSub, Nat.reduceLeDiff, Nat.reduceEqDiff, Nat.reduceBEq, Int.reduceToNat, Nat.reduceLT, Int.reduceEq, Int.reduceLT, Int.reduceLE, Int.reduceAdd, Int.reduceSub, Int.reduceMul, reduceCtorEq, Bool.not_false, Bool.not_true, Bool.true_beq, Bool.false_beq, beq_self_eq_true, Bool.true_and, hre2, hre, hra, hBre, hsx]
        refine ⟨_, _, _, ⟨⟨rfl, c', by omega, g2, .inr (.inr ⟨c * 6, rfl, rfl⟩)⟩, Nat.le_of_ble_eq_true rfl⟩, [], rfl, rfl, ?_, by simp -dsimp only [WeakTm, WeakBx, CLe, CLeL, push_cast, Int.ofNat_eq_natCast, ↓reduceIte, Nat.reduceAdd, Nat.reduceMul, Nat.reduceSub, Nat.reduceLeDiff, Nat.reduceEqDiff, Nat.reduceBEq, Int.reduceToNat, Nat.reduceLT, Int.reduceEq, Int.reduceLT, Int.reduceLE, Int.reduceAdd, Int.reduceSub, Int.reduceMul, reduceCtorEq, Bool.not_false, Bool.not_true, Bool.true_beq, Bool.false_beq, beq_self_eq_true, Bool.true_and]⟩
        simp -dsimp only [WeakTm, WeakBx, CLe, CLeL, push_cast, Int.ofNat_eq_natCast, ↓reduceIte, Nat.reduceAdd, Nat.reduceMul, Nat.reduceSub, Nat.reduceLeDiff, Nat.reduceEqDiff, Nat.reduceBEq, Int.reduceToNat, Nat.reduceLT, Int.reduceEq, Int.reduceLT, Int.reduceLE, Int.reduceAdd, Int.reduceSub, Int.reduceMul, reduceCtorEq, Bool.not_false, Bool.not_true, Bool.true_beq, Bool.false_beq, beq_self_eq_true, Bool.true_and, le_any4, le_any6, nods_box]
        exact ⟨stays_le hBs, le_anys (by simp)⟩
  · have he : f.xs = [] := by simpa using he
    have hh : hasV x.ino f.xs = false := by rw [he]; rfl
    have hr0 : rankV x.ino f.xs = 0 := by rw [he]; rfl
    have hset : setV x f.xs = [x] := by rw [he]; rfl
    simp -dsimp only [push_cast, Int.ofNat_eq_natCast, ↓reduceIte, Nat.reduceAdd, Nat.reduceMul, Nat.reduceSub, Nat.reduceLeDiff, Nat.reduceEqDiff, Nat.reduceBEq, Int.reduceToNat, Nat.reduceLT, Int.reduceEq, Int.reduceLT, Int.reduceLE, Int.reduceAdd, Int.reduceSub, Int.reduceMul, reduceCtorEq, Bool.not_false, Bool.not_true, Bool.true_beq, Bool.false_beq, beq_self_eq_true, Bool.true_and, hh, hr0, hBre]
    refine callX [4] [0] (insI_fun (e := 30) [] (nodC x) 0 0 (fun r hr => by cases hr) rfl (fun r hr => by cases hr) rfl (by simp) (by simp) (by simp) (by simp)) rfl (by decide) (by decide) (by simp) (by simp -dsimp only [push_cast, Int.ofNat_eq_natCast, ↓reduceIte, Nat.reduceAdd, Nat.reduceMul, Nat.reduceSub, Nat.reduceLeDiff, Nat.reduceEqDiff, Nat.reduceBEq, Int.reduceToNat, Nat.reduceLT, Int.reduceEq, Int.reduceLT, Int.reduceLE, Int.reduceAdd, Int.reduceSub, Int.reduceMul, reduceCtorEq, Bool.not_false, Bool.not_true, Bool.true_beq, Bool.false_beq, beq_self_eq_true, Bool.true_and]) (by simp -dsimp only [push_cast, Int.ofNat_eq_natCast, ↓reduceIte, Nat.reduceAdd, Nat.reduceMul, Nat.reduceSub, Nat.reduceLeDiff, Nat.reduceEqDiff, Nat.reduceBEq, Int.reduceToNat, Nat.reduceLT, Int.reduceEq, Int.reduceLT, Int.reduceLE, Int.reduceAdd, Int.reduceSub, Int.reduceMul, reduceCtorEq, Bool.not_false, Bool.not_true, Bool.true_beq, Bool.false_beq, beq_self_eq_true, Bool.true_and, boxR]) (fun r bx' m hp => ?_)
    obtain ⟨rfl, c, g1, g2, hp⟩ := hp
    have hre : ∀ fp fo, C.reL fp fo (boxR 6 [nodC x] c) = boxR 6 [nodC x] c := fun fp fo => stays_re (stays_box (nods_stay (xs := [x])))
    have hbx : ∀ {src : Src} {n : Nat}, CLeL src n (boxR 6 [nodC x] c) (boxR 6 [nodC x] c) = True := fun {src n} => nods_box (xs := [x])
    rw [hset]
    rcases hp with ⟨rfl, rfl⟩ | ⟨rfl, rfl⟩
    · simp -dsimp only [push_cast, Int.ofNat_eq_natCast, ↓reduceIte, Nat.reduceAdd, Nat.reduceMul, Nat.reduceSub, Nat.reduceLeDiff, Nat.reduceEqDiff, Nat.reduceBEq, Int.reduceToNat, Nat.reduceLT, Int.reduceEq, Int.reduceLT, Int.reduceLE, Int.reduceAdd, Int.reduceSub, Int.reduceMul, reduceCtorEq, Bool.not_false, Bool.not_true, Bool.true_beq, Bool.false_beq, beq_self_eq_true, Bool.true_and, hre, hBre]
      refine ⟨_, _, _, ⟨⟨rfl, c, g1, g2, .inr (.inl ⟨rfl, rfl⟩)⟩, Nat.le_of_ble_eq_true rfl⟩, [], rfl, rfl, ?_, by simp -dsimp only [WeakTm, WeakBx, CLe, CLeL, push_cast, Int.ofNat_eq_natCast, ↓reduceIte, Nat.reduceAdd, Nat.reduceMul, Nat.reduceSub, Nat.reduceLeDiff, Nat.reduceEqDiff, Nat.reduceBEq, Int.reduceToNat, Nat.reduceLT, Int.reduceEq, Int.reduceLT, Int.reduceLE, Int.reduceAdd, Int.reduceSub, Int.reduceMul, reduceCtorEq, Bool.not_false, Bool.not_true, Bool.true_beq, Bool.false_beq, beq_self_eq_true, Bool.true_and]⟩
      simp -dsimp only [WeakTm, WeakBx, CLe, CLeL, push_cast, Int.ofNat_eq_natCast, ↓reduceIte, Nat.reduceAdd, Nat.reduceMul, Nat.reduceSub, Nat.reduceLeDiff, Nat.reduceEqDiff, Nat.reduceBEq, Int.reduceToNat, Nat.reduceLT, Int.reduceEq, Int.reduceLT, Int.reduceLE, Int.reduceAdd, Int.reduceSub, Int.reduceMul, reduceCtorEq, Bool.not_false, Bool.not_true, Bool.true_beq, Bool.false_beq, beq_self_eq_true, Bool.true_and, le_any4, le_any6, hbx]
      exact stays_le hBs
    · simp -dsimp only [push_cast, Int.ofNat_eq_natCast, ↓reduceIte, Nat.reduceAdd, Nat.reduceMul, Nat.reduceSub, Nat.reduceLeDiff, Nat.reduceEqDiff, Nat.reduceBEq, Int.reduceToNat, Nat.reduceLT, Int.reduceEq, Int.reduceLT, Int.reduceLE, Int.reduceAdd, Int.reduceSub, Int.reduceMul, reduceCtorEq, Bool.not_false, Bool.not_true, Bool.true_beq, Bool.false_beq, beq_self_eq_true, Bool.true_and, hre, hBre]
      refine ⟨_, _, _, ⟨⟨rfl, c, g1, g2, .inl ⟨rfl, rfl⟩⟩, Nat.le_of_ble_eq_true rfl⟩, [], rfl, rfl, ?_, by simp -dsimp only [WeakTm, WeakBx, CLe, CLeL, push_cast, Int.ofNat_eq_natCast, ↓reduceIte, Nat.reduceAdd, Nat.reduceMul, Nat.reduceSub, Nat.reduceLeDiff, Nat.reduceEqDiff, Nat.reduceBEq, Int.reduceToNat, Nat.reduceLT, Int.reduceEq, Int.reduceLT, Int.reduceLE, Int.reduceAdd, Int.reduceSub, Int.reduceMul, reduceCtorEq, Bool.not_false, Bool.not_true, Bool.true_beq, Bool.false_beq, beq_self_eq_true, Bool.true_and]⟩
      simp -dsimp only [WeakTm, WeakBx, CLe, CLeL, push_cast, Int.ofNat_eq_natCast, ↓reduceIte, Nat.reduceAdd, Nat.reduceMul, Nat.reduceSub, Nat.reduceLeDiff, Nat.reduceEqDiff, Nat.reduceBEq, Int.reduceToNat, Nat.reduceLT, Int.reduceEq, Int.reduceLT, Int.reduceLE, Int.reduceAdd, Int.reduceSub, Int.reduceMul, reduceCtorEq, Bool.not_false, Bool.not_true, Bool.true_beq, Bool.false_beq, beq_self_eq_true, Bool.true_and, le_any4, le_any6, hbx]
      exact stays_le hBs
theorem dropB_fun (f : FsV) (n : Int) (tail : List C) (cap : Nat) (hl : f.xs.length ≤ 90000) (hR : Rises f.xs) (hst : (tail.all C.stayB) = true) (hc : f.xs.length ≤ cap) (hcm : cap ≤ 9223372036854775807) (htl : tail.length = (cap - f.xs.length) * 6) :
    FunX Try.prog G 7 [.agg [.sc (.int .i64 f.maxI), .sc (.int .i64 f.maxB), .sc (.int .i64 f.next), .bs 0 0 6 f.xs.length cap], .sc (.int .i64 n)] [(nodsC f.xs).flatten ++ tail] 0 (dropBP f (dropV n f.xs) ((nodsC f.xs).flatten ++ tail)) := by
  have hll : (nodsC f.xs).length = f.xs.length := List.length_map ..
  have hfl := flat_len (nods_len (xs := f.xs))
  have hBl : ((nodsC f.xs).flatten ++ tail).length = cap * 6 := by rw [List.length_append, hfl, htl]; omega
  have hBs : (((nodsC f.xs).flatten ++ tail).all C.stayB) = true := by rw [List.all_append, stays_flat nods_stay, hst]; rfl
  have hBt : ((nodsC f.xs).flatten ++ tail).take (f.xs.length * 6) = (nodsC f.xs).flatten := List.take_left' (by rw [hfl, hll])
  have hclone := cloneB_fun (G := G) (nodsC f.xs) tail cap nods_len nods_stay hst (by omega) (by omega) hcm (by rw [hll]; exact htl)
  generalize hB : (nodsC f.xs).flatten ++ tail = B at hBl hBs hBt hclone ⊢
  have hBre : ∀ fp fo, C.reL fp fo B = B := fun fp fo => stays_re hBs
  refine FunX.of (fun _ => []) (by kernel_rfl) Try.func7 rfl rfl (Nat.le_of_ble_eq_true rfl) (by kernel_rfl) ?_; dsimp only [Try.f7, List.append_eq, List.cons_append, List.nil_append]
  simp -dsimp only [push_cast, Int.ofNat_eq_natCast, ↓reduceIte, Nat.reduceAdd, Nat.reduceMul, Nat.reduceSub, Nat.reduceLeDiff, Nat.reduceEqDiff, Nat.reduceBEq, Int.reduceToNat, Nat.reduceLT, Int.reduceEq, Int.reduceLT, Int.reduceLE, Int.reduceAdd, Int.reduceSub, Int.reduceMul, reduceCtorEq, Bool.not_false, Bool.not_true, Bool.true_beq, Bool.false_beq, beq_self_eq_true, Bool.true_and]
  refine callR [.agg (fsC f), .sc (.int .i64 n)] (at_fun f n (by omega) hR) rfl ?_ ?_
  · unfold lendsL
    exact ⟨_, _, rfl, lend_fs rfl rfl hc hcm hBt, by unfold lendsL; exact ⟨_, _, rfl, by unfold lends; rw [C.frz], by unfold lendsL; rfl⟩⟩
  simp -dsimp only [push_cast, Int.ofNat_eq_natCast, ↓reduceIte, Nat.reduceAdd, Nat.reduceMul, Nat.reduceSub, Nat.reduceLeDiff, Nat.reduceEqDiff, Nat.reduceBEq, Int.reduceToNat, Nat.reduceLT, Int.reduceEq, Int.reduceLT, Int.reduceLE, Int.reduceAdd, Int.reduceSub, Int.reduceMul, reduceCtorEq, Bool.not_false, Bool.not_true, Bool.true_beq, Bool.false_beq, beq_self_eq_true, Bool.true_and]
  rw [hll] at hclone
  refine callX [0] [] hclone rfl (by decide) (by decide) (by simp) (by simp -dsimp only [push_cast, Int.ofNat_eq_natCast, ↓reduceIte, Nat.reduceAdd, Nat.reduceMul, Nat.reduceSub, Nat.reduceLeDiff, Nat.reduceEqDiff, Nat.reduceBEq, Int.reduceToNat, Nat.reduceLT, Int.reduceEq, Int.reduceLT, Int.reduceLE, Int.reduceAdd, Int.reduceSub, Int.reduceMul, reduceCtorEq, Bool.not_false, Bool.not_true, Bool.true_beq, Bool.false_beq, beq_self_eq_true, Bool.true_and]) (by simp -dsimp only [push_cast, Int.ofNat_eq_natCast, ↓reduceIte, Nat.reduceAdd, Nat.reduceMul, Nat.reduceSub, Nat.reduceLeDiff, Nat.reduceEqDiff, Nat.reduceBEq, Int.reduceToNat, Nat.reduceLT, Int.reduceEq, Int.reduceLT, Int.reduceLE, Int.reduceAdd, Int.reduceSub, Int.reduceMul, reduceCtorEq, Bool.not_false, Bool.not_true, Bool.true_beq, Bool.false_beq, beq_self_eq_true, Bool.true_and, hBre]) (fun r bx' m hp => ?_)
  obtain ⟨rfl, ⟨hne, c, h1, h2, rfl, rfl⟩ | ⟨he, rfl, rfl⟩⟩ := hp
  · have hbl := boxR_len (nods_len (xs := f.xs)) (by rw [hll]; exact h1)
    have hre : ∀ fp fo, C.reL fp fo (boxR 6 (nodsC f.xs) c) = boxR 6 (nodsC f.xs) c := fun fp fo => stays_re (stays_box nods_stay)
    cases hh : hasV n f.xs with
    | true =>
      obtain ⟨hlt, _⟩ := get_rank hR hh
      have hset : nodsC (dropV n f.xs) = (nodsC f.xs).take (rankV n f.xs) ++ (nodsC f.xs).drop (rankV n f.xs + 1) := by rw [← drop_has hR hh]; simp
      have hsl : (nodsC (dropV n f.xs)).length = (nodsC f.xs).length - 1 := by rw [hset]; simp; omega
      have hsx : (nodsC (dropV n f.xs)).length = (dropV n f.xs).length := List.length_map ..
      have hd := delI_fun (G := G) (nodsC f.xs) (rankV n f.xs) c nods_len nods_stay (by omega) (by omega) (by omega) h2
      rw [← hset, ← hsl] at hd
      have hre2 : ∀ fp fo, C.reL fp fo (boxR 6 (nodsC (dropV n f.xs)) c) = boxR 6 (nodsC (dropV n f.xs)) c := fun fp fo => stays_re (stays_box nods_stay)
      simp -dsimp only [push_cast, Int.ofNat_eq_natCast, ↓reduceIte, Nat.reduceAdd, Nat.reduceMul, Nat.reduceSub, Nat.reduceLeDiff, Nat.reduceEqDiff, Nat.reduceBEq, Int.reduceToNat, Nat.reduceLT, Int.reduceEq, Int.reduceLT, Int.reduceLE, Int.reduceAdd, Int.reduceSub, Int.reduceMul, reduceCtorEq, Bool.not_false, Bool.not_true, Bool.true_beq, Bool.false_beq, beq_self_eq_true, Bool.true_and, hh, hre, hBre]
      (try simp only [List.length_append, List.length_cons, List.length_nil, List.length_map, List.length_take, List.length_drop]); repeat (refine And.intro (by omega) ?_)
      rw [hll] at hd
      refine callB [4] [] hd rfl (by decide) (by decide) (by simp) (by simp -dsimp only [push_cast, Int.ofNat_eq_natCast, ↓reduceIte, Nat.reduceAdd, Nat.reduceMul, Nat.reduceSub, Nat.reduceLeDiff, Nat.reduceEqDiff, Nat.reduceBEq, Int.reduceToNat, Nat.reduceLT, Int.reduceEq, Int.reduceLT, Int.reduceLE, Int.reduceAdd, Int.reduceSub, Int.reduceMul, reduceCtorEq, Bool.not_false, Bool.not_true, Bool.true_beq, Bool.false_beq, beq_self_eq_true, Bool.true_and]) (by simp -dsimp only [push_cast, Int.ofNat_eq_natCast, ↓reduceIte, Nat.reduceAdd, Nat.reduceMul, Nat.reduceSub, Nat.reduceLeDiff, Nat.reduceEqDiff, Nat.reduceBEq, Int.reduceToNat, Nat.reduceLT, Int.reduceEq, Int.reduceLT, Int.reduceLE, Int.reduceAdd, Int.reduceSub, Int.reduceMul, reduceCtorEq, Bool.not_false, Bool.not_true, Bool.true_beq, Bool.false_beq, beq_self_eq_true, Bool.true_and, hre]) ?_
      simp -dsimp only [push_cast, Int.ofNat_eq_natCast, ↓reduceIte, Nat.reduceAdd, Nat.reduceMul, Nat.reduceSub, Nat.reduceLeDiff, Nat.reduceEqDiff, Nat.reduceBEq, Int.reduceToNat, Nat.reduceLT, Int.reduceEq, Int.reduceLT, Int.reduceLE, Int.reduceAdd, Int.reduceSub, Int.reduceMul, reduceCtorEq, Bool.not_false, Bool.not_true, Bool.true_beq, Bool.false_beq, beq_self_eq_true, Bool.true_and, hre, hre2, hBre, hsx]
      refine ⟨_, _, _, ⟨⟨rfl, c, by omega, h2, .inl ⟨rfl, rfl⟩⟩, Nat.le_of_ble_eq_true rfl⟩, [], rfl, rfl, ?_, by simp -dsimp only [WeakTm, WeakBx, CLe, CLeL, push_cast, Int.ofNat_eq_natCast, ↓reduceIte, Nat.reduceAdd, Nat.reduceMul, Nat.reduceSub, Nat.reduceLeDiff, Nat.reduceEqDiff, Nat.reduceBEq, Int.reduceToNat, Nat.reduceLT, Int.reduceEq, Int.reduceLT, Int.reduceLE, Int.reduceAdd, Int.reduceSub, Int.reduceMul, reduceCtorEq, Bool.not_false, Bool.not_true, Bool.true_beq, Bool.false_beq, beq_self_eq_true, Bool.true_and]⟩
      simp -dsimp only [WeakTm, WeakBx, CLe, CLeL, push_cast, Int.ofNat_eq_natCast, ↓reduceIte, Nat.reduceAdd, Nat.reduceMul, Nat.reduceSub, Nat.reduceLeDiff, Nat.reduceEqDiff, Nat.reduceBEq, Int.reduceToNat, Nat.reduceLT, Int.reduceEq, Int.reduceLT, Int.reduceLE, Int.reduceAdd, Int.reduceSub, Int.reduceMul, reduceCtorEq, Bool.not_false, Bool.not_true, Bool.true_beq, Bool.false_beq, beq_self_eq_true, Bool.true_and, le_any4, le_any6, nods_box]
      exact stays_le hBs
    | false =>
      simp -dsimp only [push_cast, Int.ofNat_eq_natCast, ↓reduceIte, Nat.reduceAdd, Nat.reduceMul, Nat.reduceSub, Nat.reduceLeDiff, Nat.reduceEqDiff, Nat.reduceBEq, Int.reduceToNat, Nat.reduceLT, Int.reduceEq, Int.reduceLT, Int.reduceLE, Int.reduceAdd, Int.reduceSub, Int.reduceMul, reduceCtorEq, Bool.not_false, Bool.not_true, Bool.true_beq, Bool.false_beq, beq_self_eq_true, Bool.true_and, hh, hre, hBre]
      rw [drop_not hh]
      refine ⟨_, _, _, ⟨⟨rfl, c, h1, h2, .inl ⟨rfl, rfl⟩⟩, Nat.le_of_ble_eq_true rfl⟩, [], rfl, rfl, ?_, by simp -dsimp only [WeakTm, WeakBx, CLe, CLeL, push_cast, Int.ofNat_eq_natCast, ↓reduceIte, Nat.reduceAdd, Nat.reduceMul, Nat.reduceSub, Nat.reduceLeDiff, Nat.reduceEqDiff, Nat.reduceBEq, Int.reduceToNat, Nat.reduceLT, Int.reduceEq, Int.reduceLT, Int.reduceLE, Int.reduceAdd, Int.reduceSub, Int.reduceMul, reduceCtorEq, Bool.not_false, Bool.not_true, Bool.true_beq, Bool.false_beq, beq_self_eq_true, Bool.true_and]⟩
      simp -dsimp only [WeakTm, WeakBx, CLe, CLeL, push_cast, Int.ofNat_eq_natCast, ↓reduceIte, Nat.reduceAdd, Nat.reduceMul, Nat.reduceSub, Nat.reduceLeDiff, Nat.reduceEqDiff, Nat.reduceBEq, Int.reduceToNat, Nat.reduceLT, Int.reduceEq, Int.reduceLT, Int.reduceLE, Int.reduceAdd, Int.reduceSub, Int.reduceMul, reduceCtorEq, Bool.not_false, Bool.not_true, Bool.true_beq, Bool.false_beq, beq_self_eq_true, Bool.true_and, le_any4, le_any6, nods_box]
      exact stays_le hBs
  · have he : f.xs = [] := by simpa using he
    have hh : hasV n f.xs = false := by rw [he]; rfl
    have hset : dropV n f.xs = [] := by rw [he]; rfl
    simp -dsimp only [push_cast, Int.ofNat_eq_natCast, ↓reduceIte, Nat.reduceAdd, Nat.reduceMul, Nat.reduceSub, Nat.reduceLeDiff, Nat.reduceEqDiff, Nat.reduceBEq, Int.reduceToNat, Nat.reduceLT, Int.reduceEq, Int.reduceLT, Int.reduceLE, Int.reduceAdd, Int.reduceSub, Int.reduceMul, reduceCtorEq, Bool.not_false, Bool.not_true, Bool.true_beq, Bool.false_beq, beq_self_eq_true, Bool.true_and, hh, hBre]
    rw [hset]
    refine ⟨_, _, _, ⟨⟨rfl, 0, Nat.le_refl _, Nat.zero_le _, .inr ⟨rfl, rfl⟩⟩, Nat.le_of_ble_eq_true rfl⟩, [], rfl, rfl, ?_, by simp -dsimp only [WeakTm, WeakBx, CLe, CLeL, push_cast, Int.ofNat_eq_natCast, ↓reduceIte, Nat.reduceAdd, Nat.reduceMul, Nat.reduceSub, Nat.reduceLeDiff, Nat.reduceEqDiff, Nat.reduceBEq, Int.reduceToNat, Nat.reduceLT, Int.reduceEq, Int.reduceLT, Int.reduceLE, Int.reduceAdd, Int.reduceSub, Int.reduceMul, reduceCtorEq, Bool.not_false, Bool.not_true, Bool.true_beq, Bool.false_beq, beq_self_eq_true, Bool.true_and]⟩
    simp -dsimp only [WeakTm, WeakBx, CLe, CLeL, push_cast, Int.ofNat_eq_natCast, ↓reduceIte, Nat.reduceAdd, Nat.reduceMul, Nat.reduceSub, Nat.reduceLeDiff, Nat.reduceEqDiff, Nat.reduceBEq, Int.reduceToNat, Nat.reduceLT, Int.reduceEq, Int.reduceLT, Int.reduceLE, Int.reduceAdd, Int.reduceSub, Int.reduceMul, reduceCtorEq, Bool.not_false, Bool.not_true, Bool.true_beq, Bool.false_beq, beq_self_eq_true, Bool.true_and, le_any4, le_any6, boxR, List.flatten_nil]
    exact stays_le hBs
end
end Go.Proofs.Ytheokoehnmlafaa.Vcg
