/- Layer 17: names, options put one by one, as what they answer; the reference's options. No condition but bounds that each states. -/
import Derived.Test.YtphiahlodjblcaaDoorPath3
import Derived.Test.YtphiahlodjblcaaDoorSort2
import Derived.Lib.IndexLaws
import Derived.Test.YtphiahlodjblcaaDoorLaid
import Derived.Test.YtphiahlodjblcaaDoorQuoteWalk2
set_option linter.unusedVariables false
set_option linter.unusedSimpArgs false
namespace Go.Proofs.YtphiahlodjblcaaDoor.Vcg
open Go.RowKit
def kindsV : List Value := [.string ⟨#[]⟩, .string ⟨#[]⟩, .int .i64 0, .string ⟨#[109, 107, 100, 105, 114]⟩, .string ⟨#[112]⟩, .int .i64 1, .string ⟨#[114, 109]⟩, .string ⟨#[82, 100, 102, 114]⟩, .int .i64 1, .string ⟨#[108, 110]⟩, .string ⟨#[84, 102, 110, 115]⟩, .int .i64 1, .string ⟨#[109, 118]⟩, .string ⟨#[84, 102, 110]⟩, .int .i64 2, .string ⟨#[99, 112]⟩, .string ⟨#[80, 82, 84, 102, 110, 114]⟩, .int .i64 2]
def G3 : Globs := fun g => if g = 0 then some (kindsV.map ofConst) else none
theorem G3_kinds : G3 0 = some [.str [], .str [], .sc (.int .i64 0), .str [109, 107, 100, 105, 114], .str [112], .sc (.int .i64 1), .str [114, 109], .str [82, 100, 102, 114], .sc (.int .i64 1), .str [108, 110], .str [84, 102, 110, 115], .sc (.int .i64 1), .str [109, 118], .str [84, 102, 110], .sc (.int .i64 2), .str [99, 112], .str [80, 82, 84, 102, 110, 114], .sc (.int .i64 2)] := rfl
attribute [push_cast] G3_kinds
def nameV (k : Int) : List UInt8 := if k = 1 then [109, 107, 100, 105, 114] else if k = 2 then [114, 109] else if k = 3 then [108, 110] else if k = 4 then [109, 118] else if k = 5 then [99, 112] else []
def optsV (k : Int) : List UInt8 := if k = 1 then [112] else if k = 2 then [82, 100, 102, 114] else if k = 3 then [84, 102, 110, 115] else if k = 4 then [84, 102, 110] else if k = 5 then [80, 82, 84, 102, 110, 114] else []
theorem indexByte_fun (l : List UInt8) (c : UInt8) : Fun Tryd.prog G0 26 [.str l, .sc (.int .u8 (c.toNat : Int))] (.sc (.int .i64 (Lib.indexByte l c))) 0 := by
  refine Fun.wrap (by kernel_rfl) fun R vs h => ?_
  obtain ⟨v1, us1, rfl, h1, h⟩ := repL_cons.1 h
  obtain ⟨v2, us2, rfl, h2, h⟩ := repL_cons.1 h
  rw [repL_nil] at h
  subst h
  rw [rep_str] at h1
  rw [rep_sc] at h2
  subst h1 h2
  refine (Tryd.strings_IndexByte ⟨l.toArray⟩ (c.toNat : Int) R.w).mono ?_
  rintro e w' ⟨rfl, rfl⟩
  exact ⟨_, rfl, Below.refl _ _, fun R' _ => rep_sc.2 (by simp)⟩
set_option maxRecDepth 100000 in
set_option maxHeartbeats 2000000 in
theorem argsName_fun (k : Int) : Fun Tryd.prog G3 13 [.sc (.int .i64 k)] (.str (nameV k)) 0 := by
  by_cases h1 : 1 ≤ k
  · by_cases h2 : k ≤ 5
    · have hc : k = 1 ∨ k = 2 ∨ k = 3 ∨ k = 4 ∨ k = 5 := by omega
      clear h1 h2
      rcases hc with rfl | rfl | rfl | rfl | rfl
      all_goals
        refine Fun.of (fun _ => []) (by kernel_rfl) Tryd.func13 rfl rfl (Nat.le_of_ble_eq_true rfl) (by kernel_rfl) ?_; dsimp only [Tryd.f13, List.append_eq, List.cons_append, List.nil_append]
        simp -dsimp only [push_cast, Int.ofNat_eq_natCast, ↓reduceIte, Nat.reduceAdd, Nat.reduceMul, Nat.reduceSub, Nat.reduceLeDiff, Nat.reduceEqDiff, Nat.reduceBEq, Int.reduceToNat, Nat.reduceLT, Int.reduceEq, Int.reduceLT, Int.reduceLE, Int.reduceAdd, Int.reduceSub, Int.reduceMul, reduceCtorEq, Bool.not_false, Bool.not_true, Bool.true_beq, Bool.false_beq, beq_self_eq_true, Bool.true_and]
        exact ⟨[], rfl, rfl, by simp only [nameV]; simp -dsimp only [WeakTm, WeakBx, CLe, CLeL, push_cast, Int.ofNat_eq_natCast, ↓reduceIte, Nat.reduceAdd, Nat.reduceMul, Nat.reduceSub, Nat.reduceLeDiff, Nat.reduceEqDiff, Nat.reduceBEq, Int.reduceToNat, Nat.reduceLT, Int.reduceEq, Int.reduceLT, Int.reduceLE, Int.reduceAdd, Int.reduceSub, Int.reduceMul, reduceCtorEq, Bool.not_false, Bool.not_true, Bool.true_beq, Bool.false_beq, beq_self_eq_true, Bool.true_and] <;> rfl⟩
    · have n1 : ¬ k = 1 := (by omega); have n2 : ¬ k = 2 := (by omega); have n3 : ¬ k = 3 := (by omega); have n4 : ¬ k = 4 := (by omega); have n5 : ¬ k = 5 := (by omega)
      have f1 : ¬ k < 1 := (by omega); have f2 : 6 ≤ k := (by omega); have f3 : 5 < k := (by omega)
      refine Fun.of (fun _ => []) (by kernel_rfl) Tryd.func13 rfl rfl (Nat.le_of_ble_eq_true rfl) (by kernel_rfl) ?_; dsimp only [Tryd.f13, List.append_eq, List.cons_append, List.nil_append]
      simp -dsimp only [push_cast, Int.ofNat_eq_natCast, ↓reduceIte, Nat.reduceAdd, Nat.reduceMul, Nat.reduceSub, Nat.reduceLeDiff, Nat.reduceEqDiff, Nat.reduceBEq, Int.reduceToNat, Nat.reduceLT, Int.reduceEq, Int.reduceLT, Int.reduceLE, Int.reduceAdd, Int.reduceSub, Int.reduceMul, reduceCtorEq, Bool.not_false, Bool.not_true, Bool.true_beq, Bool.false_beq, beq_self_eq_true, Bool.true_and, f1, f2, f3, n1, n2, n3, n4, n5]
      exact ⟨[], rfl, rfl, by simp -dsimp only [WeakTm, WeakBx, CLe, CLeL, push_cast, Int.ofNat_eq_natCast, ↓reduceIte, Nat.reduceAdd, Nat.reduceMul, Nat.reduceSub, Nat.reduceLeDiff, Nat.reduceEqDiff, Nat.reduceBEq, Int.reduceToNat, Nat.reduceLT, Int.reduceEq, Int.reduceLT, Int.reduceLE, Int.reduceAdd, Int.reduceSub, Int.reduceMul, reduceCtorEq, Bool.not_false, Bool.not_true, Bool.true_beq, Bool.false_beq, beq_self_eq_true, Bool.true_and] <;> simp [nameV, n1, n2, n3, n4, n5]⟩
  · have n1 : ¬ k = 1 := (by omega); have n2 : ¬ k = 2 := (by omega); have n3 : ¬ k = 3 := (by omega); have n4 : ¬ k = 4 := (by omega); have n5 : ¬ k = 5 := (by omega)
    have f1 : k < 1 := by omega
    refine Fun.of (fun _ => []) (by kernel_rfl) Tryd.func13 rfl rfl (Nat.le_of_ble_eq_true rfl) (by kernel_rfl) ?_; dsimp only [Tryd.f13, List.append_eq, List.cons_append, List.nil_append]
    simp -dsimp only [push_cast, Int.ofNat_eq_natCast, ↓reduceIte, Nat.reduceAdd, Nat.reduceMul, Nat.reduceSub, Nat.reduceLeDiff, Nat.reduceEqDiff, Nat.reduceBEq, Int.reduceToNat, Nat.reduceLT, Int.reduceEq, Int.reduceLT, Int.reduceLE, Int.reduceAdd, Int.reduceSub, Int.reduceMul, reduceCtorEq, Bool.not_false, Bool.not_true, Bool.true_beq, Bool.false_beq, beq_self_eq_true, Bool.true_and, f1, n1, n2, n3, n4, n5]
    exact ⟨[], rfl, rfl, by simp -dsimp only [WeakTm, WeakBx, CLe, CLeL, push_cast, Int.ofNat_eq_natCast, ↓reduceIte, Nat.reduceAdd, Nat.reduceMul, Nat.reduceSub, Nat.reduceLeDiff, Nat.reduceEqDiff, Nat.reduceBEq, Int.reduceToNat, Nat.reduceLT, Int.reduceEq, Int.reduceLT, Int.reduceLE, Int.reduceAdd, Int.reduceSub, Int.reduceMul, reduceCtorEq, Bool.not_false, Bool.not_true, Bool.true_beq, Bool.false_beq, beq_self_eq_true, Bool.true_and] <;> simp [nameV, n1, n2, n3, n4, n5]⟩
set_option maxRecDepth 100000 in
set_option maxHeartbeats 2000000 in
theorem rName_fun (k : Int) : Fun Tryd.prog G0 14 [.sc (.int .i64 k)] (.str (nameV k)) 0 := by
  by_cases h1 : 1 ≤ k
  · by_cases h2 : k ≤ 5
    · have hc : k = 1 ∨ k = 2 ∨ k = 3 ∨ k = 4 ∨ k = 5 := by omega
      clear h1 h2
      rcases hc with rfl | rfl | rfl | rfl | rfl
      all_goals
        refine Fun.of (fun _ => []) (by kernel_rfl) Tryd.func14 rfl rfl (Nat.le_of_ble_eq_true rfl) (by kernel_rfl) ?_; dsimp only [Tryd.f14, List.append_eq, List.cons_append, List.nil_append]
        simp -dsimp only [push_cast, Int.ofNat_eq_natCast, ↓reduceIte, Nat.reduceAdd, Nat.reduceMul, Nat.reduceSub, Nat.reduceLeDiff, Nat.reduceEqDiff, Nat.reduceBEq, Int.reduceToNat, Nat.reduceLT, Int.reduceEq, Int.reduceLT, Int.reduceLE, Int.reduceAdd, Int.reduceSub, Int.reduceMul, reduceCtorEq, Bool.not_false, Bool.not_true, Bool.true_beq, Bool.false_beq, beq_self_eq_true, Bool.true_and]
        exact ⟨[], rfl, rfl, by simp only [nameV]; simp -dsimp only [WeakTm, WeakBx, CLe, CLeL, push_cast, Int.ofNat_eq_natCast, ↓reduceIte, Nat.reduceAdd, Nat.reduceMul, Nat.reduceSub, Nat.reduceLeDiff, Nat.reduceEqDiff, Nat.reduceBEq, Int.reduceToNat, Nat.reduceLT, Int.reduceEq, Int.reduceLT, Int.reduceLE, Int.reduceAdd, Int.reduceSub, Int.reduceMul, reduceCtorEq, Bool.not_false, Bool.not_true, Bool.true_beq, Bool.false_beq, beq_self_eq_true, Bool.true_and] <;> rfl⟩
    · have n1 : ¬ k = 1 := (by omega); have n2 : ¬ k = 2 := (by omega); have n3 : ¬ k = 3 := (by omega); have n4 : ¬ k = 4 := (by omega); have n5 : ¬ k = 5 := (by omega)
      have f1 : ¬ k < 1 := (by omega); have f2 : 6 ≤ k := (by omega); have f3 : 5 < k := (by omega)
      refine Fun.of (fun _ => []) (by kernel_rfl) Tryd.func14 rfl rfl (Nat.le_of_ble_eq_true rfl) (by kernel_rfl) ?_; dsimp only [Tryd.f14, List.append_eq, List.cons_append, List.nil_append]
      simp -dsimp only [push_cast, Int.ofNat_eq_natCast, ↓reduceIte, Nat.reduceAdd, Nat.reduceMul, Nat.reduceSub, Nat.reduceLeDiff, Nat.reduceEqDiff, Nat.reduceBEq, Int.reduceToNat, Nat.reduceLT, Int.reduceEq, Int.reduceLT, Int.reduceLE, Int.reduceAdd, Int.reduceSub, Int.reduceMul, reduceCtorEq, Bool.not_false, Bool.not_true, Bool.true_beq, Bool.false_beq, beq_self_eq_true, Bool.true_and, f1, f2, f3, n1, n2, n3, n4, n5]
      exact ⟨[], rfl, rfl, by simp -dsimp only [WeakTm, WeakBx, CLe, CLeL, push_cast, Int.ofNat_eq_natCast, ↓reduceIte, Nat.reduceAdd, Nat.reduceMul, Nat.reduceSub, Nat.reduceLeDiff, Nat.reduceEqDiff, Nat.reduceBEq, Int.reduceToNat, Nat.reduceLT, Int.reduceEq, Int.reduceLT, Int.reduceLE, Int.reduceAdd, Int.reduceSub, Int.reduceMul, reduceCtorEq, Bool.not_false, Bool.not_true, Bool.true_beq, Bool.false_beq, beq_self_eq_true, Bool.true_and] <;> simp [nameV, n1, n2, n3, n4, n5]⟩
  · have n1 : ¬ k = 1 := (by omega); have n2 : ¬ k = 2 := (by omega); have n3 : ¬ k = 3 := (by omega); have n4 : ¬ k = 4 := (by omega); have n5 : ¬ k = 5 := (by omega)
    have f1 : k < 1 := by omega
    refine Fun.of (fun _ => []) (by kernel_rfl) Tryd.func14 rfl rfl (Nat.le_of_ble_eq_true rfl) (by kernel_rfl) ?_; dsimp only [Tryd.f14, List.append_eq, List.cons_append, List.nil_append]
    simp -dsimp only [push_cast, Int.ofNat_eq_natCast, ↓reduceIte, Nat.reduceAdd, Nat.reduceMul, Nat.reduceSub, Nat.reduceLeDiff, Nat.reduceEqDiff, Nat.reduceBEq, Int.reduceToNat, Nat.reduceLT, Int.reduceEq, Int.reduceLT, Int.reduceLE, Int.reduceAdd, Int.reduceSub, Int.reduceMul, reduceCtorEq, Bool.not_false, Bool.not_true, Bool.true_beq, Bool.false_beq, beq_self_eq_true, Bool.true_and, f1, n1, n2, n3, n4, n5]
    exact ⟨[], rfl, rfl, by simp -dsimp only [WeakTm, WeakBx, CLe, CLeL, push_cast, Int.ofNat_eq_natCast, ↓reduceIte, Nat.reduceAdd, Nat.reduceMul, Nat.reduceSub, Nat.reduceLeDiff, Nat.reduceEqDiff, Nat.reduceBEq, Int.reduceToNat, Nat.reduceLT, Int.reduceEq, Int.reduceLT, Int.reduceLE, Int.reduceAdd, Int.reduceSub, Int.reduceMul, reduceCtorEq, Bool.not_false, Bool.not_true, Bool.true_beq, Bool.false_beq, beq_self_eq_true, Bool.true_and] <;> simp [nameV, n1, n2, n3, n4, n5]⟩
open QuotePlain in
theorem quote_fun (l : List UInt8) (hl : l.length ≤ 1000000) : Fun Tryd.prog G0 19 [.str l] (.str (quoteL l)) 0 := by
  refine Fun.wrap (by kernel_rfl) fun R vs h => ?_
  obtain ⟨v1, us1, rfl, h1, h⟩ := repL_cons.1 h
  rw [repL_nil] at h
  subst h
  rw [rep_str] at h1
  subst h1
  refine (QuoteWalk.quote_walk ⟨l.toArray⟩ R.w (by simp [ByteArray.size]; omega)).mono ?_
  rintro e w' ⟨rfl, hb⟩
  exact ⟨_, rfl, hb, fun R' _ => rep_str.2 (by simp [Kit.ofL, Kit.toL])⟩
open QuotePlain in
theorem rQuote_fun (l : List UInt8) (hl : l.length ≤ 1000000) : Fun Tryd.prog G0 23 [.str l] (.str (quoteL l)) 0 := by
  refine Fun.wrap (by kernel_rfl) fun R vs h => ?_
  obtain ⟨v1, us1, rfl, h1, h⟩ := repL_cons.1 h
  rw [repL_nil] at h
  subst h
  rw [rep_str] at h1
  subst h1
  refine (QuoteWalk.refQuote_walk ⟨l.toArray⟩ R.w (by simp [ByteArray.size]; omega)).mono ?_
  rintro e w' ⟨rfl, hb⟩
  exact ⟨_, rfl, hb, fun R' _ => rep_str.2 (by simp [Kit.ofL, Kit.toL])⟩
end Go.Proofs.YtphiahlodjblcaaDoor.Vcg
set_option linter.unusedVariables false
set_option linter.unusedSimpArgs false
namespace Go.Proofs.YtphiahlodjblcaaDoor.Vcg
open Go.RowKit QuotePlain
theorem indexByte_neg (l : List UInt8) (c : UInt8) : (Lib.indexByte l c < 0) ↔ c ∉ l := by
  constructor
  · intro h hc
    have h1 := Lib.indexByte_ge l c
    obtain ⟨k, hk, e⟩ := List.getElem_of_mem hc
    exact Lib.indexByte_none (show Lib.indexByte l c = -1 by omega) k (by rw [List.getElem?_eq_getElem hk, e])
  · intro h
    rcases Int.lt_or_le (Lib.indexByte l c) 0 with h1 | h1
    · exact h1
    · obtain ⟨o, ho⟩ : ∃ o : Nat, Lib.indexByte l c = o := ⟨(Lib.indexByte l c).toNat, by omega⟩
      obtain ⟨h2, _⟩ := Lib.indexByte_some ho
      exact absurd (List.mem_of_getElem? h2) h
theorem in_fun (s : List UInt8) (c : UInt8) (hs : s.length ≤ 1000000) : Fun Tryd.prog G0 16 [.str s, u8C c] (.sc (.bool (decide (c ∈ s)))) 0 := by
  refine Fun.of (fun _ => []) (by kernel_rfl) Tryd.func16 rfl rfl (Nat.le_of_ble_eq_true rfl) (by kernel_rfl) ?_; dsimp only [Tryd.f16, List.append_eq, List.cons_append, List.nil_append]
  simp -dsimp only [push_cast, Int.ofNat_eq_natCast, ↓reduceIte, Nat.reduceAdd, Nat.reduceMul, Nat.reduceSub, Nat.reduceLeDiff, Nat.reduceEqDiff, Nat.reduceBEq, Int.reduceToNat, Nat.reduceLT, Int.reduceEq, Int.reduceLT, Int.reduceLE, Int.reduceAdd, Int.reduceSub, Int.reduceMul, reduceCtorEq, Bool.not_false, Bool.not_true, Bool.true_beq, Bool.false_beq, beq_self_eq_true, Bool.true_and]
  refine loop (fun k : Nat => ⟨[(0, .str s), (1, u8C c), (5, .sc (.int .i64 k))], [], 0, 0⟩) (fun k => k ≤ s.length ∧ c ∉ s.take k) (fun k => s.length - k) 0 ⟨Nat.zero_le _, by simp⟩ ?_ ?_
  · exact Weak.mk [] rfl rfl (Nat.le_refl _) rfl (by simp -dsimp only [WeakTm, WeakBx, CLe, CLeL, push_cast, Int.ofNat_eq_natCast, ↓reduceIte, Nat.reduceAdd, Nat.reduceMul, Nat.reduceSub, Nat.reduceLeDiff, Nat.reduceEqDiff, Nat.reduceBEq, Int.reduceToNat, Nat.reduceLT, Int.reduceEq, Int.reduceLT, Int.reduceLE, Int.reduceAdd, Int.reduceSub, Int.reduceMul, reduceCtorEq, Bool.not_false, Bool.not_true, Bool.true_beq, Bool.false_beq, beq_self_eq_true, Bool.true_and]) (by simp -dsimp only [WeakTm, WeakBx, CLe, CLeL, push_cast, Int.ofNat_eq_natCast, ↓reduceIte, Nat.reduceAdd, Nat.reduceMul, Nat.reduceSub, Nat.reduceLeDiff, Nat.reduceEqDiff, Nat.reduceBEq, Int.reduceToNat, Nat.reduceLT, Int.reduceEq, Int.reduceLT, Int.reduceLE, Int.reduceAdd, Int.reduceSub, Int.reduceMul, reduceCtorEq, Bool.not_false, Bool.not_true, Bool.true_beq, Bool.false_beq, beq_self_eq_true, Bool.true_and])
  · rintro k ⟨hk, hn⟩
    simp -dsimp only [push_cast, Int.ofNat_eq_natCast, ↓reduceIte, Nat.reduceAdd, Nat.reduceMul, Nat.reduceSub, Nat.reduceLeDiff, Nat.reduceEqDiff, Nat.reduceBEq, Int.reduceToNat, Nat.reduceLT, Int.reduceEq, Int.reduceLT, Int.reduceLE, Int.reduceAdd, Int.reduceSub, Int.reduceMul, reduceCtorEq, Bool.not_false, Bool.not_true, Bool.true_beq, Bool.false_beq, beq_self_eq_true, Bool.true_and]
    refine br (fun h => ?_) (fun h => ?_)
    · have hk2 : k < s.length := by simp at h; omega
      have hg : s[k]? = some s[k] := List.getElem?_eq_getElem hk2
      simp -dsimp only [push_cast, Int.ofNat_eq_natCast, ↓reduceIte, Nat.reduceAdd, Nat.reduceMul, Nat.reduceSub, Nat.reduceLeDiff, Nat.reduceEqDiff, Nat.reduceBEq, Int.reduceToNat, Nat.reduceLT, Int.reduceEq, Int.reduceLT, Int.reduceLE, Int.reduceAdd, Int.reduceSub, Int.reduceMul, reduceCtorEq, Bool.not_false, Bool.not_true, Bool.true_beq, Bool.false_beq, beq_self_eq_true, Bool.true_and, hg]
      refine ⟨by omega, br (fun h2 => ?_) (fun h2 => ?_)⟩
      · simp -dsimp only [push_cast, Int.ofNat_eq_natCast, ↓reduceIte, Nat.reduceAdd, Nat.reduceMul, Nat.reduceSub, Nat.reduceLeDiff, Nat.reduceEqDiff, Nat.reduceBEq, Int.reduceToNat, Nat.reduceLT, Int.reduceEq, Int.reduceLT, Int.reduceLE, Int.reduceAdd, Int.reduceSub, Int.reduceMul, reduceCtorEq, Bool.not_false, Bool.not_true, Bool.true_beq, Bool.false_beq, beq_self_eq_true, Bool.true_and]
        have h3 : s[k] = c := by simp at h2; exact UInt8.toNat_inj.1 (by omega)
        have h4 : c ∈ s := h3 ▸ List.getElem_mem hk2
        exact ⟨[], rfl, rfl, by simp -dsimp only [WeakTm, WeakBx, CLe, CLeL, push_cast, Int.ofNat_eq_natCast, ↓reduceIte, Nat.reduceAdd, Nat.reduceMul, Nat.reduceSub, Nat.reduceLeDiff, Nat.reduceEqDiff, Nat.reduceBEq, Int.reduceToNat, Nat.reduceLT, Int.reduceEq, Int.reduceLT, Int.reduceLE, Int.reduceAdd, Int.reduceSub, Int.reduceMul, reduceCtorEq, Bool.not_false, Bool.not_true, Bool.true_beq, Bool.false_beq, beq_self_eq_true, Bool.true_and, h4]⟩
      · simp -dsimp only [push_cast, Int.ofNat_eq_natCast, ↓reduceIte, Nat.reduceAdd, Nat.reduceMul, Nat.reduceSub, Nat.reduceLeDiff, Nat.reduceEqDiff, Nat.reduceBEq, Int.reduceToNat, Nat.reduceLT, Int.reduceEq, Int.reduceLT, Int.reduceLE, Int.reduceAdd, Int.reduceSub, Int.reduceMul, reduceCtorEq, Bool.not_false, Bool.not_true, Bool.true_beq, Bool.false_beq, beq_self_eq_true, Bool.true_and]
        have h3 : ¬ c = s[k] := fun e => by subst e; simp at h2
        refine ⟨by omega, k + 1, ⟨by omega, ?_⟩, by omega, Weak.mk [] rfl rfl (Nat.le_refl _) rfl (by simp -dsimp only [WeakTm, WeakBx, CLe, CLeL, push_cast, Int.ofNat_eq_natCast, ↓reduceIte, Nat.reduceAdd, Nat.reduceMul, Nat.reduceSub, Nat.reduceLeDiff, Nat.reduceEqDiff, Nat.reduceBEq, Int.reduceToNat, Nat.reduceLT, Int.reduceEq, Int.reduceLT, Int.reduceLE, Int.reduceAdd, Int.reduceSub, Int.reduceMul, reduceCtorEq, Bool.not_false, Bool.not_true, Bool.true_beq, Bool.false_beq, beq_self_eq_true, Bool.true_and]) (by simp -dsimp only [WeakTm, WeakBx, CLe, CLeL, push_cast, Int.ofNat_eq_natCast, ↓reduceIte, Nat.reduceAdd, Nat.reduceMul, Nat.reduceSub, Nat.reduceLeDiff, Nat.reduceEqDiff, Nat.reduceBEq, Int.reduceToNat, Nat.reduceLT, Int.reduceEq, Int.reduceLT, Int.reduceLE, Int.reduceAdd, Int.reduceSub, Int.reduceMul, reduceCtorEq, Bool.not_false, Bool.not_true, Bool.true_beq, Bool.false_beq, beq_self_eq_true, Bool.true_and])⟩
        intro h4
        rw [List.take_add_one, hg] at h4
        rcases List.mem_append.1 h4 with h5 | h5
        · exact hn h5
        · simp at h5; exact h3 h5
    · have hk2 : k = s.length := by simp at h; omega
      subst hk2
      rw [List.take_length] at hn
      simp -dsimp only [push_cast, Int.ofNat_eq_natCast, ↓reduceIte, Nat.reduceAdd, Nat.reduceMul, Nat.reduceSub, Nat.reduceLeDiff, Nat.reduceEqDiff, Nat.reduceBEq, Int.reduceToNat, Nat.reduceLT, Int.reduceEq, Int.reduceLT, Int.reduceLE, Int.reduceAdd, Int.reduceSub, Int.reduceMul, reduceCtorEq, Bool.not_false, Bool.not_true, Bool.true_beq, Bool.false_beq, beq_self_eq_true, Bool.true_and]
      exact ⟨[], rfl, rfl, by simp -dsimp only [WeakTm, WeakBx, CLe, CLeL, push_cast, Int.ofNat_eq_natCast, ↓reduceIte, Nat.reduceAdd, Nat.reduceMul, Nat.reduceSub, Nat.reduceLeDiff, Nat.reduceEqDiff, Nat.reduceBEq, Int.reduceToNat, Nat.reduceLT, Int.reduceEq, Int.reduceLT, Int.reduceLE, Int.reduceAdd, Int.reduceSub, Int.reduceMul, reduceCtorEq, Bool.not_false, Bool.not_true, Bool.true_beq, Bool.false_beq, beq_self_eq_true, Bool.true_and, hn]⟩
theorem has_fun (k : Int) (o : List UInt8) (ops : C) (c : UInt8) (hops : ops.cellB = true) : Fun Tryd.prog G0 15 [.agg [.sc (.int .i64 k), .str o, ops], u8C c] (.sc (.bool (decide (c ∈ o)))) 0 := by
  refine Fun.of (fun _ => []) (by kernel_rfl) Tryd.func15 rfl rfl (Nat.le_of_ble_eq_true rfl) (by kernel_rfl) ?_; dsimp only [Tryd.f15, List.append_eq, List.cons_append, List.nil_append]
  simp -dsimp only [push_cast, Int.ofNat_eq_natCast, ↓reduceIte, Nat.reduceAdd, Nat.reduceMul, Nat.reduceSub, Nat.reduceLeDiff, Nat.reduceEqDiff, Nat.reduceBEq, Int.reduceToNat, Nat.reduceLT, Int.reduceEq, Int.reduceLT, Int.reduceLE, Int.reduceAdd, Int.reduceSub, Int.reduceMul, reduceCtorEq, Bool.not_false, Bool.not_true, Bool.true_beq, Bool.false_beq, beq_self_eq_true, Bool.true_and, hops]
  (first | refine call (indexByte_fun o c) ?_ | refine callP (indexByte_fun o c) ?_); simp -dsimp only [push_cast, Int.ofNat_eq_natCast, ↓reduceIte, Nat.reduceAdd, Nat.reduceMul, Nat.reduceSub, Nat.reduceLeDiff, Nat.reduceEqDiff, Nat.reduceBEq, Int.reduceToNat, Nat.reduceLT, Int.reduceEq, Int.reduceLT, Int.reduceLE, Int.reduceAdd, Int.reduceSub, Int.reduceMul, reduceCtorEq, Bool.not_false, Bool.not_true, Bool.true_beq, Bool.false_beq, beq_self_eq_true, Bool.true_and]
  have e : decide (0 ≤ Lib.indexByte o c) = decide (c ∈ o) := by
    have := indexByte_neg o c
    by_cases h : c ∈ o
    · have h2 : ¬ Lib.indexByte o c < 0 := fun h3 => this.1 h3 h
      simp [h]; omega
    · have h2 := this.2 h
      simp [h]; omega
  exact ⟨[], rfl, rfl, by simp -dsimp only [WeakTm, WeakBx, CLe, CLeL, push_cast, Int.ofNat_eq_natCast, ↓reduceIte, Nat.reduceAdd, Nat.reduceMul, Nat.reduceSub, Nat.reduceLeDiff, Nat.reduceEqDiff, Nat.reduceBEq, Int.reduceToNat, Nat.reduceLT, Int.reduceEq, Int.reduceLT, Int.reduceLE, Int.reduceAdd, Int.reduceSub, Int.reduceMul, reduceCtorEq, Bool.not_false, Bool.not_true, Bool.true_beq, Bool.false_beq, beq_self_eq_true, Bool.true_and, e]⟩
end Go.Proofs.YtphiahlodjblcaaDoor.Vcg
set_option linter.unusedVariables false
set_option linter.unusedSimpArgs false
namespace Go.Proofs.YtphiahlodjblcaaDoor.Vcg
open Go.RowKit QuotePlain
def pairV (k : Int) (c : UInt8) : List UInt8 := if c = 82 then [] else if 4 ≤ k ∧ (c = 102 ∨ c = 110) then [102, 110] else []
def lowV (c : UInt8) : UInt8 := if c = 82 then 114 else c
def keepV (k : Int) (c : UInt8) (s : List UInt8) : List UInt8 := s.filter fun b => decide (b ≠ lowV c ∧ b ∉ pairV k c)
def withV (s : List UInt8) (k : Int) (c : UInt8) : List UInt8 := sortB (keepV k c s ++ [lowV c])
theorem u8_eq (c d : UInt8) : ((c.toNat : Int) = (d.toNat : Int)) = (c = d) := by
  refine propext ⟨fun h => UInt8.toNat_inj.1 (by omega), fun h => by rw [h]⟩
def withS (s : List UInt8) (k : Int) (c : UInt8) : Nat × Option Nat → St
  | (i, none) => ⟨[(0, .str s), (2, u8C (lowV c)), (7, .str (pairV k c)), (8, .sc (.slice none 0 0)), (25, .sc (.int .i64 s.length)), (26, .sc (.int .i64 i))], [], 0, 0⟩
  | (i, some cap) => ⟨[(0, .str s), (2, u8C (lowV c)), (7, .str (pairV k c)), (8, .bs 1 0 1 (keepV k c (s.take i)).length cap), (25, .sc (.int .i64 s.length)), (26, .sc (.int .i64 i))], [[.any], boxB (keepV k c (s.take i)) (cap - (keepV k c (s.take i)).length)], 0, 0⟩
def withO (s : List UInt8) (k : Int) (c : UInt8) : Nat × Option Nat → Prop
  | (i, none) => i ≤ s.length ∧ keepV k c (s.take i) = []
  | (i, some cap) => i ≤ s.length ∧ (keepV k c (s.take i)).length ≤ cap ∧ cap ≤ 9223372036854775807
theorem keepV_yes {s : List UInt8} {k : Int} {c : UInt8} {i : Nat} (hi : i < s.length) (h1 : s[i] ≠ lowV c) (h2 : s[i] ∉ pairV k c) : keepV k c (s.take (i + 1)) = keepV k c (s.take i) ++ [s[i]] := by
  unfold keepV
  rw [List.take_add_one, List.getElem?_eq_getElem hi, List.filter_append]
  simp [h1, h2]
theorem keepV_no {s : List UInt8} {k : Int} {c : UInt8} {i : Nat} (hi : i < s.length) (h : s[i] = lowV c ∨ s[i] ∈ pairV k c) : keepV k c (s.take (i + 1)) = keepV k c (s.take i) := by
  unfold keepV
  rw [List.take_add_one, List.getElem?_eq_getElem hi, List.filter_append]
  rcases h with h | h <;> simp [h]
theorem boxB_take {fp fo : Nat → Option Nat} (f : List UInt8) (m : Nat) (x : UInt8) : C.reL fp fo ((boxB f m).take (f.length * 1) ++ [.sc (.int .u8 (x.toNat : Int))]) = (f ++ [x]).map u8C := by
  have e : (boxB f m).take (f.length * 1) = f.map u8C := by
    rw [Nat.mul_one, boxB, List.take_append_of_le_length (by simp), List.take_of_length_le (by simp)]
  rw [e, List.map_append]
  show C.reL fp fo (f.map u8C ++ [x].map u8C) = _
  rw [reL_append, reL_u8, reL_u8]
theorem boxB_back (f : List UInt8) (m : Nat) : f.map u8C ++ List.replicate (m * 1) .any = boxB f m := by rw [Nat.mul_one]
theorem boxB_read (f : List UInt8) (m : Nat) : ((boxB f m).drop 0).take f.length = f.map (fun b => C.sc (.int .u8 (b.toNat : Int))) := by
  rw [List.drop_zero, boxB, List.take_append_of_le_length (by simp), List.take_of_length_le (by simp)]
theorem boxB_length (f : List UInt8) (m : Nat) : (boxB f m).length = f.length + m := by simp [boxB]
set_option maxRecDepth 8000 in
theorem with_fun (s : List UInt8) (k : Int) (c : UInt8) (hs : s.length ≤ 11) : Fun Tryd.prog G0 32 [.str s, .sc (.int .i64 k), u8C c] (.str (withV s k c)) 0 := by
  have hcase : (c = 82) ∨ (c ≠ 82 ∧ ¬ 4 ≤ k) ∨ (c = 102 ∧ 4 ≤ k) ∨ (c = 110 ∧ 4 ≤ k) ∨ (c ≠ 82 ∧ 4 ≤ k ∧ c ≠ 102 ∧ c ≠ 110) := by
    by_cases h1 : c = 82
    · exact .inl h1
    · by_cases h2 : 4 ≤ k
      · by_cases h3 : c = 102
        · exact .inr (.inr (.inl ⟨h3, h2⟩))
        · by_cases h4 : c = 110
          · exact .inr (.inr (.inr (.inl ⟨h4, h2⟩)))
          · exact .inr (.inr (.inr (.inr ⟨h1, h2, h3, h4⟩)))
      · exact .inr (.inl ⟨h1, h2⟩)
  have hI : ∀ (n : Nat) (d : UInt8), d.toNat = n → ((c.toNat : Int) = (n : Int)) = (c = d) := fun n d h => h ▸ u8_eq c d
  refine Fun.of (fun i => if i = 1000000 + 34 then [true] else []) (by kernel_rfl) Tryd.func32 rfl rfl (Nat.le_of_ble_eq_true rfl) (by kernel_rfl) ?_; dsimp only [Tryd.f32, List.append_eq, List.cons_append, List.nil_append]
  simp -dsimp only [push_cast, Int.ofNat_eq_natCast, ↓reduceIte, Nat.reduceAdd, Nat.reduceMul, Nat.reduceSub, Nat.reduceLeDiff, Nat.reduceEqDiff, Nat.reduceBEq, Int.reduceToNat, Nat.reduceLT, Int.reduceEq, Int.reduceLT, Int.reduceLE, Int.reduceAdd, Int.reduceSub, Int.reduceMul, reduceCtorEq, Bool.not_false, Bool.not_true, Bool.true_beq, Bool.false_beq, beq_self_eq_true, Bool.true_and]
  rcases hcase with hc | hc | hc | hc | hc
  case' inl =>
    have e1 : lowV c = 114 := by simp [lowV, hc]
    have e2 : pairV k c = [] := by simp [pairV, hc]
    have f1 : ((c.toNat : Int) = 82) = True := (hI 82 82 rfl).trans (by simp [hc])
    simp -dsimp only [push_cast, Int.ofNat_eq_natCast, ↓reduceIte, Nat.reduceAdd, Nat.reduceMul, Nat.reduceSub, Nat.reduceLeDiff, Nat.reduceEqDiff, Nat.reduceBEq, Int.reduceToNat, Nat.reduceLT, Int.reduceEq, Int.reduceLT, Int.reduceLE, Int.reduceAdd, Int.reduceSub, Int.reduceMul, reduceCtorEq, Bool.not_false, Bool.not_true, Bool.true_beq, Bool.false_beq, beq_self_eq_true, Bool.true_and, f1]
  case' inr.inl =>
    have e1 : lowV c = c := by simp [lowV, hc]
    have e2 : pairV k c = [] := by simp [pairV, hc]
    have f1 : ((c.toNat : Int) = 82) = False := (hI 82 82 rfl).trans (by simp [hc])
    have f2 : (4 ≤ k) = False := by simp [hc]
    simp -dsimp only [push_cast, Int.ofNat_eq_natCast, ↓reduceIte, Nat.reduceAdd, Nat.reduceMul, Nat.reduceSub, Nat.reduceLeDiff, Nat.reduceEqDiff, Nat.reduceBEq, Int.reduceToNat, Nat.reduceLT, Int.reduceEq, Int.reduceLT, Int.reduceLE, Int.reduceAdd, Int.reduceSub, Int.reduceMul, reduceCtorEq, Bool.not_false, Bool.not_true, Bool.true_beq, Bool.false_beq, beq_self_eq_true, Bool.true_and, f1, f2]
  case' inr.inr.inl =>
    have e1 : lowV c = c := by simp [lowV, hc]
    have e2 : pairV k c = [102, 110] := by simp [pairV, hc]
    have f1 : ((c.toNat : Int) = 82) = False := (hI 82 82 rfl).trans (by simp [hc])
    have f2 : (4 ≤ k) = True := by simp [hc]
    have f3 : ((c.toNat : Int) = 102) = True := (hI 102 102 rfl).trans (by simp [hc])
    simp -dsimp only [push_cast, Int.ofNat_eq_natCast, ↓reduceIte, Nat.reduceAdd, Nat.reduceMul, Nat.reduceSub, Nat.reduceLeDiff, Nat.reduceEqDiff, Nat.reduceBEq, Int.reduceToNat, Nat.reduceLT, Int.reduceEq, Int.reduceLT, Int.reduceLE, Int.reduceAdd, Int.reduceSub, Int.reduceMul, reduceCtorEq, Bool.not_false, Bool.not_true, Bool.true_beq, Bool.false_beq, beq_self_eq_true, Bool.true_and, f1, f2, f3]
  case' inr.inr.inr.inl =>
    have e1 : lowV c = c := by simp [lowV, hc]
    have e2 : pairV k c = [102, 110] := by simp [pairV, hc]
    have f1 : ((c.toNat : Int) = 82) = False := (hI 82 82 rfl).trans (by simp [hc])
    have f2 : (4 ≤ k) = True := by simp [hc]
    have f3 : ((c.toNat : Int) = 102) = False := (hI 102 102 rfl).trans (by simp [hc])
    have f4 : ((c.toNat : Int) = 110) = True := (hI 110 110 rfl).trans (by simp [hc])
    simp -dsimp only [push_cast, Int.ofNat_eq_natCast, ↓reduceIte, Nat.reduceAdd, Nat.reduceMul, Nat.reduceSub, Nat.reduceLeDiff, Nat.reduceEqDiff, Nat.reduceBEq, Int.reduceToNat, Nat.reduceLT, Int.reduceEq, Int.reduceLT, Int.reduceLE, Int.reduceAdd, Int.reduceSub, Int.reduceMul, reduceCtorEq, Bool.not_false, Bool.not_true, Bool.true_beq, Bool.false_beq, beq_self_eq_true, Bool.true_and, f1, f2, f3, f4]
  case' inr.inr.inr.inr =>
    have e1 : lowV c = c := by simp [lowV, hc]
    have e2 : pairV k c = [] := by simp [pairV, hc]
    have f1 : ((c.toNat : Int) = 82) = False := (hI 82 82 rfl).trans (by simp [hc])
    have f2 : (4 ≤ k) = True := by simp [hc]
    have f3 : ((c.toNat : Int) = 102) = False := (hI 102 102 rfl).trans (by simp [hc])
    have f4 : ((c.toNat : Int) = 110) = False := (hI 110 110 rfl).trans (by simp [hc])
    simp -dsimp only [push_cast, Int.ofNat_eq_natCast, ↓reduceIte, Nat.reduceAdd, Nat.reduceMul, Nat.reduceSub, Nat.reduceLeDiff, Nat.reduceEqDiff, Nat.reduceBEq, Int.reduceToNat, Nat.reduceLT, Int.reduceEq, Int.reduceLT, Int.reduceLE, Int.reduceAdd, Int.reduceSub, Int.reduceMul, reduceCtorEq, Bool.not_false, Bool.not_true, Bool.true_beq, Bool.false_beq, beq_self_eq_true, Bool.true_and, f1, f2, f3, f4]
  all_goals
    refine loop (withS s k c) (withO s k c) (fun p => s.length - p.1) (0, none) ⟨Nat.zero_le _, by simp [keepV]⟩ ?_ ?_
    · exact Weak.mk [] rfl rfl (Nat.le_refl _) rfl (by simp -dsimp only [WeakTm, WeakBx, CLe, CLeL, push_cast, Int.ofNat_eq_natCast, ↓reduceIte, Nat.reduceAdd, Nat.reduceMul, Nat.reduceSub, Nat.reduceLeDiff, Nat.reduceEqDiff, Nat.reduceBEq, Int.reduceToNat, Nat.reduceLT, Int.reduceEq, Int.reduceLT, Int.reduceLE, Int.reduceAdd, Int.reduceSub, Int.reduceMul, reduceCtorEq, Bool.not_false, Bool.not_true, Bool.true_beq, Bool.false_beq, beq_self_eq_true, Bool.true_and, withS, e1, e2] <;> simp) (by simp -dsimp only [WeakTm, WeakBx, CLe, CLeL, push_cast, Int.ofNat_eq_natCast, ↓reduceIte, Nat.reduceAdd, Nat.reduceMul, Nat.reduceSub, Nat.reduceLeDiff, Nat.reduceEqDiff, Nat.reduceBEq, Int.reduceToNat, Nat.reduceLT, Int.reduceEq, Int.reduceLT, Int.reduceLE, Int.reduceAdd, Int.reduceSub, Int.reduceMul, reduceCtorEq, Bool.not_false, Bool.not_true, Bool.true_beq, Bool.false_beq, beq_self_eq_true, Bool.true_and, withS])
    · clear e1 e2
      rintro ⟨i, o⟩ ho
      have hi : i ≤ s.length := by cases o <;> exact ho.1
      cases o with
      | none =>
        have hf := ho.2
        simp -dsimp only [push_cast, Int.ofNat_eq_natCast, ↓reduceIte, Nat.reduceAdd, Nat.reduceMul, Nat.reduceSub, Nat.reduceLeDiff, Nat.reduceEqDiff, Nat.reduceBEq, Int.reduceToNat, Nat.reduceLT, Int.reduceEq, Int.reduceLT, Int.reduceLE, Int.reduceAdd, Int.reduceSub, Int.reduceMul, reduceCtorEq, Bool.not_false, Bool.not_true, Bool.true_beq, Bool.false_beq, beq_self_eq_true, Bool.true_and, withS]
        refine br (fun h => ?_) (fun h => ?_)
        · have hk2 : i < s.length := by simp at h; omega
          have hg : s[i]? = some s[i] := List.getElem?_eq_getElem hk2
          by_cases h3 : s[i] = lowV c
          · have g1 : (((s[i]).toNat : Int) = ((lowV c).toNat : Int)) = True := (u8_eq _ _).trans (by simp [h3])
            simp -dsimp only [push_cast, Int.ofNat_eq_natCast, ↓reduceIte, Nat.reduceAdd, Nat.reduceMul, Nat.reduceSub, Nat.reduceLeDiff, Nat.reduceEqDiff, Nat.reduceBEq, Int.reduceToNat, Nat.reduceLT, Int.reduceEq, Int.reduceLT, Int.reduceLE, Int.reduceAdd, Int.reduceSub, Int.reduceMul, reduceCtorEq, Bool.not_false, Bool.not_true, Bool.true_beq, Bool.false_beq, beq_self_eq_true, Bool.true_and, hg, g1]
            refine ⟨by omega, by omega, (i + 1, none), ⟨by omega, by rw [keepV_no hk2 (.inl h3)]; exact hf⟩, by simp; omega, Weak.mk [] rfl rfl (Nat.le_refl _) rfl (by simp -dsimp only [WeakTm, WeakBx, CLe, CLeL, push_cast, Int.ofNat_eq_natCast, ↓reduceIte, Nat.reduceAdd, Nat.reduceMul, Nat.reduceSub, Nat.reduceLeDiff, Nat.reduceEqDiff, Nat.reduceBEq, Int.reduceToNat, Nat.reduceLT, Int.reduceEq, Int.reduceLT, Int.reduceLE, Int.reduceAdd, Int.reduceSub, Int.reduceMul, reduceCtorEq, Bool.not_false, Bool.not_true, Bool.true_beq, Bool.false_beq, beq_self_eq_true, Bool.true_and, withS]) (by simp -dsimp only [WeakTm, WeakBx, CLe, CLeL, push_cast, Int.ofNat_eq_natCast, ↓reduceIte, Nat.reduceAdd, Nat.reduceMul, Nat.reduceSub, Nat.reduceLeDiff, Nat.reduceEqDiff, Nat.reduceBEq, Int.reduceToNat, Nat.reduceLT, Int.reduceEq, Int.reduceLT, Int.reduceLE, Int.reduceAdd, Int.reduceSub, Int.reduceMul, reduceCtorEq, Bool.not_false, Bool.not_true, Bool.true_beq, Bool.false_beq, beq_self_eq_true, Bool.true_and, withS])⟩
          · have g1 : (((s[i]).toNat : Int) = ((lowV c).toNat : Int)) = False := (u8_eq _ _).trans (by simp [h3])
            have hn := indexByte_neg (pairV k c) s[i]
            by_cases h4 : s[i] ∈ pairV k c
            · have g2 : (Lib.indexByte (pairV k c) s[i] < 0) = False := by rw [hn]; simp [h4]
              simp -dsimp only [push_cast, Int.ofNat_eq_natCast, ↓reduceIte, Nat.reduceAdd, Nat.reduceMul, Nat.reduceSub, Nat.reduceLeDiff, Nat.reduceEqDiff, Nat.reduceBEq, Int.reduceToNat, Nat.reduceLT, Int.reduceEq, Int.reduceLT, Int.reduceLE, Int.reduceAdd, Int.reduceSub, Int.reduceMul, reduceCtorEq, Bool.not_false, Bool.not_true, Bool.true_beq, Bool.false_beq, beq_self_eq_true, Bool.true_and, hg, g1]
              refine ⟨by omega, by omega, ?_⟩
              (first | refine call (indexByte_fun (pairV k c) s[i]) ?_ | refine callP (indexByte_fun (pairV k c) s[i]) ?_); simp -dsimp only [push_cast, Int.ofNat_eq_natCast, ↓reduceIte, Nat.reduceAdd, Nat.reduceMul, Nat.reduceSub, Nat.reduceLeDiff, Nat.reduceEqDiff, Nat.reduceBEq, Int.reduceToNat, Nat.reduceLT, Int.reduceEq, Int.reduceLT, Int.reduceLE, Int.reduceAdd, Int.reduceSub, Int.reduceMul, reduceCtorEq, Bool.not_false, Bool.not_true, Bool.true_beq, Bool.false_beq, beq_self_eq_true, Bool.true_and, g2]
              refine ⟨by omega, (i + 1, none), ⟨by omega, by rw [keepV_no hk2 (.inr h4)]; exact hf⟩, by simp; omega, Weak.mk [] rfl rfl (Nat.le_refl _) rfl (by simp -dsimp only [WeakTm, WeakBx, CLe, CLeL, push_cast, Int.ofNat_eq_natCast, ↓reduceIte, Nat.reduceAdd, Nat.reduceMul, Nat.reduceSub, Nat.reduceLeDiff, Nat.reduceEqDiff, Nat.reduceBEq, Int.reduceToNat, Nat.reduceLT, Int.reduceEq, Int.reduceLT, Int.reduceLE, Int.reduceAdd, Int.reduceSub, Int.reduceMul, reduceCtorEq, Bool.not_false, Bool.not_true, Bool.true_beq, Bool.false_beq, beq_self_eq_true, Bool.true_and, withS]) (by simp -dsimp only [WeakTm, WeakBx, CLe, CLeL, push_cast, Int.ofNat_eq_natCast, ↓reduceIte, Nat.reduceAdd, Nat.reduceMul, Nat.reduceSub, Nat.reduceLeDiff, Nat.reduceEqDiff, Nat.reduceBEq, Int.reduceToNat, Nat.reduceLT, Int.reduceEq, Int.reduceLT, Int.reduceLE, Int.reduceAdd, Int.reduceSub, Int.reduceMul, reduceCtorEq, Bool.not_false, Bool.not_true, Bool.true_beq, Bool.false_beq, beq_self_eq_true, Bool.true_and, withS])⟩
            · have g2 : (Lib.indexByte (pairV k c) s[i] < 0) = True := by rw [hn]; simp [h4]
              simp -dsimp only [push_cast, Int.ofNat_eq_natCast, ↓reduceIte, Nat.reduceAdd, Nat.reduceMul, Nat.reduceSub, Nat.reduceLeDiff, Nat.reduceEqDiff, Nat.reduceBEq, Int.reduceToNat, Nat.reduceLT, Int.reduceEq, Int.reduceLT, Int.reduceLE, Int.reduceAdd, Int.reduceSub, Int.reduceMul, reduceCtorEq, Bool.not_false, Bool.not_true, Bool.true_beq, Bool.false_beq, beq_self_eq_true, Bool.true_and, hg, g1]
              refine ⟨by omega, by omega, ?_⟩
              (first | refine call (indexByte_fun (pairV k c) s[i]) ?_ | refine callP (indexByte_fun (pairV k c) s[i]) ?_); simp -dsimp only [push_cast, Int.ofNat_eq_natCast, ↓reduceIte, Nat.reduceAdd, Nat.reduceMul, Nat.reduceSub, Nat.reduceLeDiff, Nat.reduceEqDiff, Nat.reduceBEq, Int.reduceToNat, Nat.reduceLT, Int.reduceEq, Int.reduceLT, Int.reduceLE, Int.reduceAdd, Int.reduceSub, Int.reduceMul, reduceCtorEq, Bool.not_false, Bool.not_true, Bool.true_beq, Bool.false_beq, beq_self_eq_true, Bool.true_and, g2, hg]
              have hk3 := keepV_yes hk2 h3 h4
              rw [hf] at hk3
              refine ⟨by omega, appNil rfl (by omega) rfl (by omega) (by omega) (by omega) (fun cap c1 c2 => ?_)⟩
              simp -dsimp only [push_cast, Int.ofNat_eq_natCast, ↓reduceIte, Nat.reduceAdd, Nat.reduceMul, Nat.reduceSub, Nat.reduceLeDiff, Nat.reduceEqDiff, Nat.reduceBEq, Int.reduceToNat, Nat.reduceLT, Int.reduceEq, Int.reduceLT, Int.reduceLE, Int.reduceAdd, Int.reduceSub, Int.reduceMul, reduceCtorEq, Bool.not_false, Bool.not_true, Bool.true_beq, Bool.false_beq, beq_self_eq_true, Bool.true_and]
              refine ⟨by omega, (i + 1, some cap), ⟨by omega, by rw [hk3]; exact c1, c2⟩, by simp; omega, Weak.mk [] rfl rfl (Nat.zero_le _) rfl (by simp -dsimp only [WeakTm, WeakBx, CLe, CLeL, push_cast, Int.ofNat_eq_natCast, ↓reduceIte, Nat.reduceAdd, Nat.reduceMul, Nat.reduceSub, Nat.reduceLeDiff, Nat.reduceEqDiff, Nat.reduceBEq, Int.reduceToNat, Nat.reduceLT, Int.reduceEq, Int.reduceLT, Int.reduceLE, Int.reduceAdd, Int.reduceSub, Int.reduceMul, reduceCtorEq, Bool.not_false, Bool.not_true, Bool.true_beq, Bool.false_beq, beq_self_eq_true, Bool.true_and, withS, hk3]) (by simp -dsimp only [WeakTm, WeakBx, CLe, CLeL, push_cast, Int.ofNat_eq_natCast, ↓reduceIte, Nat.reduceAdd, Nat.reduceMul, Nat.reduceSub, Nat.reduceLeDiff, Nat.reduceEqDiff, Nat.reduceBEq, Int.reduceToNat, Nat.reduceLT, Int.reduceEq, Int.reduceLT, Int.reduceLE, Int.reduceAdd, Int.reduceSub, Int.reduceMul, reduceCtorEq, Bool.not_false, Bool.not_true, Bool.true_beq, Bool.false_beq, beq_self_eq_true, Bool.true_and, withS, hk3]; exact cleL_boxB [s[i]] (cap - 1))⟩
        · have hk2 : i = s.length := by simp at h; omega
          subst hk2
          rw [List.take_length] at hf
          simp -dsimp only [push_cast, Int.ofNat_eq_natCast, ↓reduceIte, Nat.reduceAdd, Nat.reduceMul, Nat.reduceSub, Nat.reduceLeDiff, Nat.reduceEqDiff, Nat.reduceBEq, Int.reduceToNat, Nat.reduceLT, Int.reduceEq, Int.reduceLT, Int.reduceLE, Int.reduceAdd, Int.reduceSub, Int.reduceMul, reduceCtorEq, Bool.not_false, Bool.not_true, Bool.true_beq, Bool.false_beq, beq_self_eq_true, Bool.true_and]
          refine appNil rfl (by omega) rfl (by omega) (by omega) (by omega) (fun cap c1 c2 => ?_)
          simp -dsimp only [push_cast, Int.ofNat_eq_natCast, ↓reduceIte, Nat.reduceAdd, Nat.reduceMul, Nat.reduceSub, Nat.reduceLeDiff, Nat.reduceEqDiff, Nat.reduceBEq, Int.reduceToNat, Nat.reduceLT, Int.reduceEq, Int.reduceLT, Int.reduceLE, Int.reduceAdd, Int.reduceSub, Int.reduceMul, reduceCtorEq, Bool.not_false, Bool.not_true, Bool.true_beq, Bool.false_beq, beq_self_eq_true, Bool.true_and]
          refine callB [1] [] ((sort_fun [lowV c] (cap - 1) cap (by simp))) rfl (by simp) (by simp) (by simp) (by simp -dsimp only [push_cast, Int.ofNat_eq_natCast, ↓reduceIte, Nat.reduceAdd, Nat.reduceMul, Nat.reduceSub, Nat.reduceLeDiff, Nat.reduceEqDiff, Nat.reduceBEq, Int.reduceToNat, Nat.reduceLT, Int.reduceEq, Int.reduceLT, Int.reduceLE, Int.reduceAdd, Int.reduceSub, Int.reduceMul, reduceCtorEq, Bool.not_false, Bool.not_true, Bool.true_beq, Bool.false_beq, beq_self_eq_true, Bool.true_and, List.length_append, List.length_cons, List.length_nil, Nat.zero_add]) (by simp -dsimp only [push_cast, Int.ofNat_eq_natCast, ↓reduceIte, Nat.reduceAdd, Nat.reduceMul, Nat.reduceSub, Nat.reduceLeDiff, Nat.reduceEqDiff, Nat.reduceBEq, Int.reduceToNat, Nat.reduceLT, Int.reduceEq, Int.reduceLT, Int.reduceLE, Int.reduceAdd, Int.reduceSub, Int.reduceMul, reduceCtorEq, Bool.not_false, Bool.not_true, Bool.true_beq, Bool.false_beq, beq_self_eq_true, Bool.true_and, reL_boxB]; exact congrArg (fun x => [x]) (reL_boxB [lowV c] (cap - 1))) ?_
          simp -dsimp only [push_cast, Int.ofNat_eq_natCast, ↓reduceIte, Nat.reduceAdd, Nat.reduceMul, Nat.reduceSub, Nat.reduceLeDiff, Nat.reduceEqDiff, Nat.reduceBEq, Int.reduceToNat, Nat.reduceLT, Int.reduceEq, Int.reduceLT, Int.reduceLE, Int.reduceAdd, Int.reduceSub, Int.reduceMul, reduceCtorEq, Bool.not_false, Bool.not_true, Bool.true_beq, Bool.false_beq, beq_self_eq_true, Bool.true_and, reL_boxB]
          have hW : withV s k c = sortB [lowV c] := by simp [withV, hf]
          refine bytesB (sortB [lowV c]) (by simp [sortB]) ?_ ?_
          · have := boxB_read (sortB [lowV c]) (cap - 1)
            rw [show (sortB [lowV c]).length = 1 by simp [sortB]] at this
            exact this
          · simp -dsimp only [push_cast, Int.ofNat_eq_natCast, ↓reduceIte, Nat.reduceAdd, Nat.reduceMul, Nat.reduceSub, Nat.reduceLeDiff, Nat.reduceEqDiff, Nat.reduceBEq, Int.reduceToNat, Nat.reduceLT, Int.reduceEq, Int.reduceLT, Int.reduceLE, Int.reduceAdd, Int.reduceSub, Int.reduceMul, reduceCtorEq, Bool.not_false, Bool.not_true, Bool.true_beq, Bool.false_beq, beq_self_eq_true, Bool.true_and]
            exact ⟨[], rfl, rfl, by simp -dsimp only [WeakTm, WeakBx, CLe, CLeL, push_cast, Int.ofNat_eq_natCast, ↓reduceIte, Nat.reduceAdd, Nat.reduceMul, Nat.reduceSub, Nat.reduceLeDiff, Nat.reduceEqDiff, Nat.reduceBEq, Int.reduceToNat, Nat.reduceLT, Int.reduceEq, Int.reduceLT, Int.reduceLE, Int.reduceAdd, Int.reduceSub, Int.reduceMul, reduceCtorEq, Bool.not_false, Bool.not_true, Bool.true_beq, Bool.false_beq, beq_self_eq_true, Bool.true_and, hW]⟩
      | some cap =>
        have hf := ho.2
        simp -dsimp only [push_cast, Int.ofNat_eq_natCast, ↓reduceIte, Nat.reduceAdd, Nat.reduceMul, Nat.reduceSub, Nat.reduceLeDiff, Nat.reduceEqDiff, Nat.reduceBEq, Int.reduceToNat, Nat.reduceLT, Int.reduceEq, Int.reduceLT, Int.reduceLE, Int.reduceAdd, Int.reduceSub, Int.reduceMul, reduceCtorEq, Bool.not_false, Bool.not_true, Bool.true_beq, Bool.false_beq, beq_self_eq_true, Bool.true_and, withS]
        refine br (fun h => ?_) (fun h => ?_)
        · have hk2 : i < s.length := by simp at h; omega
          have hg : s[i]? = some s[i] := List.getElem?_eq_getElem hk2
          by_cases h3 : s[i] = lowV c
          · have g1 : (((s[i]).toNat : Int) = ((lowV c).toNat : Int)) = True := (u8_eq _ _).trans (by simp [h3])
            simp -dsimp only [push_cast, Int.ofNat_eq_natCast, ↓reduceIte, Nat.reduceAdd, Nat.reduceMul, Nat.reduceSub, Nat.reduceLeDiff, Nat.reduceEqDiff, Nat.reduceBEq, Int.reduceToNat, Nat.reduceLT, Int.reduceEq, Int.reduceLT, Int.reduceLE, Int.reduceAdd, Int.reduceSub, Int.reduceMul, reduceCtorEq, Bool.not_false, Bool.not_true, Bool.true_beq, Bool.false_beq, beq_self_eq_true, Bool.true_and, hg, g1]
            refine ⟨by omega, by omega, (i + 1, some cap), ⟨by omega, by rw [keepV_no hk2 (.inl h3)]; exact hf⟩, by simp; omega, Weak.mk [] rfl rfl (Nat.zero_le _) rfl (by simp -dsimp only [WeakTm, WeakBx, CLe, CLeL, push_cast, Int.ofNat_eq_natCast, ↓reduceIte, Nat.reduceAdd, Nat.reduceMul, Nat.reduceSub, Nat.reduceLeDiff, Nat.reduceEqDiff, Nat.reduceBEq, Int.reduceToNat, Nat.reduceLT, Int.reduceEq, Int.reduceLT, Int.reduceLE, Int.reduceAdd, Int.reduceSub, Int.reduceMul, reduceCtorEq, Bool.not_false, Bool.not_true, Bool.true_beq, Bool.false_beq, beq_self_eq_true, Bool.true_and, withS, keepV_no hk2 (.inl h3)]) (by simp -dsimp only [WeakTm, WeakBx, CLe, CLeL, push_cast, Int.ofNat_eq_natCast, ↓reduceIte, Nat.reduceAdd, Nat.reduceMul, Nat.reduceSub, Nat.reduceLeDiff, Nat.reduceEqDiff, Nat.reduceBEq, Int.reduceToNat, Nat.reduceLT, Int.reduceEq, Int.reduceLT, Int.reduceLE, Int.reduceAdd, Int.reduceSub, Int.reduceMul, reduceCtorEq, Bool.not_false, Bool.not_true, Bool.true_beq, Bool.false_beq, beq_self_eq_true, Bool.true_and, withS, keepV_no hk2 (.inl h3), cleL_boxB])⟩
          · have g1 : (((s[i]).toNat : Int) = ((lowV c).toNat : Int)) = False := (u8_eq _ _).trans (by simp [h3])
            have hn := indexByte_neg (pairV k c) s[i]
            by_cases h4 : s[i] ∈ pairV k c
            · have g2 : (Lib.indexByte (pairV k c) s[i] < 0) = False := by rw [hn]; simp [h4]
              simp -dsimp only [push_cast, Int.ofNat_eq_natCast, ↓reduceIte, Nat.reduceAdd, Nat.reduceMul, Nat.reduceSub, Nat.reduceLeDiff, Nat.reduceEqDiff, Nat.reduceBEq, Int.reduceToNat, Nat.reduceLT, Int.reduceEq, Int.reduceLT, Int.reduceLE, Int.reduceAdd, Int.reduceSub, Int.reduceMul, reduceCtorEq, Bool.not_false, Bool.not_true, Bool.true_beq, Bool.false_beq, beq_self_eq_true, Bool.true_and, hg, g1]
              refine ⟨by omega, by omega, ?_⟩
              (first | refine call (indexByte_fun (pairV k c) s[i]) ?_ | refine callP (indexByte_fun (pairV k c) s[i]) ?_); simp -dsimp only [push_cast, Int.ofNat_eq_natCast, ↓reduceIte, Nat.reduceAdd, Nat.reduceMul, Nat.reduceSub, Nat.reduceLeDiff, Nat.reduceEqDiff, Nat.reduceBEq, Int.reduceToNat, Nat.reduceLT, Int.reduceEq, Int.reduceLT, Int.reduceLE, Int.reduceAdd, Int.reduceSub, Int.reduceMul, reduceCtorEq, Bool.not_false, Bool.not_true, Bool.true_beq, Bool.false_beq, beq_self_eq_true, Bool.true_and, g2]
              refine ⟨by omega, (i + 1, some cap), ⟨by omega, by rw [keepV_no hk2 (.inr h4)]; exact hf⟩, by simp; omega, Weak.mk [] rfl rfl (Nat.zero_le _) rfl (by simp -dsimp only [WeakTm, WeakBx, CLe, CLeL, push_cast, Int.ofNat_eq_natCast, ↓reduceIte, Nat.reduceAdd, Nat.reduceMul, Nat.reduceSub, Nat.reduceLeDiff, Nat.reduceEqDiff, Nat.reduceBEq, Int.reduceToNat, Nat.reduceLT, Int.reduceEq, Int.reduceLT, Int.reduceLE, Int.reduceAdd, Int.reduceSub, Int.reduceMul, reduceCtorEq, Bool.not_false, Bool.not_true, Bool.true_beq, Bool.false_beq, beq_self_eq_true, Bool.true_and, withS, keepV_no hk2 (.inr h4)]) (by simp -dsimp only [WeakTm, WeakBx, CLe, CLeL, push_cast, Int.ofNat_eq_natCast, ↓reduceIte, Nat.reduceAdd, Nat.reduceMul, Nat.reduceSub, Nat.reduceLeDiff, Nat.reduceEqDiff, Nat.reduceBEq, Int.reduceToNat, Nat.reduceLT, Int.reduceEq, Int.reduceLT, Int.reduceLE, Int.reduceAdd, Int.reduceSub, Int.reduceMul, reduceCtorEq, Bool.not_false, Bool.not_true, Bool.true_beq, Bool.false_beq, beq_self_eq_true, Bool.true_and, withS, keepV_no hk2 (.inr h4), cleL_boxB])⟩
            · have g2 : (Lib.indexByte (pairV k c) s[i] < 0) = True := by rw [hn]; simp [h4]
              simp -dsimp only [push_cast, Int.ofNat_eq_natCast, ↓reduceIte, Nat.reduceAdd, Nat.reduceMul, Nat.reduceSub, Nat.reduceLeDiff, Nat.reduceEqDiff, Nat.reduceBEq, Int.reduceToNat, Nat.reduceLT, Int.reduceEq, Int.reduceLT, Int.reduceLE, Int.reduceAdd, Int.reduceSub, Int.reduceMul, reduceCtorEq, Bool.not_false, Bool.not_true, Bool.true_beq, Bool.false_beq, beq_self_eq_true, Bool.true_and, hg, g1]
              refine ⟨by omega, by omega, ?_⟩
              (first | refine call (indexByte_fun (pairV k c) s[i]) ?_ | refine callP (indexByte_fun (pairV k c) s[i]) ?_); simp -dsimp only [push_cast, Int.ofNat_eq_natCast, ↓reduceIte, Nat.reduceAdd, Nat.reduceMul, Nat.reduceSub, Nat.reduceLeDiff, Nat.reduceEqDiff, Nat.reduceBEq, Int.reduceToNat, Nat.reduceLT, Int.reduceEq, Int.reduceLT, Int.reduceLE, Int.reduceAdd, Int.reduceSub, Int.reduceMul, reduceCtorEq, Bool.not_false, Bool.not_true, Bool.true_beq, Bool.false_beq, beq_self_eq_true, Bool.true_and, g2, hg]
              have hk3 := keepV_yes hk2 h3 h4
              refine ⟨by omega, appBx ((keepV k c (s.take i) ++ [s[i]]).map u8C) rfl rfl (by omega) rfl (by omega) (Nat.zero_le _) (by rw [boxB_length]; omega) hf.1 hf.2 (by have := List.length_filter_le (fun b => decide (b ≠ lowV c ∧ b ∉ pairV k c)) (s.take i); simp [keepV] at *; omega) (by have := List.length_filter_le (fun b => decide (b ≠ lowV c ∧ b ∉ pairV k c)) (s.take i); simp [keepV] at *; omega) (boxB_take _ _ _) (fun cap' c1 c2 => ?_)⟩
              rw [boxB_back, ← hk3]
              simp -dsimp only [push_cast, Int.ofNat_eq_natCast, ↓reduceIte, Nat.reduceAdd, Nat.reduceMul, Nat.reduceSub, Nat.reduceLeDiff, Nat.reduceEqDiff, Nat.reduceBEq, Int.reduceToNat, Nat.reduceLT, Int.reduceEq, Int.reduceLT, Int.reduceLE, Int.reduceAdd, Int.reduceSub, Int.reduceMul, reduceCtorEq, Bool.not_false, Bool.not_true, Bool.true_beq, Bool.false_beq, beq_self_eq_true, Bool.true_and]
              refine ⟨by omega, (i + 1, some cap'), ⟨by omega, by rw [hk3, List.length_append]; exact c1, c2⟩, by simp; omega, Weak.mk [] rfl rfl (Nat.zero_le _) rfl (by simp -dsimp only [WeakTm, WeakBx, CLe, CLeL, push_cast, Int.ofNat_eq_natCast, ↓reduceIte, Nat.reduceAdd, Nat.reduceMul, Nat.reduceSub, Nat.reduceLeDiff, Nat.reduceEqDiff, Nat.reduceBEq, Int.reduceToNat, Nat.reduceLT, Int.reduceEq, Int.reduceLT, Int.reduceLE, Int.reduceAdd, Int.reduceSub, Int.reduceMul, reduceCtorEq, Bool.not_false, Bool.not_true, Bool.true_beq, Bool.false_beq, beq_self_eq_true, Bool.true_and, withS, hk3, List.length_append, List.length_cons, List.length_nil, Nat.zero_add]) (by simp -dsimp only [WeakTm, WeakBx, CLe, CLeL, push_cast, Int.ofNat_eq_natCast, ↓reduceIte, Nat.reduceAdd, Nat.reduceMul, Nat.reduceSub, Nat.reduceLeDiff, Nat.reduceEqDiff, Nat.reduceBEq, Int.reduceToNat, Nat.reduceLT, Int.reduceEq, Int.reduceLT, Int.reduceLE, Int.reduceAdd, Int.reduceSub, Int.reduceMul, reduceCtorEq, Bool.not_false, Bool.not_true, Bool.true_beq, Bool.false_beq, beq_self_eq_true, Bool.true_and, withS, hk3, cleL_boxB, List.length_append, List.length_cons, List.length_nil, Nat.zero_add])⟩
        · have hk2 : i = s.length := by simp at h; omega
          subst hk2
          rw [List.take_length] at hf
          rw [List.take_length]
          simp -dsimp only [push_cast, Int.ofNat_eq_natCast, ↓reduceIte, Nat.reduceAdd, Nat.reduceMul, Nat.reduceSub, Nat.reduceLeDiff, Nat.reduceEqDiff, Nat.reduceBEq, Int.reduceToNat, Nat.reduceLT, Int.reduceEq, Int.reduceLT, Int.reduceLE, Int.reduceAdd, Int.reduceSub, Int.reduceMul, reduceCtorEq, Bool.not_false, Bool.not_true, Bool.true_beq, Bool.false_beq, beq_self_eq_true, Bool.true_and]
          refine appBx ((keepV k c s ++ [lowV c]).map u8C) rfl rfl (by omega) rfl (by omega) (Nat.zero_le _) (by rw [boxB_length]; omega) hf.1 hf.2 (by have := List.length_filter_le (fun b => decide (b ≠ lowV c ∧ b ∉ pairV k c)) s; simp [keepV] at *; omega) (by have := List.length_filter_le (fun b => decide (b ≠ lowV c ∧ b ∉ pairV k c)) s; simp [keepV] at *; omega) (boxB_take _ _ _) (fun cap' c1 c2 => ?_)
          rw [boxB_back]
          simp -dsimp only [push_cast, Int.ofNat_eq_natCast, ↓reduceIte, Nat.reduceAdd, Nat.reduceMul, Nat.reduceSub, Nat.reduceLeDiff, Nat.reduceEqDiff, Nat.reduceBEq, Int.reduceToNat, Nat.reduceLT, Int.reduceEq, Int.reduceLT, Int.reduceLE, Int.reduceAdd, Int.reduceSub, Int.reduceMul, reduceCtorEq, Bool.not_false, Bool.not_true, Bool.true_beq, Bool.false_beq, beq_self_eq_true, Bool.true_and]
          refine callB [1] [] ((sort_fun (keepV k c s ++ [lowV c]) (cap' - ((keepV k c s).length + 1)) cap' (by have := List.length_filter_le (fun b => decide (b ≠ lowV c ∧ b ∉ pairV k c)) s; simp [keepV] at *; omega))) rfl (by simp) (by simp) (by simp) (by simp -dsimp only [push_cast, Int.ofNat_eq_natCast, ↓reduceIte, Nat.reduceAdd, Nat.reduceMul, Nat.reduceSub, Nat.reduceLeDiff, Nat.reduceEqDiff, Nat.reduceBEq, Int.reduceToNat, Nat.reduceLT, Int.reduceEq, Int.reduceLT, Int.reduceLE, Int.reduceAdd, Int.reduceSub, Int.reduceMul, reduceCtorEq, Bool.not_false, Bool.not_true, Bool.true_beq, Bool.false_beq, beq_self_eq_true, Bool.true_and, List.length_append, List.length_cons, List.length_nil, Nat.zero_add]) (by simp -dsimp only [push_cast, Int.ofNat_eq_natCast, ↓reduceIte, Nat.reduceAdd, Nat.reduceMul, Nat.reduceSub, Nat.reduceLeDiff, Nat.reduceEqDiff, Nat.reduceBEq, Int.reduceToNat, Nat.reduceLT, Int.reduceEq, Int.reduceLT, Int.reduceLE, Int.reduceAdd, Int.reduceSub, Int.reduceMul, reduceCtorEq, Bool.not_false, Bool.not_true, Bool.true_beq, Bool.false_beq, beq_self_eq_true, Bool.true_and, reL_boxB]) ?_
          simp -dsimp only [push_cast, Int.ofNat_eq_natCast, ↓reduceIte, Nat.reduceAdd, Nat.reduceMul, Nat.reduceSub, Nat.reduceLeDiff, Nat.reduceEqDiff, Nat.reduceBEq, Int.reduceToNat, Nat.reduceLT, Int.reduceEq, Int.reduceLT, Int.reduceLE, Int.reduceAdd, Int.reduceSub, Int.reduceMul, reduceCtorEq, Bool.not_false, Bool.not_true, Bool.true_beq, Bool.false_beq, beq_self_eq_true, Bool.true_and, reL_boxB]
          have hL : (sortB (keepV k c s ++ [lowV c])).length = (keepV k c s).length + 1 := by simp [sortB]
          refine bytesB (sortB (keepV k c s ++ [lowV c])) hL ?_ ?_
          · have := boxB_read (sortB (keepV k c s ++ [lowV c])) (cap' - ((keepV k c s).length + 1))
            rw [hL] at this
            exact this
          · simp -dsimp only [push_cast, Int.ofNat_eq_natCast, ↓reduceIte, Nat.reduceAdd, Nat.reduceMul, Nat.reduceSub, Nat.reduceLeDiff, Nat.reduceEqDiff, Nat.reduceBEq, Int.reduceToNat, Nat.reduceLT, Int.reduceEq, Int.reduceLT, Int.reduceLE, Int.reduceAdd, Int.reduceSub, Int.reduceMul, reduceCtorEq, Bool.not_false, Bool.not_true, Bool.true_beq, Bool.false_beq, beq_self_eq_true, Bool.true_and]
            exact ⟨[], rfl, rfl, by simp -dsimp only [WeakTm, WeakBx, CLe, CLeL, push_cast, Int.ofNat_eq_natCast, ↓reduceIte, Nat.reduceAdd, Nat.reduceMul, Nat.reduceSub, Nat.reduceLeDiff, Nat.reduceEqDiff, Nat.reduceBEq, Int.reduceToNat, Nat.reduceLT, Int.reduceEq, Int.reduceLT, Int.reduceLE, Int.reduceAdd, Int.reduceSub, Int.reduceMul, reduceCtorEq, Bool.not_false, Bool.not_true, Bool.true_beq, Bool.false_beq, beq_self_eq_true, Bool.true_and, withV]⟩
end Go.Proofs.YtphiahlodjblcaaDoor.Vcg
set_option linter.unusedVariables false
set_option linter.unusedSimpArgs false
namespace Go.Proofs.YtphiahlodjblcaaDoor.Vcg
open Go.RowKit QuotePlain
def lastV (s p : List UInt8) : UInt8 := s.foldl (fun c b => if b ∈ p then b else c) 0
theorem lastV_snoc (s p : List UInt8) (i : Nat) (hi : i < s.length) : lastV (s.take (i + 1)) p = if s[i] ∈ p then s[i] else lastV (s.take i) p := by
  unfold lastV
  rw [List.take_add_one, List.getElem?_eq_getElem hi, List.foldl_append]
  simp
theorem last_fun (s p : List UInt8) (hs : s.length ≤ 1000000) (hp : p.length ≤ 1000000) : Fun Tryd.prog G0 34 [.str s, .str p] (u8C (lastV s p)) 0 := by
  refine Fun.of (fun _ => []) (by kernel_rfl) Tryd.func34 rfl rfl (Nat.le_of_ble_eq_true rfl) (by kernel_rfl) ?_; dsimp only [Tryd.f34, List.append_eq, List.cons_append, List.nil_append]
  simp -dsimp only [push_cast, Int.ofNat_eq_natCast, ↓reduceIte, Nat.reduceAdd, Nat.reduceMul, Nat.reduceSub, Nat.reduceLeDiff, Nat.reduceEqDiff, Nat.reduceBEq, Int.reduceToNat, Nat.reduceLT, Int.reduceEq, Int.reduceLT, Int.reduceLE, Int.reduceAdd, Int.reduceSub, Int.reduceMul, reduceCtorEq, Bool.not_false, Bool.not_true, Bool.true_beq, Bool.false_beq, beq_self_eq_true, Bool.true_and]
  refine loop (fun k : Nat => ⟨[(0, .str s), (1, .str p), (5, u8C (lastV (s.take k) p)), (6, .sc (.int .i64 k))], [], 0, 0⟩) (fun k => k ≤ s.length) (fun k => s.length - k) 0 (Nat.zero_le _) ?_ ?_
  · exact Weak.mk [] rfl rfl (Nat.le_refl _) rfl (by simp -dsimp only [WeakTm, WeakBx, CLe, CLeL, push_cast, Int.ofNat_eq_natCast, ↓reduceIte, Nat.reduceAdd, Nat.reduceMul, Nat.reduceSub, Nat.reduceLeDiff, Nat.reduceEqDiff, Nat.reduceBEq, Int.reduceToNat, Nat.reduceLT, Int.reduceEq, Int.reduceLT, Int.reduceLE, Int.reduceAdd, Int.reduceSub, Int.reduceMul, reduceCtorEq, Bool.not_false, Bool.not_true, Bool.true_beq, Bool.false_beq, beq_self_eq_true, Bool.true_and] <;> rfl) (by simp -dsimp only [WeakTm, WeakBx, CLe, CLeL, push_cast, Int.ofNat_eq_natCast, ↓reduceIte, Nat.reduceAdd, Nat.reduceMul, Nat.reduceSub, Nat.reduceLeDiff, Nat.reduceEqDiff, Nat.reduceBEq, Int.reduceToNat, Nat.reduceLT, Int.reduceEq, Int.reduceLT, Int.reduceLE, Int.reduceAdd, Int.reduceSub, Int.reduceMul, reduceCtorEq, Bool.not_false, Bool.not_true, Bool.true_beq, Bool.false_beq, beq_self_eq_true, Bool.true_and])
  · rintro k hk
    simp -dsimp only [push_cast, Int.ofNat_eq_natCast, ↓reduceIte, Nat.reduceAdd, Nat.reduceMul, Nat.reduceSub, Nat.reduceLeDiff, Nat.reduceEqDiff, Nat.reduceBEq, Int.reduceToNat, Nat.reduceLT, Int.reduceEq, Int.reduceLT, Int.reduceLE, Int.reduceAdd, Int.reduceSub, Int.reduceMul, reduceCtorEq, Bool.not_false, Bool.not_true, Bool.true_beq, Bool.false_beq, beq_self_eq_true, Bool.true_and]
    refine br (fun h => ?_) (fun h => ?_)
    · have hk2 : k < s.length := by simp at h; omega
      have hg : s[k]? = some s[k] := List.getElem?_eq_getElem hk2
      simp -dsimp only [push_cast, Int.ofNat_eq_natCast, ↓reduceIte, Nat.reduceAdd, Nat.reduceMul, Nat.reduceSub, Nat.reduceLeDiff, Nat.reduceEqDiff, Nat.reduceBEq, Int.reduceToNat, Nat.reduceLT, Int.reduceEq, Int.reduceLT, Int.reduceLE, Int.reduceAdd, Int.reduceSub, Int.reduceMul, reduceCtorEq, Bool.not_false, Bool.not_true, Bool.true_beq, Bool.false_beq, beq_self_eq_true, Bool.true_and, hg]
      refine ⟨by omega, ?_⟩
      (first | refine call (in_fun p s[k] hp) ?_ | refine callP (in_fun p s[k] hp) ?_); simp -dsimp only [push_cast, Int.ofNat_eq_natCast, ↓reduceIte, Nat.reduceAdd, Nat.reduceMul, Nat.reduceSub, Nat.reduceLeDiff, Nat.reduceEqDiff, Nat.reduceBEq, Int.reduceToNat, Nat.reduceLT, Int.reduceEq, Int.reduceLT, Int.reduceLE, Int.reduceAdd, Int.reduceSub, Int.reduceMul, reduceCtorEq, Bool.not_false, Bool.not_true, Bool.true_beq, Bool.false_beq, beq_self_eq_true, Bool.true_and]
      refine br (fun h2 => ?_) (fun h2 => ?_)
      · simp -dsimp only [push_cast, Int.ofNat_eq_natCast, ↓reduceIte, Nat.reduceAdd, Nat.reduceMul, Nat.reduceSub, Nat.reduceLeDiff, Nat.reduceEqDiff, Nat.reduceBEq, Int.reduceToNat, Nat.reduceLT, Int.reduceEq, Int.reduceLT, Int.reduceLE, Int.reduceAdd, Int.reduceSub, Int.reduceMul, reduceCtorEq, Bool.not_false, Bool.not_true, Bool.true_beq, Bool.false_beq, beq_self_eq_true, Bool.true_and, hg]
        have e : lastV (s.take (k + 1)) p = s[k] := by rw [lastV_snoc s p k hk2, if_pos (by simpa using h2)]
        refine ⟨by omega, by omega, k + 1, by omega, by omega, Weak.mk [] rfl rfl (Nat.le_refl _) rfl (by simp -dsimp only [WeakTm, WeakBx, CLe, CLeL, push_cast, Int.ofNat_eq_natCast, ↓reduceIte, Nat.reduceAdd, Nat.reduceMul, Nat.reduceSub, Nat.reduceLeDiff, Nat.reduceEqDiff, Nat.reduceBEq, Int.reduceToNat, Nat.reduceLT, Int.reduceEq, Int.reduceLT, Int.reduceLE, Int.reduceAdd, Int.reduceSub, Int.reduceMul, reduceCtorEq, Bool.not_false, Bool.not_true, Bool.true_beq, Bool.false_beq, beq_self_eq_true, Bool.true_and, e]) (by simp -dsimp only [WeakTm, WeakBx, CLe, CLeL, push_cast, Int.ofNat_eq_natCast, ↓reduceIte, Nat.reduceAdd, Nat.reduceMul, Nat.reduceSub, Nat.reduceLeDiff, Nat.reduceEqDiff, Nat.reduceBEq, Int.reduceToNat, Nat.reduceLT, Int.reduceEq, Int.reduceLT, Int.reduceLE, Int.reduceAdd, Int.reduceSub, Int.reduceMul, reduceCtorEq, Bool.not_false, Bool.not_true, Bool.true_beq, Bool.false_beq, beq_self_eq_true, Bool.true_and])⟩
      · simp -dsimp only [push_cast, Int.ofNat_eq_natCast, ↓reduceIte, Nat.reduceAdd, Nat.reduceMul, Nat.reduceSub, Nat.reduceLeDiff, Nat.reduceEqDiff, Nat.reduceBEq, Int.reduceToNat, Nat.reduceLT, Int.reduceEq, Int.reduceLT, Int.reduceLE, Int.reduceAdd, Int.reduceSub, Int.reduceMul, reduceCtorEq, Bool.not_false, Bool.not_true, Bool.true_beq, Bool.false_beq, beq_self_eq_true, Bool.true_and, hg]
        have e : lastV (s.take (k + 1)) p = lastV (s.take k) p := by rw [lastV_snoc s p k hk2, if_neg (by simpa using h2)]
        refine ⟨by omega, k + 1, by omega, by omega, Weak.mk [] rfl rfl (Nat.le_refl _) rfl (by simp -dsimp only [WeakTm, WeakBx, CLe, CLeL, push_cast, Int.ofNat_eq_natCast, ↓reduceIte, Nat.reduceAdd, Nat.reduceMul, Nat.reduceSub, Nat.reduceLeDiff, Nat.reduceEqDiff, Nat.reduceBEq, Int.reduceToNat, Nat.reduceLT, Int.reduceEq, Int.reduceLT, Int.reduceLE, Int.reduceAdd, Int.reduceSub, Int.reduceMul, reduceCtorEq, Bool.not_false, Bool.not_true, Bool.true_beq, Bool.false_beq, beq_self_eq_true, Bool.true_and, e]) (by simp -dsimp only [WeakTm, WeakBx, CLe, CLeL, push_cast, Int.ofNat_eq_natCast, ↓reduceIte, Nat.reduceAdd, Nat.reduceMul, Nat.reduceSub, Nat.reduceLeDiff, Nat.reduceEqDiff, Nat.reduceBEq, Int.reduceToNat, Nat.reduceLT, Int.reduceEq, Int.reduceLT, Int.reduceLE, Int.reduceAdd, Int.reduceSub, Int.reduceMul, reduceCtorEq, Bool.not_false, Bool.not_true, Bool.true_beq, Bool.false_beq, beq_self_eq_true, Bool.true_and])⟩
    · have hk2 : k = s.length := by simp at h; omega
      subst hk2
      rw [List.take_length]
      simp -dsimp only [push_cast, Int.ofNat_eq_natCast, ↓reduceIte, Nat.reduceAdd, Nat.reduceMul, Nat.reduceSub, Nat.reduceLeDiff, Nat.reduceEqDiff, Nat.reduceBEq, Int.reduceToNat, Nat.reduceLT, Int.reduceEq, Int.reduceLT, Int.reduceLE, Int.reduceAdd, Int.reduceSub, Int.reduceMul, reduceCtorEq, Bool.not_false, Bool.not_true, Bool.true_beq, Bool.false_beq, beq_self_eq_true, Bool.true_and]
      exact ⟨[], rfl, rfl, by simp -dsimp only [WeakTm, WeakBx, CLe, CLeL, push_cast, Int.ofNat_eq_natCast, ↓reduceIte, Nat.reduceAdd, Nat.reduceMul, Nat.reduceSub, Nat.reduceLeDiff, Nat.reduceEqDiff, Nat.reduceBEq, Int.reduceToNat, Nat.reduceLT, Int.reduceEq, Int.reduceLT, Int.reduceLE, Int.reduceAdd, Int.reduceSub, Int.reduceMul, reduceCtorEq, Bool.not_false, Bool.not_true, Bool.true_beq, Bool.false_beq, beq_self_eq_true, Bool.true_and]⟩
def isV (k : Int) (s : List UInt8) (x : UInt8) : Bool := if 4 ≤ k ∧ (x = 102 ∨ x = 110) then decide (lastV s [102, 110] = x) else if x = 114 then decide (114 ∈ s ∨ 82 ∈ s) else if x = 82 then false else decide (x ∈ s)
def optV (k : Int) (s : List UInt8) (n : Nat) : List UInt8 := ((List.range' 65 n).map UInt8.ofNat).filter (isV k s)
theorem options_fun (k : Int) (s : List UInt8) (hs : s.length ≤ 1000000) : Fun Tryd.prog G0 25 [.sc (.int .i64 k), .str s] (.str (optV k s 58)) 0 := by
  refine Fun.of (fun _ => []) (by kernel_rfl) Tryd.func25 rfl rfl (Nat.le_of_ble_eq_true rfl) (by kernel_rfl) ?_; dsimp only [Tryd.f25, List.append_eq, List.cons_append, List.nil_append]
  simp -dsimp only [push_cast, Int.ofNat_eq_natCast, ↓reduceIte, Nat.reduceAdd, Nat.reduceMul, Nat.reduceSub, Nat.reduceLeDiff, Nat.reduceEqDiff, Nat.reduceBEq, Int.reduceToNat, Nat.reduceLT, Int.reduceEq, Int.reduceLT, Int.reduceLE, Int.reduceAdd, Int.reduceSub, Int.reduceMul, reduceCtorEq, Bool.not_false, Bool.not_true, Bool.true_beq, Bool.false_beq, beq_self_eq_true, Bool.true_and]
  refine loop (fun j : Nat => ⟨[(0, .sc (.int .i64 k)), (1, .str s), (5, .str (optV k s j)), (6, .sc (.int .i64 (65 + j)))], [], 0, 0⟩) (fun j => j ≤ 58) (fun j => 58 - j) 0 (Nat.zero_le _) ?_ ?_
  · exact Weak.mk [] rfl rfl (Nat.le_refl _) rfl (by simp -dsimp only [WeakTm, WeakBx, CLe, CLeL, push_cast, Int.ofNat_eq_natCast, ↓reduceIte, Nat.reduceAdd, Nat.reduceMul, Nat.reduceSub, Nat.reduceLeDiff, Nat.reduceEqDiff, Nat.reduceBEq, Int.reduceToNat, Nat.reduceLT, Int.reduceEq, Int.reduceLT, Int.reduceLE, Int.reduceAdd, Int.reduceSub, Int.reduceMul, reduceCtorEq, Bool.not_false, Bool.not_true, Bool.true_beq, Bool.false_beq, beq_self_eq_true, Bool.true_and] <;> rfl) (by simp -dsimp only [WeakTm, WeakBx, CLe, CLeL, push_cast, Int.ofNat_eq_natCast, ↓reduceIte, Nat.reduceAdd, Nat.reduceMul, Nat.reduceSub, Nat.reduceLeDiff, Nat.reduceEqDiff, Nat.reduceBEq, Int.reduceToNat, Nat.reduceLT, Int.reduceEq, Int.reduceLT, Int.reduceLE, Int.reduceAdd, Int.reduceSub, Int.reduceMul, reduceCtorEq, Bool.not_false, Bool.not_true, Bool.true_beq, Bool.false_beq, beq_self_eq_true, Bool.true_and])
  · rintro j hj
    simp -dsimp only [push_cast, Int.ofNat_eq_natCast, ↓reduceIte, Nat.reduceAdd, Nat.reduceMul, Nat.reduceSub, Nat.reduceLeDiff, Nat.reduceEqDiff, Nat.reduceBEq, Int.reduceToNat, Nat.reduceLT, Int.reduceEq, Int.reduceLT, Int.reduceLE, Int.reduceAdd, Int.reduceSub, Int.reduceMul, reduceCtorEq, Bool.not_false, Bool.not_true, Bool.true_beq, Bool.false_beq, beq_self_eq_true, Bool.true_and]
    refine br (fun h => ?_) (fun h => ?_)
    · have hj2 : j < 58 := by simp at h; omega
      obtain ⟨x, hxe, hx⟩ : ∃ x : UInt8, UInt8.ofNat (65 + j) = x ∧ (65 + (j : Int)) = (x.toNat : Int) := ⟨_, rfl, by rw [UInt8.toNat_ofNat_of_lt' (by show 65 + j < 256; omega)]; omega⟩
      have hx1 : 65 + ((j : Int) + 1) = (x.toNat : Int) + 1 := by omega
      have hxb : (x.toNat : Int) < 123 := by omega
      have hstep : optV k s (j + 1) = optV k s j ++ if isV k s x then [x] else [] := by
        unfold optV
        rw [List.range'_concat, List.map_append, List.filter_append]
        simp only [List.map_cons, List.map_nil, Nat.one_mul, hxe, List.filter_cons, List.filter_nil]
      have hlo : (optV k s j).length ≤ j := Nat.le_trans (List.length_filter_le _ _) (by simp)
      have hI : ∀ (n : Nat) (d : UInt8), d.toNat = n → ((x.toNat : Int) = (n : Int)) = (x = d) := fun n d h => h ▸ u8_eq x d
      have hcase : (x = 82) ∨ (x = 114) ∨ (x ≠ 82 ∧ x ≠ 114 ∧ ¬ 4 ≤ k) ∨ (x = 102 ∧ 4 ≤ k) ∨ (x = 110 ∧ 4 ≤ k) ∨ (x ≠ 82 ∧ x ≠ 114 ∧ 4 ≤ k ∧ x ≠ 102 ∧ x ≠ 110) := by
        by_cases h1 : x = 82
        · exact .inl h1
        · by_cases h2 : x = 114
          · exact .inr (.inl h2)
          · by_cases h3 : 4 ≤ k
            · by_cases h4 : x = 102
              · exact .inr (.inr (.inr (.inl ⟨h4, h3⟩)))
              · by_cases h5 : x = 110
                · exact .inr (.inr (.inr (.inr (.inl ⟨h5, h3⟩))))
                · exact .inr (.inr (.inr (.inr (.inr ⟨h1, h2, h3, h4, h5⟩))))
            · exact .inr (.inr (.inl ⟨h1, h2, h3⟩))
      clear hxe
      rw [hx]
      simp -dsimp only [push_cast, Int.ofNat_eq_natCast, ↓reduceIte, Nat.reduceAdd, Nat.reduceMul, Nat.reduceSub, Nat.reduceLeDiff, Nat.reduceEqDiff, Nat.reduceBEq, Int.reduceToNat, Nat.reduceLT, Int.reduceEq, Int.reduceLT, Int.reduceLE, Int.reduceAdd, Int.reduceSub, Int.reduceMul, reduceCtorEq, Bool.not_false, Bool.not_true, Bool.true_beq, Bool.false_beq, beq_self_eq_true, Bool.true_and]
      refine ⟨by omega, ?_⟩
      (first | refine call (in_fun s x hs) ?_ | refine callP (in_fun s x hs) ?_); simp -dsimp only [push_cast, Int.ofNat_eq_natCast, ↓reduceIte, Nat.reduceAdd, Nat.reduceMul, Nat.reduceSub, Nat.reduceLeDiff, Nat.reduceEqDiff, Nat.reduceBEq, Int.reduceToNat, Nat.reduceLT, Int.reduceEq, Int.reduceLT, Int.reduceLE, Int.reduceAdd, Int.reduceSub, Int.reduceMul, reduceCtorEq, Bool.not_false, Bool.not_true, Bool.true_beq, Bool.false_beq, beq_self_eq_true, Bool.true_and]
      rcases hcase with hc | hc | hc | hc | hc | hc
      · have f0 : isV k s x = false := by simp [isV, hc]
        have e : optV k s (j + 1) = optV k s j := by rw [hstep, f0]; simp
        have f1 : ((x.toNat : Int) = 82) = True := (hI 82 82 rfl).trans (by simp [hc])
        have f2 : ((x.toNat : Int) = 114) = False := (hI 114 114 rfl).trans (by simp [hc])
        have f3 : ((x.toNat : Int) = 102) = False := (hI 102 102 rfl).trans (by simp [hc])
        have f4 : ((x.toNat : Int) = 110) = False := (hI 110 110 rfl).trans (by simp [hc])
        by_cases h4 : 4 ≤ k
        all_goals
          simp -dsimp only [push_cast, Int.ofNat_eq_natCast, ↓reduceIte, Nat.reduceAdd, Nat.reduceMul, Nat.reduceSub, Nat.reduceLeDiff, Nat.reduceEqDiff, Nat.reduceBEq, Int.reduceToNat, Nat.reduceLT, Int.reduceEq, Int.reduceLT, Int.reduceLE, Int.reduceAdd, Int.reduceSub, Int.reduceMul, reduceCtorEq, Bool.not_false, Bool.not_true, Bool.true_beq, Bool.false_beq, beq_self_eq_true, Bool.true_and, f1, f2, f3, f4, h4]
          repeat (refine And.intro (by omega) ?_)
          refine ⟨j + 1, by omega, by omega, Weak.mk [] rfl rfl (Nat.le_refl _) rfl (by simp -dsimp only [WeakTm, WeakBx, CLe, CLeL, push_cast, Int.ofNat_eq_natCast, ↓reduceIte, Nat.reduceAdd, Nat.reduceMul, Nat.reduceSub, Nat.reduceLeDiff, Nat.reduceEqDiff, Nat.reduceBEq, Int.reduceToNat, Nat.reduceLT, Int.reduceEq, Int.reduceLT, Int.reduceLE, Int.reduceAdd, Int.reduceSub, Int.reduceMul, reduceCtorEq, Bool.not_false, Bool.not_true, Bool.true_beq, Bool.false_beq, beq_self_eq_true, Bool.true_and, e, hx1]) (by simp -dsimp only [WeakTm, WeakBx, CLe, CLeL, push_cast, Int.ofNat_eq_natCast, ↓reduceIte, Nat.reduceAdd, Nat.reduceMul, Nat.reduceSub, Nat.reduceLeDiff, Nat.reduceEqDiff, Nat.reduceBEq, Int.reduceToNat, Nat.reduceLT, Int.reduceEq, Int.reduceLT, Int.reduceLE, Int.reduceAdd, Int.reduceSub, Int.reduceMul, reduceCtorEq, Bool.not_false, Bool.not_true, Bool.true_beq, Bool.false_beq, beq_self_eq_true, Bool.true_and])⟩
      · have f0 : isV k s x = decide (114 ∈ s ∨ 82 ∈ s) := by simp [isV, hc]
        have f1 : ((x.toNat : Int) = 82) = False := (hI 82 82 rfl).trans (by simp [hc])
        have f2 : ((x.toNat : Int) = 114) = True := (hI 114 114 rfl).trans (by simp [hc])
        have f3 : ((x.toNat : Int) = 102) = False := (hI 102 102 rfl).trans (by simp [hc])
        have f4 : ((x.toNat : Int) = 110) = False := (hI 110 110 rfl).trans (by simp [hc])
        simp -dsimp only [push_cast, Int.ofNat_eq_natCast, ↓reduceIte, Nat.reduceAdd, Nat.reduceMul, Nat.reduceSub, Nat.reduceLeDiff, Nat.reduceEqDiff, Nat.reduceBEq, Int.reduceToNat, Nat.reduceLT, Int.reduceEq, Int.reduceLT, Int.reduceLE, Int.reduceAdd, Int.reduceSub, Int.reduceMul, reduceCtorEq, Bool.not_false, Bool.not_true, Bool.true_beq, Bool.false_beq, beq_self_eq_true, Bool.true_and, f1, f2, f3, f4]
        (first | refine call (in_fun s 114 hs) ?_ | refine callP (in_fun s 114 hs) ?_); simp -dsimp only [push_cast, Int.ofNat_eq_natCast, ↓reduceIte, Nat.reduceAdd, Nat.reduceMul, Nat.reduceSub, Nat.reduceLeDiff, Nat.reduceEqDiff, Nat.reduceBEq, Int.reduceToNat, Nat.reduceLT, Int.reduceEq, Int.reduceLT, Int.reduceLE, Int.reduceAdd, Int.reduceSub, Int.reduceMul, reduceCtorEq, Bool.not_false, Bool.not_true, Bool.true_beq, Bool.false_beq, beq_self_eq_true, Bool.true_and]
        by_cases h6 : 114 ∈ s
        · simp -dsimp only [push_cast, Int.ofNat_eq_natCast, ↓reduceIte, Nat.reduceAdd, Nat.reduceMul, Nat.reduceSub, Nat.reduceLeDiff, Nat.reduceEqDiff, Nat.reduceBEq, Int.reduceToNat, Nat.reduceLT, Int.reduceEq, Int.reduceLT, Int.reduceLE, Int.reduceAdd, Int.reduceSub, Int.reduceMul, reduceCtorEq, Bool.not_false, Bool.not_true, Bool.true_beq, Bool.false_beq, beq_self_eq_true, Bool.true_and, h6]
          have e : optV k s (j + 1) = optV k s j ++ [x] := by rw [hstep, f0]; simp [h6]
          by_cases h4 : 4 ≤ k
          all_goals
            simp -dsimp only [push_cast, Int.ofNat_eq_natCast, ↓reduceIte, Nat.reduceAdd, Nat.reduceMul, Nat.reduceSub, Nat.reduceLeDiff, Nat.reduceEqDiff, Nat.reduceBEq, Int.reduceToNat, Nat.reduceLT, Int.reduceEq, Int.reduceLT, Int.reduceLE, Int.reduceAdd, Int.reduceSub, Int.reduceMul, reduceCtorEq, Bool.not_false, Bool.not_true, Bool.true_beq, Bool.false_beq, beq_self_eq_true, Bool.true_and, f1, f2, f3, f4, h4]
            refine ⟨[x], rfl, ?_⟩
            simp -dsimp only [push_cast, Int.ofNat_eq_natCast, ↓reduceIte, Nat.reduceAdd, Nat.reduceMul, Nat.reduceSub, Nat.reduceLeDiff, Nat.reduceEqDiff, Nat.reduceBEq, Int.reduceToNat, Nat.reduceLT, Int.reduceEq, Int.reduceLT, Int.reduceLE, Int.reduceAdd, Int.reduceSub, Int.reduceMul, reduceCtorEq, Bool.not_false, Bool.not_true, Bool.true_beq, Bool.false_beq, beq_self_eq_true, Bool.true_and]
            repeat (refine And.intro (by omega) ?_)
            refine ⟨j + 1, by omega, by omega, Weak.mk [] rfl rfl (Nat.le_refl _) rfl (by simp -dsimp only [WeakTm, WeakBx, CLe, CLeL, push_cast, Int.ofNat_eq_natCast, ↓reduceIte, Nat.reduceAdd, Nat.reduceMul, Nat.reduceSub, Nat.reduceLeDiff, Nat.reduceEqDiff, Nat.reduceBEq, Int.reduceToNat, Nat.reduceLT, Int.reduceEq, Int.reduceLT, Int.reduceLE, Int.reduceAdd, Int.reduceSub, Int.reduceMul, reduceCtorEq, Bool.not_false, Bool.not_true, Bool.true_beq, Bool.false_beq, beq_self_eq_true, Bool.true_and, e, hx1]) (by simp -dsimp only [WeakTm, WeakBx, CLe, CLeL, push_cast, Int.ofNat_eq_natCast, ↓reduceIte, Nat.reduceAdd, Nat.reduceMul, Nat.reduceSub, Nat.reduceLeDiff, Nat.reduceEqDiff, Nat.reduceBEq, Int.reduceToNat, Nat.reduceLT, Int.reduceEq, Int.reduceLT, Int.reduceLE, Int.reduceAdd, Int.reduceSub, Int.reduceMul, reduceCtorEq, Bool.not_false, Bool.not_true, Bool.true_beq, Bool.false_beq, beq_self_eq_true, Bool.true_and])⟩
        · simp -dsimp only [push_cast, Int.ofNat_eq_natCast, ↓reduceIte, Nat.reduceAdd, Nat.reduceMul, Nat.reduceSub, Nat.reduceLeDiff, Nat.reduceEqDiff, Nat.reduceBEq, Int.reduceToNat, Nat.reduceLT, Int.reduceEq, Int.reduceLT, Int.reduceLE, Int.reduceAdd, Int.reduceSub, Int.reduceMul, reduceCtorEq, Bool.not_false, Bool.not_true, Bool.true_beq, Bool.false_beq, beq_self_eq_true, Bool.true_and, h6]
          (first | refine call (in_fun s 82 hs) ?_ | refine callP (in_fun s 82 hs) ?_); simp -dsimp only [push_cast, Int.ofNat_eq_natCast, ↓reduceIte, Nat.reduceAdd, Nat.reduceMul, Nat.reduceSub, Nat.reduceLeDiff, Nat.reduceEqDiff, Nat.reduceBEq, Int.reduceToNat, Nat.reduceLT, Int.reduceEq, Int.reduceLT, Int.reduceLE, Int.reduceAdd, Int.reduceSub, Int.reduceMul, reduceCtorEq, Bool.not_false, Bool.not_true, Bool.true_beq, Bool.false_beq, beq_self_eq_true, Bool.true_and]
          by_cases h7 : 82 ∈ s
          · have e : optV k s (j + 1) = optV k s j ++ [x] := by rw [hstep, f0]; simp [h7]
            by_cases h4 : 4 ≤ k
            all_goals
              simp -dsimp only [push_cast, Int.ofNat_eq_natCast, ↓reduceIte, Nat.reduceAdd, Nat.reduceMul, Nat.reduceSub, Nat.reduceLeDiff, Nat.reduceEqDiff, Nat.reduceBEq, Int.reduceToNat, Nat.reduceLT, Int.reduceEq, Int.reduceLT, Int.reduceLE, Int.reduceAdd, Int.reduceSub, Int.reduceMul, reduceCtorEq, Bool.not_false, Bool.not_true, Bool.true_beq, Bool.false_beq, beq_self_eq_true, Bool.true_and, f1, f2, f3, f4, h4, h7]
              refine ⟨[x], rfl, ?_⟩
              simp -dsimp only [push_cast, Int.ofNat_eq_natCast, ↓reduceIte, Nat.reduceAdd, Nat.reduceMul, Nat.reduceSub, Nat.reduceLeDiff, Nat.reduceEqDiff, Nat.reduceBEq, Int.reduceToNat, Nat.reduceLT, Int.reduceEq, Int.reduceLT, Int.reduceLE, Int.reduceAdd, Int.reduceSub, Int.reduceMul, reduceCtorEq, Bool.not_false, Bool.not_true, Bool.true_beq, Bool.false_beq, beq_self_eq_true, Bool.true_and]
              repeat (refine And.intro (by omega) ?_)
              refine ⟨j + 1, by omega, by omega, Weak.mk [] rfl rfl (Nat.le_refl _) rfl (by simp -dsimp only [WeakTm, WeakBx, CLe, CLeL, push_cast, Int.ofNat_eq_natCast, ↓reduceIte, Nat.reduceAdd, Nat.reduceMul, Nat.reduceSub, Nat.reduceLeDiff, Nat.reduceEqDiff, Nat.reduceBEq, Int.reduceToNat, Nat.reduceLT, Int.reduceEq, Int.reduceLT, Int.reduceLE, Int.reduceAdd, Int.reduceSub, Int.reduceMul, reduceCtorEq, Bool.not_false, Bool.not_true, Bool.true_beq, Bool.false_beq, beq_self_eq_true, Bool.true_and, e, hx1]) (by simp -dsimp only [WeakTm, WeakBx, CLe, CLeL, push_cast, Int.ofNat_eq_natCast, ↓reduceIte, Nat.reduceAdd, Nat.reduceMul, Nat.reduceSub, Nat.reduceLeDiff, Nat.reduceEqDiff, Nat.reduceBEq, Int.reduceToNat, Nat.reduceLT, Int.reduceEq, Int.reduceLT, Int.reduceLE, Int.reduceAdd, Int.reduceSub, Int.reduceMul, reduceCtorEq, Bool.not_false, Bool.not_true, Bool.true_beq, Bool.false_beq, beq_self_eq_true, Bool.true_and])⟩
          · have e : optV k s (j + 1) = optV k s j := by rw [hstep, f0]; simp [h6, h7]
            by_cases h4 : 4 ≤ k
            all_goals
              simp -dsimp only [push_cast, Int.ofNat_eq_natCast, ↓reduceIte, Nat.reduceAdd, Nat.reduceMul, Nat.reduceSub, Nat.reduceLeDiff, Nat.reduceEqDiff, Nat.reduceBEq, Int.reduceToNat, Nat.reduceLT, Int.reduceEq, Int.reduceLT, Int.reduceLE, Int.reduceAdd, Int.reduceSub, Int.reduceMul, reduceCtorEq, Bool.not_false, Bool.not_true, Bool.true_beq, Bool.false_beq, beq_self_eq_true, Bool.true_and, f1, f2, f3, f4, h4, h7]
              repeat (refine And.intro (by omega) ?_)
              refine ⟨j + 1, by omega, by omega, Weak.mk [] rfl rfl (Nat.le_refl _) rfl (by simp -dsimp only [WeakTm, WeakBx, CLe, CLeL, push_cast, Int.ofNat_eq_natCast, ↓reduceIte, Nat.reduceAdd, Nat.reduceMul, Nat.reduceSub, Nat.reduceLeDiff, Nat.reduceEqDiff, Nat.reduceBEq, Int.reduceToNat, Nat.reduceLT, Int.reduceEq, Int.reduceLT, Int.reduceLE, Int.reduceAdd, Int.reduceSub, Int.reduceMul, reduceCtorEq, Bool.not_false, Bool.not_true, Bool.true_beq, Bool.false_beq, beq_self_eq_true, Bool.true_and, e, hx1]) (by simp -dsimp only [WeakTm, WeakBx, CLe, CLeL, push_cast, Int.ofNat_eq_natCast, ↓reduceIte, Nat.reduceAdd, Nat.reduceMul, Nat.reduceSub, Nat.reduceLeDiff, Nat.reduceEqDiff, Nat.reduceBEq, Int.reduceToNat, Nat.reduceLT, Int.reduceEq, Int.reduceLT, Int.reduceLE, Int.reduceAdd, Int.reduceSub, Int.reduceMul, reduceCtorEq, Bool.not_false, Bool.not_true, Bool.true_beq, Bool.false_beq, beq_self_eq_true, Bool.true_and])⟩
      · have f0 : isV k s x = decide (x ∈ s) := by simp [isV, hc]
        have h4 : ¬ 4 ≤ k := hc.2.2
        have f1 : ((x.toNat : Int) = 82) = False := (hI 82 82 rfl).trans (by simp [hc])
        have f2 : ((x.toNat : Int) = 114) = False := (hI 114 114 rfl).trans (by simp [hc])
        by_cases h6 : x ∈ s
        · have e : optV k s (j + 1) = optV k s j ++ [x] := by rw [hstep, f0]; simp [h6]
          simp -dsimp only [push_cast, Int.ofNat_eq_natCast, ↓reduceIte, Nat.reduceAdd, Nat.reduceMul, Nat.reduceSub, Nat.reduceLeDiff, Nat.reduceEqDiff, Nat.reduceBEq, Int.reduceToNat, Nat.reduceLT, Int.reduceEq, Int.reduceLT, Int.reduceLE, Int.reduceAdd, Int.reduceSub, Int.reduceMul, reduceCtorEq, Bool.not_false, Bool.not_true, Bool.true_beq, Bool.false_beq, beq_self_eq_true, Bool.true_and, f1, f2, h4, h6]
          refine ⟨[x], rfl, ?_⟩
          simp -dsimp only [push_cast, Int.ofNat_eq_natCast, ↓reduceIte, Nat.reduceAdd, Nat.reduceMul, Nat.reduceSub, Nat.reduceLeDiff, Nat.reduceEqDiff, Nat.reduceBEq, Int.reduceToNat, Nat.reduceLT, Int.reduceEq, Int.reduceLT, Int.reduceLE, Int.reduceAdd, Int.reduceSub, Int.reduceMul, reduceCtorEq, Bool.not_false, Bool.not_true, Bool.true_beq, Bool.false_beq, beq_self_eq_true, Bool.true_and]
          repeat (refine And.intro (by omega) ?_)
          refine ⟨j + 1, by omega, by omega, Weak.mk [] rfl rfl (Nat.le_refl _) rfl (by simp -dsimp only [WeakTm, WeakBx, CLe, CLeL, push_cast, Int.ofNat_eq_natCast, ↓reduceIte, Nat.reduceAdd, Nat.reduceMul, Nat.reduceSub, Nat.reduceLeDiff, Nat.reduceEqDiff, Nat.reduceBEq, Int.reduceToNat, Nat.reduceLT, Int.reduceEq, Int.reduceLT, Int.reduceLE, Int.reduceAdd, Int.reduceSub, Int.reduceMul, reduceCtorEq, Bool.not_false, Bool.not_true, Bool.true_beq, Bool.false_beq, beq_self_eq_true, Bool.true_and, e, hx1]) (by simp -dsimp only [WeakTm, WeakBx, CLe, CLeL, push_cast, Int.ofNat_eq_natCast, ↓reduceIte, Nat.reduceAdd, Nat.reduceMul, Nat.reduceSub, Nat.reduceLeDiff, Nat.reduceEqDiff, Nat.reduceBEq, Int.reduceToNat, Nat.reduceLT, Int.reduceEq, Int.reduceLT, Int.reduceLE, Int.reduceAdd, Int.reduceSub, Int.reduceMul, reduceCtorEq, Bool.not_false, Bool.not_true, Bool.true_beq, Bool.false_beq, beq_self_eq_true, Bool.true_and])⟩
        · have e : optV k s (j + 1) = optV k s j := by rw [hstep, f0]; simp [h6]
          simp -dsimp only [push_cast, Int.ofNat_eq_natCast, ↓reduceIte, Nat.reduceAdd, Nat.reduceMul, Nat.reduceSub, Nat.reduceLeDiff, Nat.reduceEqDiff, Nat.reduceBEq, Int.reduceToNat, Nat.reduceLT, Int.reduceEq, Int.reduceLT, Int.reduceLE, Int.reduceAdd, Int.reduceSub, Int.reduceMul, reduceCtorEq, Bool.not_false, Bool.not_true, Bool.true_beq, Bool.false_beq, beq_self_eq_true, Bool.true_and, f1, f2, h4, h6]
          repeat (refine And.intro (by omega) ?_)
          refine ⟨j + 1, by omega, by omega, Weak.mk [] rfl rfl (Nat.le_refl _) rfl (by simp -dsimp only [WeakTm, WeakBx, CLe, CLeL, push_cast, Int.ofNat_eq_natCast, ↓reduceIte, Nat.reduceAdd, Nat.reduceMul, Nat.reduceSub, Nat.reduceLeDiff, Nat.reduceEqDiff, Nat.reduceBEq, Int.reduceToNat, Nat.reduceLT, Int.reduceEq, Int.reduceLT, Int.reduceLE, Int.reduceAdd, Int.reduceSub, Int.reduceMul, reduceCtorEq, Bool.not_false, Bool.not_true, Bool.true_beq, Bool.false_beq, beq_self_eq_true, Bool.true_and, e, hx1]) (by simp -dsimp only [WeakTm, WeakBx, CLe, CLeL, push_cast, Int.ofNat_eq_natCast, ↓reduceIte, Nat.reduceAdd, Nat.reduceMul, Nat.reduceSub, Nat.reduceLeDiff, Nat.reduceEqDiff, Nat.reduceBEq, Int.reduceToNat, Nat.reduceLT, Int.reduceEq, Int.reduceLT, Int.reduceLE, Int.reduceAdd, Int.reduceSub, Int.reduceMul, reduceCtorEq, Bool.not_false, Bool.not_true, Bool.true_beq, Bool.false_beq, beq_self_eq_true, Bool.true_and])⟩
      · have f0 : isV k s x = decide (lastV s [102, 110] = x) := by simp [isV, hc]
        have h4 : 4 ≤ k := hc.2
        have f1 : ((x.toNat : Int) = 82) = False := (hI 82 82 rfl).trans (by simp [hc])
        have f2 : ((x.toNat : Int) = 114) = False := (hI 114 114 rfl).trans (by simp [hc])
        have f3 : ((x.toNat : Int) = 102) = True := (hI 102 102 rfl).trans (by simp [hc])
        have f4 : ((x.toNat : Int) = 110) = False := (hI 110 110 rfl).trans (by simp [hc])
        simp -dsimp only [push_cast, Int.ofNat_eq_natCast, ↓reduceIte, Nat.reduceAdd, Nat.reduceMul, Nat.reduceSub, Nat.reduceLeDiff, Nat.reduceEqDiff, Nat.reduceBEq, Int.reduceToNat, Nat.reduceLT, Int.reduceEq, Int.reduceLT, Int.reduceLE, Int.reduceAdd, Int.reduceSub, Int.reduceMul, reduceCtorEq, Bool.not_false, Bool.not_true, Bool.true_beq, Bool.false_beq, beq_self_eq_true, Bool.true_and, f1, f2, f3, f4, h4]
        (first | refine call (last_fun s [102, 110] hs (by simp)) ?_ | refine callP (last_fun s [102, 110] hs (by simp)) ?_); simp -dsimp only [push_cast, Int.ofNat_eq_natCast, ↓reduceIte, Nat.reduceAdd, Nat.reduceMul, Nat.reduceSub, Nat.reduceLeDiff, Nat.reduceEqDiff, Nat.reduceBEq, Int.reduceToNat, Nat.reduceLT, Int.reduceEq, Int.reduceLT, Int.reduceLE, Int.reduceAdd, Int.reduceSub, Int.reduceMul, reduceCtorEq, Bool.not_false, Bool.not_true, Bool.true_beq, Bool.false_beq, beq_self_eq_true, Bool.true_and]
        by_cases h6 : lastV s [102, 110] = x
        · have g6 : ((lastV s [102, 110]).toNat = x.toNat) = True := by simp [h6]
          have e : optV k s (j + 1) = optV k s j ++ [x] := by rw [hstep, f0]; simp [h6]
          simp -dsimp only [push_cast, Int.ofNat_eq_natCast, ↓reduceIte, Nat.reduceAdd, Nat.reduceMul, Nat.reduceSub, Nat.reduceLeDiff, Nat.reduceEqDiff, Nat.reduceBEq, Int.reduceToNat, Nat.reduceLT, Int.reduceEq, Int.reduceLT, Int.reduceLE, Int.reduceAdd, Int.reduceSub, Int.reduceMul, reduceCtorEq, Bool.not_false, Bool.not_true, Bool.true_beq, Bool.false_beq, beq_self_eq_true, Bool.true_and, g6]
          refine ⟨[x], rfl, ?_⟩
          simp -dsimp only [push_cast, Int.ofNat_eq_natCast, ↓reduceIte, Nat.reduceAdd, Nat.reduceMul, Nat.reduceSub, Nat.reduceLeDiff, Nat.reduceEqDiff, Nat.reduceBEq, Int.reduceToNat, Nat.reduceLT, Int.reduceEq, Int.reduceLT, Int.reduceLE, Int.reduceAdd, Int.reduceSub, Int.reduceMul, reduceCtorEq, Bool.not_false, Bool.not_true, Bool.true_beq, Bool.false_beq, beq_self_eq_true, Bool.true_and]
          repeat (refine And.intro (by omega) ?_)
          refine ⟨j + 1, by omega, by omega, Weak.mk [] rfl rfl (Nat.le_refl _) rfl (by simp -dsimp only [WeakTm, WeakBx, CLe, CLeL, push_cast, Int.ofNat_eq_natCast, ↓reduceIte, Nat.reduceAdd, Nat.reduceMul, Nat.reduceSub, Nat.reduceLeDiff, Nat.reduceEqDiff, Nat.reduceBEq, Int.reduceToNat, Nat.reduceLT, Int.reduceEq, Int.reduceLT, Int.reduceLE, Int.reduceAdd, Int.reduceSub, Int.reduceMul, reduceCtorEq, Bool.not_false, Bool.not_true, Bool.true_beq, Bool.false_beq, beq_self_eq_true, Bool.true_and, e, hx1]) (by simp -dsimp only [WeakTm, WeakBx, CLe, CLeL, push_cast, Int.ofNat_eq_natCast, ↓reduceIte, Nat.reduceAdd, Nat.reduceMul, Nat.reduceSub, Nat.reduceLeDiff, Nat.reduceEqDiff, Nat.reduceBEq, Int.reduceToNat, Nat.reduceLT, Int.reduceEq, Int.reduceLT, Int.reduceLE, Int.reduceAdd, Int.reduceSub, Int.reduceMul, reduceCtorEq, Bool.not_false, Bool.not_true, Bool.true_beq, Bool.false_beq, beq_self_eq_true, Bool.true_and])⟩
        · have g6 : ((lastV s [102, 110]).toNat = x.toNat) = False := by simp [UInt8.toNat_inj, h6]
          have e : optV k s (j + 1) = optV k s j := by rw [hstep, f0]; simp [h6]
          simp -dsimp only [push_cast, Int.ofNat_eq_natCast, ↓reduceIte, Nat.reduceAdd, Nat.reduceMul, Nat.reduceSub, Nat.reduceLeDiff, Nat.reduceEqDiff, Nat.reduceBEq, Int.reduceToNat, Nat.reduceLT, Int.reduceEq, Int.reduceLT, Int.reduceLE, Int.reduceAdd, Int.reduceSub, Int.reduceMul, reduceCtorEq, Bool.not_false, Bool.not_true, Bool.true_beq, Bool.false_beq, beq_self_eq_true, Bool.true_and, g6]
          repeat (refine And.intro (by omega) ?_)
          refine ⟨j + 1, by omega, by omega, Weak.mk [] rfl rfl (Nat.le_refl _) rfl (by simp -dsimp only [WeakTm, WeakBx, CLe, CLeL, push_cast, Int.ofNat_eq_natCast, ↓reduceIte, Nat.reduceAdd, Nat.reduceMul, Nat.reduceSub, Nat.reduceLeDiff, Nat.reduceEqDiff, Nat.reduceBEq, Int.reduceToNat, Nat.reduceLT, Int.reduceEq, Int.reduceLT, Int.reduceLE, Int.reduceAdd, Int.reduceSub, Int.reduceMul, reduceCtorEq, Bool.not_false, Bool.not_true, Bool.true_beq, Bool.false_beq, beq_self_eq_true, Bool.true_and, e, hx1]) (by simp -dsimp only [WeakTm, WeakBx, CLe, CLeL, push_cast, Int.ofNat_eq_natCast, ↓reduceIte, Nat.reduceAdd, Nat.reduceMul, Nat.reduceSub, Nat.reduceLeDiff, Nat.reduceEqDiff, Nat.reduceBEq, Int.reduceToNat, Nat.reduceLT, Int.reduceEq, Int.reduceLT, Int.reduceLE, Int.reduceAdd, Int.reduceSub, Int.reduceMul, reduceCtorEq, Bool.not_false, Bool.not_true, Bool.true_beq, Bool.false_beq, beq_self_eq_true, Bool.true_and])⟩
      · have f0 : isV k s x = decide (lastV s [102, 110] = x) := by simp [isV, hc]
        have h4 : 4 ≤ k := hc.2
        have f1 : ((x.toNat : Int) = 82) = False := (hI 82 82 rfl).trans (by simp [hc])
        have f2 : ((x.toNat : Int) = 114) = False := (hI 114 114 rfl).trans (by simp [hc])
        have f3 : ((x.toNat : Int) = 102) = False := (hI 102 102 rfl).trans (by simp [hc])
        have f4 : ((x.toNat : Int) = 110) = True := (hI 110 110 rfl).trans (by simp [hc])
        simp -dsimp only [push_cast, Int.ofNat_eq_natCast, ↓reduceIte, Nat.reduceAdd, Nat.reduceMul, Nat.reduceSub, Nat.reduceLeDiff, Nat.reduceEqDiff, Nat.reduceBEq, Int.reduceToNat, Nat.reduceLT, Int.reduceEq, Int.reduceLT, Int.reduceLE, Int.reduceAdd, Int.reduceSub, Int.reduceMul, reduceCtorEq, Bool.not_false, Bool.not_true, Bool.true_beq, Bool.false_beq, beq_self_eq_true, Bool.true_and, f1, f2, f3, f4, h4]
        (first | refine call (last_fun s [102, 110] hs (by simp)) ?_ | refine callP (last_fun s [102, 110] hs (by simp)) ?_); simp -dsimp only [push_cast, Int.ofNat_eq_natCast, ↓reduceIte, Nat.reduceAdd, Nat.reduceMul, Nat.reduceSub, Nat.reduceLeDiff, Nat.reduceEqDiff, Nat.reduceBEq, Int.reduceToNat, Nat.reduceLT, Int.reduceEq, Int.reduceLT, Int.reduceLE, Int.reduceAdd, Int.reduceSub, Int.reduceMul, reduceCtorEq, Bool.not_false, Bool.not_true, Bool.true_beq, Bool.false_beq, beq_self_eq_true, Bool.true_and]
        by_cases h6 : lastV s [102, 110] = x
        · have g6 : ((lastV s [102, 110]).toNat = x.toNat) = True := by simp [h6]
          have e : optV k s (j + 1) = optV k s j ++ [x] := by rw [hstep, f0]; simp [h6]
          simp -dsimp only [push_cast, Int.ofNat_eq_natCast, ↓reduceIte, Nat.reduceAdd, Nat.reduceMul, Nat.reduceSub, Nat.reduceLeDiff, Nat.reduceEqDiff, Nat.reduceBEq, Int.reduceToNat, Nat.reduceLT, Int.reduceEq, Int.reduceLT, Int.reduceLE, Int.reduceAdd, Int.reduceSub, Int.reduceMul, reduceCtorEq, Bool.not_false, Bool.not_true, Bool.true_beq, Bool.false_beq, beq_self_eq_true, Bool.true_and, g6]
          refine ⟨[x], rfl, ?_⟩
          simp -dsimp only [push_cast, Int.ofNat_eq_natCast, ↓reduceIte, Nat.reduceAdd, Nat.reduceMul, Nat.reduceSub, Nat.reduceLeDiff, Nat.reduceEqDiff, Nat.reduceBEq, Int.reduceToNat, Nat.reduceLT, Int.reduceEq, Int.reduceLT, Int.reduceLE, Int.reduceAdd, Int.reduceSub, Int.reduceMul, reduceCtorEq, Bool.not_false, Bool.not_true, Bool.true_beq, Bool.false_beq, beq_self_eq_true, Bool.true_and]
          repeat (refine And.intro (by omega) ?_)
          refine ⟨j + 1, by omega, by omega, Weak.mk [] rfl rfl (Nat.le_refl _) rfl (by simp -dsimp only [WeakTm, WeakBx, CLe, CLeL, push_cast, Int.ofNat_eq_natCast, ↓reduceIte, Nat.reduceAdd, Nat.reduceMul, Nat.reduceSub, Nat.reduceLeDiff, Nat.reduceEqDiff, Nat.reduceBEq, Int.reduceToNat, Nat.reduceLT, Int.reduceEq, Int.reduceLT, Int.reduceLE, Int.reduceAdd, Int.reduceSub, Int.reduceMul, reduceCtorEq, Bool.not_false, Bool.not_true, Bool.true_beq, Bool.false_beq, beq_self_eq_true, Bool.true_and, e, hx1]) (by simp -dsimp only [WeakTm, WeakBx, CLe, CLeL, push_cast, Int.ofNat_eq_natCast, ↓reduceIte, Nat.reduceAdd, Nat.reduceMul, Nat.reduceSub, Nat.reduceLeDiff, Nat.reduceEqDiff, Nat.reduceBEq, Int.reduceToNat, Nat.reduceLT, Int.reduceEq, Int.reduceLT, Int.reduceLE, Int.reduceAdd, Int.reduceSub, Int.reduceMul, reduceCtorEq, Bool.not_false, Bool.not_true, Bool.true_beq, Bool.false_beq, beq_self_eq_true, Bool.true_and])⟩
        · have g6 : ((lastV s [102, 110]).toNat = x.toNat) = False := by simp [UInt8.toNat_inj, h6]
          have e : optV k s (j + 1) = optV k s j := by rw [hstep, f0]; simp [h6]
          simp -dsimp only [push_cast, Int.ofNat_eq_natCast, ↓reduceIte, Nat.reduceAdd, Nat.reduceMul, Nat.reduceSub, Nat.reduceLeDiff, Nat.reduceEqDiff, Nat.reduceBEq, Int.reduceToNat, Nat.reduceLT, Int.reduceEq, Int.reduceLT, Int.reduceLE, Int.reduceAdd, Int.reduceSub, Int.reduceMul, reduceCtorEq, Bool.not_false, Bool.not_true, Bool.true_beq, Bool.false_beq, beq_self_eq_true, Bool.true_and, g6]
          repeat (refine And.intro (by omega) ?_)
          refine ⟨j + 1, by omega, by omega, Weak.mk [] rfl rfl (Nat.le_refl _) rfl (by simp -dsimp only [WeakTm, WeakBx, CLe, CLeL, push_cast, Int.ofNat_eq_natCast, ↓reduceIte, Nat.reduceAdd, Nat.reduceMul, Nat.reduceSub, Nat.reduceLeDiff, Nat.reduceEqDiff, Nat.reduceBEq, Int.reduceToNat, Nat.reduceLT, Int.reduceEq, Int.reduceLT, Int.reduceLE, Int.reduceAdd, Int.reduceSub, Int.reduceMul, reduceCtorEq, Bool.not_false, Bool.not_true, Bool.true_beq, Bool.false_beq, beq_self_eq_true, Bool.true_and, e, hx1]) (by simp -dsimp only [WeakTm, WeakBx, CLe, CLeL, push_cast, Int.ofNat_eq_natCast, ↓reduceIte, Nat.reduceAdd, Nat.reduceMul, Nat.reduceSub, Nat.reduceLeDiff, Nat.reduceEqDiff, Nat.reduceBEq, Int.reduceToNat, Nat.reduceLT, Int.reduceEq, Int.reduceLT, Int.reduceLE, Int.reduceAdd, Int.reduceSub, Int.reduceMul, reduceCtorEq, Bool.not_false, Bool.not_true, Bool.true_beq, Bool.false_beq, beq_self_eq_true, Bool.true_and])⟩
      · have f0 : isV k s x = decide (x ∈ s) := by simp [isV, hc]
        have h4 : 4 ≤ k := hc.2.2.1
        have f1 : ((x.toNat : Int) = 82) = False := (hI 82 82 rfl).trans (by simp [hc])
        have f2 : ((x.toNat : Int) = 114) = False := (hI 114 114 rfl).trans (by simp [hc])
        have f3 : ((x.toNat : Int) = 102) = False := (hI 102 102 rfl).trans (by simp [hc])
        have f4 : ((x.toNat : Int) = 110) = False := (hI 110 110 rfl).trans (by simp [hc])
        by_cases h6 : x ∈ s
        · have e : optV k s (j + 1) = optV k s j ++ [x] := by rw [hstep, f0]; simp [h6]
          simp -dsimp only [push_cast, Int.ofNat_eq_natCast, ↓reduceIte, Nat.reduceAdd, Nat.reduceMul, Nat.reduceSub, Nat.reduceLeDiff, Nat.reduceEqDiff, Nat.reduceBEq, Int.reduceToNat, Nat.reduceLT, Int.reduceEq, Int.reduceLT, Int.reduceLE, Int.reduceAdd, Int.reduceSub, Int.reduceMul, reduceCtorEq, Bool.not_false, Bool.not_true, Bool.true_beq, Bool.false_beq, beq_self_eq_true, Bool.true_and, f1, f2, f3, f4, h4, h6]
          refine ⟨[x], rfl, ?_⟩
          simp -dsimp only [push_cast, Int.ofNat_eq_natCast, ↓reduceIte, Nat.reduceAdd, Nat.reduceMul, Nat.reduceSub, Nat.reduceLeDiff, Nat.reduceEqDiff, Nat.reduceBEq, Int.reduceToNat, Nat.reduceLT, Int.reduceEq, Int.reduceLT, Int.reduceLE, Int.reduceAdd, Int.reduceSub, Int.reduceMul, reduceCtorEq, Bool.not_false, Bool.not_true, Bool.true_beq, Bool.false_beq, beq_self_eq_true, Bool.true_and]
          repeat (refine And.intro (by omega) ?_)
          refine ⟨j + 1, by omega, by omega, Weak.mk [] rfl rfl (Nat.le_refl _) rfl (by simp -dsimp only [WeakTm, WeakBx, CLe, CLeL, push_cast, Int.ofNat_eq_natCast, ↓reduceIte, Nat.reduceAdd, Nat.reduceMul, Nat.reduceSub, Nat.reduceLeDiff, Nat.reduceEqDiff, Nat.reduceBEq, Int.reduceToNat, Nat.reduceLT, Int.reduceEq, Int.reduceLT, Int.reduceLE, Int.reduceAdd, Int.reduceSub, Int.reduceMul, reduceCtorEq, Bool.not_false, Bool.not_true, Bool.true_beq, Bool.false_beq, beq_self_eq_true, Bool.true_and, e, hx1]) (by simp -dsimp only [WeakTm, WeakBx, CLe, CLeL, push_cast, Int.ofNat_eq_natCast, ↓reduceIte, Nat.reduceAdd, Nat.reduceMul, Nat.reduceSub, Nat.reduceLeDiff, Nat.reduceEqDiff, Nat.reduceBEq, Int.reduceToNat, Nat.reduceLT, Int.reduceEq, Int.reduceLT, Int.reduceLE, Int.reduceAdd, Int.reduceSub, Int.reduceMul, reduceCtorEq, Bool.not_false, Bool.not_true, Bool.true_beq, Bool.false_beq, beq_self_eq_true, Bool.true_and])⟩
        · have e : optV k s (j + 1) = optV k s j := by rw [hstep, f0]; simp [h6]
          simp -dsimp only [push_cast, Int.ofNat_eq_natCast, ↓reduceIte, Nat.reduceAdd, Nat.reduceMul, Nat.reduceSub, Nat.reduceLeDiff, Nat.reduceEqDiff, Nat.reduceBEq, Int.reduceToNat, Nat.reduceLT, Int.reduceEq, Int.reduceLT, Int.reduceLE, Int.reduceAdd, Int.reduceSub, Int.reduceMul, reduceCtorEq, Bool.not_false, Bool.not_true, Bool.true_beq, Bool.false_beq, beq_self_eq_true, Bool.true_and, f1, f2, f3, f4, h4, h6]
          repeat (refine And.intro (by omega) ?_)
          refine ⟨j + 1, by omega, by omega, Weak.mk [] rfl rfl (Nat.le_refl _) rfl (by simp -dsimp only [WeakTm, WeakBx, CLe, CLeL, push_cast, Int.ofNat_eq_natCast, ↓reduceIte, Nat.reduceAdd, Nat.reduceMul, Nat.reduceSub, Nat.reduceLeDiff, Nat.reduceEqDiff, Nat.reduceBEq, Int.reduceToNat, Nat.reduceLT, Int.reduceEq, Int.reduceLT, Int.reduceLE, Int.reduceAdd, Int.reduceSub, Int.reduceMul, reduceCtorEq, Bool.not_false, Bool.not_true, Bool.true_beq, Bool.false_beq, beq_self_eq_true, Bool.true_and, e, hx1]) (by simp -dsimp only [WeakTm, WeakBx, CLe, CLeL, push_cast, Int.ofNat_eq_natCast, ↓reduceIte, Nat.reduceAdd, Nat.reduceMul, Nat.reduceSub, Nat.reduceLeDiff, Nat.reduceEqDiff, Nat.reduceBEq, Int.reduceToNat, Nat.reduceLT, Int.reduceEq, Int.reduceLT, Int.reduceLE, Int.reduceAdd, Int.reduceSub, Int.reduceMul, reduceCtorEq, Bool.not_false, Bool.not_true, Bool.true_beq, Bool.false_beq, beq_self_eq_true, Bool.true_and])⟩
    · have hj2 : j = 58 := by simp at h; omega
      subst hj2
      simp -dsimp only [push_cast, Int.ofNat_eq_natCast, ↓reduceIte, Nat.reduceAdd, Nat.reduceMul, Nat.reduceSub, Nat.reduceLeDiff, Nat.reduceEqDiff, Nat.reduceBEq, Int.reduceToNat, Nat.reduceLT, Int.reduceEq, Int.reduceLT, Int.reduceLE, Int.reduceAdd, Int.reduceSub, Int.reduceMul, reduceCtorEq, Bool.not_false, Bool.not_true, Bool.true_beq, Bool.false_beq, beq_self_eq_true, Bool.true_and]
      exact ⟨[], rfl, rfl, by simp -dsimp only [WeakTm, WeakBx, CLe, CLeL, push_cast, Int.ofNat_eq_natCast, ↓reduceIte, Nat.reduceAdd, Nat.reduceMul, Nat.reduceSub, Nat.reduceLeDiff, Nat.reduceEqDiff, Nat.reduceBEq, Int.reduceToNat, Nat.reduceLT, Int.reduceEq, Int.reduceLT, Int.reduceLE, Int.reduceAdd, Int.reduceSub, Int.reduceMul, reduceCtorEq, Bool.not_false, Bool.not_true, Bool.true_beq, Bool.false_beq, beq_self_eq_true, Bool.true_and]⟩
end Go.Proofs.YtphiahlodjblcaaDoor.Vcg
