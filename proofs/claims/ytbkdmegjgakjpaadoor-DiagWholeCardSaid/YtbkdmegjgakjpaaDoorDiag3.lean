/- diag.Tell, and the reference's say and Tell, as what they answer: the same. Printed by a program. No condition but bounds that each states. -/
import Derived.Test.YtbkdmegjgakjpaaDoorDiag2
set_option linter.unusedVariables false
set_option linter.unusedSimpArgs false
namespace Go.Proofs.YtbkdmegjgakjpaaDoor.Vcg
open Go.RowKit QuotePlain
/-- a phrase, of texts that stand for A, B and E -/
def sayV (k : Int) (qa qb m : List UInt8) : List UInt8 := if k = 1 then [99, 97, 110, 110, 111, 116, 32, 99, 114, 101, 97, 116, 101, 32, 100, 105, 114, 101, 99, 116, 111, 114, 121, 32] ++ qa ++ [58, 32] ++ m else if k = 2 then [99, 97, 110, 110, 111, 116, 32, 114, 101, 109, 111, 118, 101, 32] ++ qa ++ [58, 32] ++ m else if k = 3 then [114, 101, 102, 117, 115, 105, 110, 103, 32, 116, 111, 32, 114, 101, 109, 111, 118, 101, 32, 34, 46, 34, 32, 111, 114, 32, 34, 46, 46, 34, 32, 100, 105, 114, 101, 99, 116, 111, 114, 121, 58, 32, 115, 107, 105, 112, 112, 105, 110, 103, 32] ++ qa else if k = 4 then [105, 116, 32, 105, 115, 32, 100, 97, 110, 103, 101, 114, 111, 117, 115, 32, 116, 111, 32, 111, 112, 101, 114, 97, 116, 101, 32, 114, 101, 99, 117, 114, 115, 105, 118, 101, 108, 121, 32, 111, 110, 32] ++ qa else if k = 5 then [102, 97, 105, 108, 101, 100, 32, 116, 111, 32, 97, 99, 99, 101, 115, 115, 32] ++ qa ++ [58, 32] ++ m else if k = 6 then qa ++ [58, 32, 104, 97, 114, 100, 32, 108, 105, 110, 107, 32, 110, 111, 116, 32, 97, 108, 108, 111, 119, 101, 100, 32, 102, 111, 114, 32, 100, 105, 114, 101, 99, 116, 111, 114, 121] else if k = 7 then [102, 97, 105, 108, 101, 100, 32, 116, 111, 32, 99, 114, 101, 97, 116, 101, 32, 104, 97, 114, 100, 32, 108, 105, 110, 107, 32] ++ qb ++ [58, 32] ++ m else if k = 8 then [102, 97, 105, 108, 101, 100, 32, 116, 111, 32, 99, 114, 101, 97, 116, 101, 32, 115, 121, 109, 98, 111, 108, 105, 99, 32, 108, 105, 110, 107, 32] ++ qb ++ [58, 32] ++ m else if k = 9 then qa ++ [32, 97, 110, 100, 32] ++ qb ++ [32, 97, 114, 101, 32, 116, 104, 101, 32, 115, 97, 109, 101, 32, 102, 105, 108, 101] else if k = 10 then [116, 97, 114, 103, 101, 116, 32] ++ qa ++ [32, 105, 115, 32, 110, 111, 116, 32, 97, 32, 100, 105, 114, 101, 99, 116, 111, 114, 121] else if k = 11 then [99, 97, 110, 110, 111, 116, 32, 115, 116, 97, 116, 32] ++ qa ++ [58, 32] ++ m else if k = 12 then [99, 97, 110, 110, 111, 116, 32, 111, 118, 101, 114, 119, 114, 105, 116, 101, 32, 110, 111, 110, 45, 100, 105, 114, 101, 99, 116, 111, 114, 121, 32] ++ qb ++ [32, 119, 105, 116, 104, 32, 100, 105, 114, 101, 99, 116, 111, 114, 121, 32] ++ qa else if k = 13 then [99, 97, 110, 110, 111, 116, 32, 111, 118, 101, 114, 119, 114, 105, 116, 101, 32, 100, 105, 114, 101, 99, 116, 111, 114, 121, 32] ++ qb ++ [32, 119, 105, 116, 104, 32, 110, 111, 110, 45, 100, 105, 114, 101, 99, 116, 111, 114, 121, 32] ++ qa else if k = 14 then [99, 97, 110, 110, 111, 116, 32, 109, 111, 118, 101, 32] ++ qa ++ [32, 116, 111, 32, 97, 32, 115, 117, 98, 100, 105, 114, 101, 99, 116, 111, 114, 121, 32, 111, 102, 32, 105, 116, 115, 101, 108, 102, 44, 32] ++ qb else if k = 15 then [99, 97, 110, 110, 111, 116, 32, 109, 111, 118, 101, 32] ++ qa ++ [32, 116, 111, 32] ++ qb ++ [58, 32] ++ m else if k = 16 then [45, 114, 32, 110, 111, 116, 32, 115, 112, 101, 99, 105, 102, 105, 101, 100, 59, 32, 111, 109, 105, 116, 116, 105, 110, 103, 32, 100, 105, 114, 101, 99, 116, 111, 114, 121, 32] ++ qa else if k = 17 then [99, 97, 110, 110, 111, 116, 32, 99, 114, 101, 97, 116, 101, 32, 114, 101, 103, 117, 108, 97, 114, 32, 102, 105, 108, 101, 32] ++ qb ++ [58, 32] ++ m else if k = 18 then [99, 97, 110, 110, 111, 116, 32, 99, 114, 101, 97, 116, 101, 32, 115, 121, 109, 98, 111, 108, 105, 99, 32, 108, 105, 110, 107, 32] ++ qb ++ [58, 32] ++ m else if k = 19 then [99, 97, 110, 110, 111, 116, 32, 99, 111, 112, 121, 32, 97, 32, 100, 105, 114, 101, 99, 116, 111, 114, 121, 44, 32] ++ qa ++ [44, 32, 105, 110, 116, 111, 32, 105, 116, 115, 101, 108, 102, 44, 32] ++ qb else if k = 20 then [110, 111, 116, 32, 119, 114, 105, 116, 105, 110, 103, 32, 116, 104, 114, 111, 117, 103, 104, 32, 100, 97, 110, 103, 108, 105, 110, 103, 32, 115, 121, 109, 108, 105, 110, 107, 32] ++ qb else if k = 21 then [101, 114, 114, 111, 114, 32, 119, 114, 105, 116, 105, 110, 103, 32] ++ qb ++ [58, 32] ++ m else if k = 22 then [99, 97, 110, 110, 111, 116, 32, 99, 114, 101, 97, 116, 101, 32, 100, 105, 114, 101, 99, 116, 111, 114, 121, 32] ++ qb ++ [58, 32] ++ m else []
set_option maxRecDepth 100000 in
theorem phrase_none (k : Int) (h : ¬ (1 ≤ k ∧ k ≤ 22)) : phraseV k = [] := by
  have n1 : ¬ k = 1 := by omega
  have n2 : ¬ k = 2 := by omega
  have n3 : ¬ k = 3 := by omega
  have n4 : ¬ k = 4 := by omega
  have n5 : ¬ k = 5 := by omega
  have n6 : ¬ k = 6 := by omega
  have n7 : ¬ k = 7 := by omega
  have n8 : ¬ k = 8 := by omega
  have n9 : ¬ k = 9 := by omega
  have n10 : ¬ k = 10 := by omega
  have n11 : ¬ k = 11 := by omega
  have n12 : ¬ k = 12 := by omega
  have n13 : ¬ k = 13 := by omega
  have n14 : ¬ k = 14 := by omega
  have n15 : ¬ k = 15 := by omega
  have n16 : ¬ k = 16 := by omega
  have n17 : ¬ k = 17 := by omega
  have n18 : ¬ k = 18 := by omega
  have n19 : ¬ k = 19 := by omega
  have n20 : ¬ k = 20 := by omega
  have n21 : ¬ k = 21 := by omega
  have n22 : ¬ k = 22 := by omega
  simp only [phraseV, n1, n2, n3, n4, n5, n6, n7, n8, n9, n10, n11, n12, n13, n14, n15, n16, n17, n18, n19, n20, n21, n22, if_false]
set_option maxRecDepth 100000 in
theorem say_none (k : Int) (qa qb m : List UInt8) (h : ¬ (1 ≤ k ∧ k ≤ 22)) : sayV k qa qb m = [] := by
  have n1 : ¬ k = 1 := by omega
  have n2 : ¬ k = 2 := by omega
  have n3 : ¬ k = 3 := by omega
  have n4 : ¬ k = 4 := by omega
  have n5 : ¬ k = 5 := by omega
  have n6 : ¬ k = 6 := by omega
  have n7 : ¬ k = 7 := by omega
  have n8 : ¬ k = 8 := by omega
  have n9 : ¬ k = 9 := by omega
  have n10 : ¬ k = 10 := by omega
  have n11 : ¬ k = 11 := by omega
  have n12 : ¬ k = 12 := by omega
  have n13 : ¬ k = 13 := by omega
  have n14 : ¬ k = 14 := by omega
  have n15 : ¬ k = 15 := by omega
  have n16 : ¬ k = 16 := by omega
  have n17 : ¬ k = 17 := by omega
  have n18 : ¬ k = 18 := by omega
  have n19 : ¬ k = 19 := by omega
  have n20 : ¬ k = 20 := by omega
  have n21 : ¬ k = 21 := by omega
  have n22 : ¬ k = 22 := by omega
  simp only [sayV, n1, n2, n3, n4, n5, n6, n7, n8, n9, n10, n11, n12, n13, n14, n15, n16, n17, n18, n19, n20, n21, n22, if_false]
set_option maxRecDepth 100000 in
theorem phrase_words (k : Int) : phraseV k = [] ∨ ((∀ x ∈ splc 32 (phraseV k), x ≠ [] ∧ x.length ≤ 100) ∧ (phraseV k).length ≤ 100) := by
  by_cases h : 1 ≤ k ∧ k ≤ 22
  · refine .inr ?_
    have hc : k = 1 ∨ k = 2 ∨ k = 3 ∨ k = 4 ∨ k = 5 ∨ k = 6 ∨ k = 7 ∨ k = 8 ∨ k = 9 ∨ k = 10 ∨ k = 11 ∨ k = 12 ∨ k = 13 ∨ k = 14 ∨ k = 15 ∨ k = 16 ∨ k = 17 ∨ k = 18 ∨ k = 19 ∨ k = 20 ∨ k = 21 ∨ k = 22 := by omega
    clear h
    rcases hc with rfl | rfl | rfl | rfl | rfl | rfl | rfl | rfl | rfl | rfl | rfl | rfl | rfl | rfl | rfl | rfl | rfl | rfl | rfl | rfl | rfl | rfl <;> exact ⟨by decide +kernel, by decide +kernel⟩
  · exact .inl (phrase_none k h)
set_option maxRecDepth 100000 in
set_option maxHeartbeats 4000000 in
theorem said_say (k : Int) (qa qb m : List UInt8) (h : 1 ≤ k ∧ k ≤ 22) : Lib.join ((splc 32 (phraseV k)).map fun w => saidV w qa qb m) [32] = sayV k qa qb m := by
  have hc : k = 1 ∨ k = 2 ∨ k = 3 ∨ k = 4 ∨ k = 5 ∨ k = 6 ∨ k = 7 ∨ k = 8 ∨ k = 9 ∨ k = 10 ∨ k = 11 ∨ k = 12 ∨ k = 13 ∨ k = 14 ∨ k = 15 ∨ k = 16 ∨ k = 17 ∨ k = 18 ∨ k = 19 ∨ k = 20 ∨ k = 21 ∨ k = 22 := by omega
  rcases hc with rfl | rfl | rfl | rfl | rfl | rfl | rfl | rfl | rfl | rfl | rfl | rfl | rfl | rfl | rfl | rfl | rfl | rfl | rfl | rfl | rfl | rfl
  · have e1 : splc 32 (phraseV 1) = [[99, 97, 110, 110, 111, 116], [99, 114, 101, 97, 116, 101], [100, 105, 114, 101, 99, 116, 111, 114, 121], [65, 58], [69]] := by decide +kernel
    have s0 : saidV [99, 97, 110, 110, 111, 116] qa qb m = [99, 97, 110, 110, 111, 116] := by simp only [saidV, show trimV [99, 97, 110, 110, 111, 116] = [99, 97, 110, 110, 111, 116] by decide +kernel]; rfl
    have s1 : saidV [99, 114, 101, 97, 116, 101] qa qb m = [99, 114, 101, 97, 116, 101] := by simp only [saidV, show trimV [99, 114, 101, 97, 116, 101] = [99, 114, 101, 97, 116, 101] by decide +kernel]; rfl
    have s2 : saidV [100, 105, 114, 101, 99, 116, 111, 114, 121] qa qb m = [100, 105, 114, 101, 99, 116, 111, 114, 121] := by simp only [saidV, show trimV [100, 105, 114, 101, 99, 116, 111, 114, 121] = [100, 105, 114, 101, 99, 116, 111, 114, 121] by decide +kernel]; rfl
    have s3 : saidV [65, 58] qa qb m = qa ++ [58] := by simp only [saidV, show trimV [65, 58] = [65] by decide +kernel]; rfl
    have s4 : saidV [69] qa qb m = m ++ [] := by simp only [saidV, show trimV [69] = [69] by decide +kernel]; rfl
    rw [e1]
    simp only [List.map_cons, List.map_nil, s0, s1, s2, s3, s4]
    simp [Lib.join, List.intercalate, List.intersperse, sayV]
  · have e1 : splc 32 (phraseV 2) = [[99, 97, 110, 110, 111, 116], [114, 101, 109, 111, 118, 101], [65, 58], [69]] := by decide +kernel
    have s0 : saidV [99, 97, 110, 110, 111, 116] qa qb m = [99, 97, 110, 110, 111, 116] := by simp only [saidV, show trimV [99, 97, 110, 110, 111, 116] = [99, 97, 110, 110, 111, 116] by decide +kernel]; rfl
    have s1 : saidV [114, 101, 109, 111, 118, 101] qa qb m = [114, 101, 109, 111, 118, 101] := by simp only [saidV, show trimV [114, 101, 109, 111, 118, 101] = [114, 101, 109, 111, 118, 101] by decide +kernel]; rfl
    have s2 : saidV [65, 58] qa qb m = qa ++ [58] := by simp only [saidV, show trimV [65, 58] = [65] by decide +kernel]; rfl
    have s3 : saidV [69] qa qb m = m ++ [] := by simp only [saidV, show trimV [69] = [69] by decide +kernel]; rfl
    rw [e1]
    simp only [List.map_cons, List.map_nil, s0, s1, s2, s3]
    simp [Lib.join, List.intercalate, List.intersperse, sayV]
  · have e1 : splc 32 (phraseV 3) = [[114, 101, 102, 117, 115, 105, 110, 103], [116, 111], [114, 101, 109, 111, 118, 101], [34, 46, 34], [111, 114], [34, 46, 46, 34], [100, 105, 114, 101, 99, 116, 111, 114, 121, 58], [115, 107, 105, 112, 112, 105, 110, 103], [65]] := by decide +kernel
    have s0 : saidV [114, 101, 102, 117, 115, 105, 110, 103] qa qb m = [114, 101, 102, 117, 115, 105, 110, 103] := by simp only [saidV, show trimV [114, 101, 102, 117, 115, 105, 110, 103] = [114, 101, 102, 117, 115, 105, 110, 103] by decide +kernel]; rfl
    have s1 : saidV [116, 111] qa qb m = [116, 111] := by simp only [saidV, show trimV [116, 111] = [116, 111] by decide +kernel]; rfl
    have s2 : saidV [114, 101, 109, 111, 118, 101] qa qb m = [114, 101, 109, 111, 118, 101] := by simp only [saidV, show trimV [114, 101, 109, 111, 118, 101] = [114, 101, 109, 111, 118, 101] by decide +kernel]; rfl
    have s3 : saidV [34, 46, 34] qa qb m = [34, 46, 34] := by simp only [saidV, show trimV [34, 46, 34] = [34, 46, 34] by decide +kernel]; rfl
    have s4 : saidV [111, 114] qa qb m = [111, 114] := by simp only [saidV, show trimV [111, 114] = [111, 114] by decide +kernel]; rfl
    have s5 : saidV [34, 46, 46, 34] qa qb m = [34, 46, 46, 34] := by simp only [saidV, show trimV [34, 46, 46, 34] = [34, 46, 46, 34] by decide +kernel]; rfl
    have s6 : saidV [100, 105, 114, 101, 99, 116, 111, 114, 121, 58] qa qb m = [100, 105, 114, 101, 99, 116, 111, 114, 121, 58] := by simp only [saidV, show trimV [100, 105, 114, 101, 99, 116, 111, 114, 121, 58] = [100, 105, 114, 101, 99, 116, 111, 114, 121] by decide +kernel]; rfl
    have s7 : saidV [115, 107, 105, 112, 112, 105, 110, 103] qa qb m = [115, 107, 105, 112, 112, 105, 110, 103] := by simp only [saidV, show trimV [115, 107, 105, 112, 112, 105, 110, 103] = [115, 107, 105, 112, 112, 105, 110, 103] by decide +kernel]; rfl
    have s8 : saidV [65] qa qb m = qa ++ [] := by simp only [saidV, show trimV [65] = [65] by decide +kernel]; rfl
    rw [e1]
    simp only [List.map_cons, List.map_nil, s0, s1, s2, s3, s4, s5, s6, s7, s8]
    simp [Lib.join, List.intercalate, List.intersperse, sayV]
  · have e1 : splc 32 (phraseV 4) = [[105, 116], [105, 115], [100, 97, 110, 103, 101, 114, 111, 117, 115], [116, 111], [111, 112, 101, 114, 97, 116, 101], [114, 101, 99, 117, 114, 115, 105, 118, 101, 108, 121], [111, 110], [65]] := by decide +kernel
    have s0 : saidV [105, 116] qa qb m = [105, 116] := by simp only [saidV, show trimV [105, 116] = [105, 116] by decide +kernel]; rfl
    have s1 : saidV [105, 115] qa qb m = [105, 115] := by simp only [saidV, show trimV [105, 115] = [105, 115] by decide +kernel]; rfl
    have s2 : saidV [100, 97, 110, 103, 101, 114, 111, 117, 115] qa qb m = [100, 97, 110, 103, 101, 114, 111, 117, 115] := by simp only [saidV, show trimV [100, 97, 110, 103, 101, 114, 111, 117, 115] = [100, 97, 110, 103, 101, 114, 111, 117, 115] by decide +kernel]; rfl
    have s3 : saidV [116, 111] qa qb m = [116, 111] := by simp only [saidV, show trimV [116, 111] = [116, 111] by decide +kernel]; rfl
    have s4 : saidV [111, 112, 101, 114, 97, 116, 101] qa qb m = [111, 112, 101, 114, 97, 116, 101] := by simp only [saidV, show trimV [111, 112, 101, 114, 97, 116, 101] = [111, 112, 101, 114, 97, 116, 101] by decide +kernel]; rfl
    have s5 : saidV [114, 101, 99, 117, 114, 115, 105, 118, 101, 108, 121] qa qb m = [114, 101, 99, 117, 114, 115, 105, 118, 101, 108, 121] := by simp only [saidV, show trimV [114, 101, 99, 117, 114, 115, 105, 118, 101, 108, 121] = [114, 101, 99, 117, 114, 115, 105, 118, 101, 108, 121] by decide +kernel]; rfl
    have s6 : saidV [111, 110] qa qb m = [111, 110] := by simp only [saidV, show trimV [111, 110] = [111, 110] by decide +kernel]; rfl
    have s7 : saidV [65] qa qb m = qa ++ [] := by simp only [saidV, show trimV [65] = [65] by decide +kernel]; rfl
    rw [e1]
    simp only [List.map_cons, List.map_nil, s0, s1, s2, s3, s4, s5, s6, s7]
    simp [Lib.join, List.intercalate, List.intersperse, sayV]
  · have e1 : splc 32 (phraseV 5) = [[102, 97, 105, 108, 101, 100], [116, 111], [97, 99, 99, 101, 115, 115], [65, 58], [69]] := by decide +kernel
    have s0 : saidV [102, 97, 105, 108, 101, 100] qa qb m = [102, 97, 105, 108, 101, 100] := by simp only [saidV, show trimV [102, 97, 105, 108, 101, 100] = [102, 97, 105, 108, 101, 100] by decide +kernel]; rfl
    have s1 : saidV [116, 111] qa qb m = [116, 111] := by simp only [saidV, show trimV [116, 111] = [116, 111] by decide +kernel]; rfl
    have s2 : saidV [97, 99, 99, 101, 115, 115] qa qb m = [97, 99, 99, 101, 115, 115] := by simp only [saidV, show trimV [97, 99, 99, 101, 115, 115] = [97, 99, 99, 101, 115, 115] by decide +kernel]; rfl
    have s3 : saidV [65, 58] qa qb m = qa ++ [58] := by simp only [saidV, show trimV [65, 58] = [65] by decide +kernel]; rfl
    have s4 : saidV [69] qa qb m = m ++ [] := by simp only [saidV, show trimV [69] = [69] by decide +kernel]; rfl
    rw [e1]
    simp only [List.map_cons, List.map_nil, s0, s1, s2, s3, s4]
    simp [Lib.join, List.intercalate, List.intersperse, sayV]
  · have e1 : splc 32 (phraseV 6) = [[65, 58], [104, 97, 114, 100], [108, 105, 110, 107], [110, 111, 116], [97, 108, 108, 111, 119, 101, 100], [102, 111, 114], [100, 105, 114, 101, 99, 116, 111, 114, 121]] := by decide +kernel
    have s0 : saidV [65, 58] qa qb m = qa ++ [58] := by simp only [saidV, show trimV [65, 58] = [65] by decide +kernel]; rfl
    have s1 : saidV [104, 97, 114, 100] qa qb m = [104, 97, 114, 100] := by simp only [saidV, show trimV [104, 97, 114, 100] = [104, 97, 114, 100] by decide +kernel]; rfl
    have s2 : saidV [108, 105, 110, 107] qa qb m = [108, 105, 110, 107] := by simp only [saidV, show trimV [108, 105, 110, 107] = [108, 105, 110, 107] by decide +kernel]; rfl
    have s3 : saidV [110, 111, 116] qa qb m = [110, 111, 116] := by simp only [saidV, show trimV [110, 111, 116] = [110, 111, 116] by decide +kernel]; rfl
    have s4 : saidV [97, 108, 108, 111, 119, 101, 100] qa qb m = [97, 108, 108, 111, 119, 101, 100] := by simp only [saidV, show trimV [97, 108, 108, 111, 119, 101, 100] = [97, 108, 108, 111, 119, 101, 100] by decide +kernel]; rfl
    have s5 : saidV [102, 111, 114] qa qb m = [102, 111, 114] := by simp only [saidV, show trimV [102, 111, 114] = [102, 111, 114] by decide +kernel]; rfl
    have s6 : saidV [100, 105, 114, 101, 99, 116, 111, 114, 121] qa qb m = [100, 105, 114, 101, 99, 116, 111, 114, 121] := by simp only [saidV, show trimV [100, 105, 114, 101, 99, 116, 111, 114, 121] = [100, 105, 114, 101, 99, 116, 111, 114, 121] by decide +kernel]; rfl
    rw [e1]
    simp only [List.map_cons, List.map_nil, s0, s1, s2, s3, s4, s5, s6]
    simp [Lib.join, List.intercalate, List.intersperse, sayV]
  · have e1 : splc 32 (phraseV 7) = [[102, 97, 105, 108, 101, 100], [116, 111], [99, 114, 101, 97, 116, 101], [104, 97, 114, 100], [108, 105, 110, 107], [66, 58], [69]] := by decide +kernel
    have s0 : saidV [102, 97, 105, 108, 101, 100] qa qb m = [102, 97, 105, 108, 101, 100] := by simp only [saidV, show trimV [102, 97, 105, 108, 101, 100] = [102, 97, 105, 108, 101, 100] by decide +kernel]; rfl
    have s1 : saidV [116, 111] qa qb m = [116, 111] := by simp only [saidV, show trimV [116, 111] = [116, 111] by decide +kernel]; rfl
    have s2 : saidV [99, 114, 101, 97, 116, 101] qa qb m = [99, 114, 101, 97, 116, 101] := by simp only [saidV, show trimV [99, 114, 101, 97, 116, 101] = [99, 114, 101, 97, 116, 101] by decide +kernel]; rfl
    have s3 : saidV [104, 97, 114, 100] qa qb m = [104, 97, 114, 100] := by simp only [saidV, show trimV [104, 97, 114, 100] = [104, 97, 114, 100] by decide +kernel]; rfl
    have s4 : saidV [108, 105, 110, 107] qa qb m = [108, 105, 110, 107] := by simp only [saidV, show trimV [108, 105, 110, 107] = [108, 105, 110, 107] by decide +kernel]; rfl
    have s5 : saidV [66, 58] qa qb m = qb ++ [58] := by simp only [saidV, show trimV [66, 58] = [66] by decide +kernel]; rfl
    have s6 : saidV [69] qa qb m = m ++ [] := by simp only [saidV, show trimV [69] = [69] by decide +kernel]; rfl
    rw [e1]
    simp only [List.map_cons, List.map_nil, s0, s1, s2, s3, s4, s5, s6]
    simp [Lib.join, List.intercalate, List.intersperse, sayV]
  · have e1 : splc 32 (phraseV 8) = [[102, 97, 105, 108, 101, 100], [116, 111], [99, 114, 101, 97, 116, 101], [115, 121, 109, 98, 111, 108, 105, 99], [108, 105, 110, 107], [66, 58], [69]] := by decide +kernel
    have s0 : saidV [102, 97, 105, 108, 101, 100] qa qb m = [102, 97, 105, 108, 101, 100] := by simp only [saidV, show trimV [102, 97, 105, 108, 101, 100] = [102, 97, 105, 108, 101, 100] by decide +kernel]; rfl
    have s1 : saidV [116, 111] qa qb m = [116, 111] := by simp only [saidV, show trimV [116, 111] = [116, 111] by decide +kernel]; rfl
    have s2 : saidV [99, 114, 101, 97, 116, 101] qa qb m = [99, 114, 101, 97, 116, 101] := by simp only [saidV, show trimV [99, 114, 101, 97, 116, 101] = [99, 114, 101, 97, 116, 101] by decide +kernel]; rfl
    have s3 : saidV [115, 121, 109, 98, 111, 108, 105, 99] qa qb m = [115, 121, 109, 98, 111, 108, 105, 99] := by simp only [saidV, show trimV [115, 121, 109, 98, 111, 108, 105, 99] = [115, 121, 109, 98, 111, 108, 105, 99] by decide +kernel]; rfl
    have s4 : saidV [108, 105, 110, 107] qa qb m = [108, 105, 110, 107] := by simp only [saidV, show trimV [108, 105, 110, 107] = [108, 105, 110, 107] by decide +kernel]; rfl
    have s5 : saidV [66, 58] qa qb m = qb ++ [58] := by simp only [saidV, show trimV [66, 58] = [66] by decide +kernel]; rfl
    have s6 : saidV [69] qa qb m = m ++ [] := by simp only [saidV, show trimV [69] = [69] by decide +kernel]; rfl
    rw [e1]
    simp only [List.map_cons, List.map_nil, s0, s1, s2, s3, s4, s5, s6]
    simp [Lib.join, List.intercalate, List.intersperse, sayV]
  · have e1 : splc 32 (phraseV 9) = [[65], [97, 110, 100], [66], [97, 114, 101], [116, 104, 101], [115, 97, 109, 101], [102, 105, 108, 101]] := by decide +kernel
    have s0 : saidV [65] qa qb m = qa ++ [] := by simp only [saidV, show trimV [65] = [65] by decide +kernel]; rfl
    have s1 : saidV [97, 110, 100] qa qb m = [97, 110, 100] := by simp only [saidV, show trimV [97, 110, 100] = [97, 110, 100] by decide +kernel]; rfl
    have s2 : saidV [66] qa qb m = qb ++ [] := by simp only [saidV, show trimV [66] = [66] by decide +kernel]; rfl
    have s3 : saidV [97, 114, 101] qa qb m = [97, 114, 101] := by simp only [saidV, show trimV [97, 114, 101] = [97, 114, 101] by decide +kernel]; rfl
    have s4 : saidV [116, 104, 101] qa qb m = [116, 104, 101] := by simp only [saidV, show trimV [116, 104, 101] = [116, 104, 101] by decide +kernel]; rfl
    have s5 : saidV [115, 97, 109, 101] qa qb m = [115, 97, 109, 101] := by simp only [saidV, show trimV [115, 97, 109, 101] = [115, 97, 109, 101] by decide +kernel]; rfl
    have s6 : saidV [102, 105, 108, 101] qa qb m = [102, 105, 108, 101] := by simp only [saidV, show trimV [102, 105, 108, 101] = [102, 105, 108, 101] by decide +kernel]; rfl
    rw [e1]
    simp only [List.map_cons, List.map_nil, s0, s1, s2, s3, s4, s5, s6]
    simp [Lib.join, List.intercalate, List.intersperse, sayV]
  · have e1 : splc 32 (phraseV 10) = [[116, 97, 114, 103, 101, 116], [65], [105, 115], [110, 111, 116], [97], [100, 105, 114, 101, 99, 116, 111, 114, 121]] := by decide +kernel
    have s0 : saidV [116, 97, 114, 103, 101, 116] qa qb m = [116, 97, 114, 103, 101, 116] := by simp only [saidV, show trimV [116, 97, 114, 103, 101, 116] = [116, 97, 114, 103, 101, 116] by decide +kernel]; rfl
    have s1 : saidV [65] qa qb m = qa ++ [] := by simp only [saidV, show trimV [65] = [65] by decide +kernel]; rfl
    have s2 : saidV [105, 115] qa qb m = [105, 115] := by simp only [saidV, show trimV [105, 115] = [105, 115] by decide +kernel]; rfl
    have s3 : saidV [110, 111, 116] qa qb m = [110, 111, 116] := by simp only [saidV, show trimV [110, 111, 116] = [110, 111, 116] by decide +kernel]; rfl
    have s4 : saidV [97] qa qb m = [97] := by simp only [saidV, show trimV [97] = [97] by decide +kernel]; rfl
    have s5 : saidV [100, 105, 114, 101, 99, 116, 111, 114, 121] qa qb m = [100, 105, 114, 101, 99, 116, 111, 114, 121] := by simp only [saidV, show trimV [100, 105, 114, 101, 99, 116, 111, 114, 121] = [100, 105, 114, 101, 99, 116, 111, 114, 121] by decide +kernel]; rfl
    rw [e1]
    simp only [List.map_cons, List.map_nil, s0, s1, s2, s3, s4, s5]
    simp [Lib.join, List.intercalate, List.intersperse, sayV]
  · have e1 : splc 32 (phraseV 11) = [[99, 97, 110, 110, 111, 116], [115, 116, 97, 116], [65, 58], [69]] := by decide +kernel
    have s0 : saidV [99, 97, 110, 110, 111, 116] qa qb m = [99, 97, 110, 110, 111, 116] := by simp only [saidV, show trimV [99, 97, 110, 110, 111, 116] = [99, 97, 110, 110, 111, 116] by decide +kernel]; rfl
    have s1 : saidV [115, 116, 97, 116] qa qb m = [115, 116, 97, 116] := by simp only [saidV, show trimV [115, 116, 97, 116] = [115, 116, 97, 116] by decide +kernel]; rfl
    have s2 : saidV [65, 58] qa qb m = qa ++ [58] := by simp only [saidV, show trimV [65, 58] = [65] by decide +kernel]; rfl
    have s3 : saidV [69] qa qb m = m ++ [] := by simp only [saidV, show trimV [69] = [69] by decide +kernel]; rfl
    rw [e1]
    simp only [List.map_cons, List.map_nil, s0, s1, s2, s3]
    simp [Lib.join, List.intercalate, List.intersperse, sayV]
  · have e1 : splc 32 (phraseV 12) = [[99, 97, 110, 110, 111, 116], [111, 118, 101, 114, 119, 114, 105, 116, 101], [110, 111, 110, 45, 100, 105, 114, 101, 99, 116, 111, 114, 121], [66], [119, 105, 116, 104], [100, 105, 114, 101, 99, 116, 111, 114, 121], [65]] := by decide +kernel
    have s0 : saidV [99, 97, 110, 110, 111, 116] qa qb m = [99, 97, 110, 110, 111, 116] := by simp only [saidV, show trimV [99, 97, 110, 110, 111, 116] = [99, 97, 110, 110, 111, 116] by decide +kernel]; rfl
    have s1 : saidV [111, 118, 101, 114, 119, 114, 105, 116, 101] qa qb m = [111, 118, 101, 114, 119, 114, 105, 116, 101] := by simp only [saidV, show trimV [111, 118, 101, 114, 119, 114, 105, 116, 101] = [111, 118, 101, 114, 119, 114, 105, 116, 101] by decide +kernel]; rfl
    have s2 : saidV [110, 111, 110, 45, 100, 105, 114, 101, 99, 116, 111, 114, 121] qa qb m = [110, 111, 110, 45, 100, 105, 114, 101, 99, 116, 111, 114, 121] := by simp only [saidV, show trimV [110, 111, 110, 45, 100, 105, 114, 101, 99, 116, 111, 114, 121] = [110, 111, 110, 45, 100, 105, 114, 101, 99, 116, 111, 114, 121] by decide +kernel]; rfl
    have s3 : saidV [66] qa qb m = qb ++ [] := by simp only [saidV, show trimV [66] = [66] by decide +kernel]; rfl
    have s4 : saidV [119, 105, 116, 104] qa qb m = [119, 105, 116, 104] := by simp only [saidV, show trimV [119, 105, 116, 104] = [119, 105, 116, 104] by decide +kernel]; rfl
    have s5 : saidV [100, 105, 114, 101, 99, 116, 111, 114, 121] qa qb m = [100, 105, 114, 101, 99, 116, 111, 114, 121] := by simp only [saidV, show trimV [100, 105, 114, 101, 99, 116, 111, 114, 121] = [100, 105, 114, 101, 99, 116, 111, 114, 121] by decide +kernel]; rfl
    have s6 : saidV [65] qa qb m = qa ++ [] := by simp only [saidV, show trimV [65] = [65] by decide +kernel]; rfl
    rw [e1]
    simp only [List.map_cons, List.map_nil, s0, s1, s2, s3, s4, s5, s6]
    simp [Lib.join, List.intercalate, List.intersperse, sayV]
  · have e1 : splc 32 (phraseV 13) = [[99, 97, 110, 110, 111, 116], [111, 118, 101, 114, 119, 114, 105, 116, 101], [100, 105, 114, 101, 99, 116, 111, 114, 121], [66], [119, 105, 116, 104], [110, 111, 110, 45, 100, 105, 114, 101, 99, 116, 111, 114, 121], [65]] := by decide +kernel
    have s0 : saidV [99, 97, 110, 110, 111, 116] qa qb m = [99, 97, 110, 110, 111, 116] := by simp only [saidV, show trimV [99, 97, 110, 110, 111, 116] = [99, 97, 110, 110, 111, 116] by decide +kernel]; rfl
    have s1 : saidV [111, 118, 101, 114, 119, 114, 105, 116, 101] qa qb m = [111, 118, 101, 114, 119, 114, 105, 116, 101] := by simp only [saidV, show trimV [111, 118, 101, 114, 119, 114, 105, 116, 101] = [111, 118, 101, 114, 119, 114, 105, 116, 101] by decide +kernel]; rfl
    have s2 : saidV [100, 105, 114, 101, 99, 116, 111, 114, 121] qa qb m = [100, 105, 114, 101, 99, 116, 111, 114, 121] := by simp only [saidV, show trimV [100, 105, 114, 101, 99, 116, 111, 114, 121] = [100, 105, 114, 101, 99, 116, 111, 114, 121] by decide +kernel]; rfl
    have s3 : saidV [66] qa qb m = qb ++ [] := by simp only [saidV, show trimV [66] = [66] by decide +kernel]; rfl
    have s4 : saidV [119, 105, 116, 104] qa qb m = [119, 105, 116, 104] := by simp only [saidV, show trimV [119, 105, 116, 104] = [119, 105, 116, 104] by decide +kernel]; rfl
    have s5 : saidV [110, 111, 110, 45, 100, 105, 114, 101, 99, 116, 111, 114, 121] qa qb m = [110, 111, 110, 45, 100, 105, 114, 101, 99, 116, 111, 114, 121] := by simp only [saidV, show trimV [110, 111, 110, 45, 100, 105, 114, 101, 99, 116, 111, 114, 121] = [110, 111, 110, 45, 100, 105, 114, 101, 99, 116, 111, 114, 121] by decide +kernel]; rfl
    have s6 : saidV [65] qa qb m = qa ++ [] := by simp only [saidV, show trimV [65] = [65] by decide +kernel]; rfl
    rw [e1]
    simp only [List.map_cons, List.map_nil, s0, s1, s2, s3, s4, s5, s6]
    simp [Lib.join, List.intercalate, List.intersperse, sayV]
  · have e1 : splc 32 (phraseV 14) = [[99, 97, 110, 110, 111, 116], [109, 111, 118, 101], [65], [116, 111], [97], [115, 117, 98, 100, 105, 114, 101, 99, 116, 111, 114, 121], [111, 102], [105, 116, 115, 101, 108, 102, 44], [66]] := by decide +kernel
    have s0 : saidV [99, 97, 110, 110, 111, 116] qa qb m = [99, 97, 110, 110, 111, 116] := by simp only [saidV, show trimV [99, 97, 110, 110, 111, 116] = [99, 97, 110, 110, 111, 116] by decide +kernel]; rfl
    have s1 : saidV [109, 111, 118, 101] qa qb m = [109, 111, 118, 101] := by simp only [saidV, show trimV [109, 111, 118, 101] = [109, 111, 118, 101] by decide +kernel]; rfl
    have s2 : saidV [65] qa qb m = qa ++ [] := by simp only [saidV, show trimV [65] = [65] by decide +kernel]; rfl
    have s3 : saidV [116, 111] qa qb m = [116, 111] := by simp only [saidV, show trimV [116, 111] = [116, 111] by decide +kernel]; rfl
    have s4 : saidV [97] qa qb m = [97] := by simp only [saidV, show trimV [97] = [97] by decide +kernel]; rfl
    have s5 : saidV [115, 117, 98, 100, 105, 114, 101, 99, 116, 111, 114, 121] qa qb m = [115, 117, 98, 100, 105, 114, 101, 99, 116, 111, 114, 121] := by simp only [saidV, show trimV [115, 117, 98, 100, 105, 114, 101, 99, 116, 111, 114, 121] = [115, 117, 98, 100, 105, 114, 101, 99, 116, 111, 114, 121] by decide +kernel]; rfl
    have s6 : saidV [111, 102] qa qb m = [111, 102] := by simp only [saidV, show trimV [111, 102] = [111, 102] by decide +kernel]; rfl
    have s7 : saidV [105, 116, 115, 101, 108, 102, 44] qa qb m = [105, 116, 115, 101, 108, 102, 44] := by simp only [saidV, show trimV [105, 116, 115, 101, 108, 102, 44] = [105, 116, 115, 101, 108, 102] by decide +kernel]; rfl
    have s8 : saidV [66] qa qb m = qb ++ [] := by simp only [saidV, show trimV [66] = [66] by decide +kernel]; rfl
    rw [e1]
    simp only [List.map_cons, List.map_nil, s0, s1, s2, s3, s4, s5, s6, s7, s8]
    simp [Lib.join, List.intercalate, List.intersperse, sayV]
  · have e1 : splc 32 (phraseV 15) = [[99, 97, 110, 110, 111, 116], [109, 111, 118, 101], [65], [116, 111], [66, 58], [69]] := by decide +kernel
    have s0 : saidV [99, 97, 110, 110, 111, 116] qa qb m = [99, 97, 110, 110, 111, 116] := by simp only [saidV, show trimV [99, 97, 110, 110, 111, 116] = [99, 97, 110, 110, 111, 116] by decide +kernel]; rfl
    have s1 : saidV [109, 111, 118, 101] qa qb m = [109, 111, 118, 101] := by simp only [saidV, show trimV [109, 111, 118, 101] = [109, 111, 118, 101] by decide +kernel]; rfl
    have s2 : saidV [65] qa qb m = qa ++ [] := by simp only [saidV, show trimV [65] = [65] by decide +kernel]; rfl
    have s3 : saidV [116, 111] qa qb m = [116, 111] := by simp only [saidV, show trimV [116, 111] = [116, 111] by decide +kernel]; rfl
    have s4 : saidV [66, 58] qa qb m = qb ++ [58] := by simp only [saidV, show trimV [66, 58] = [66] by decide +kernel]; rfl
    have s5 : saidV [69] qa qb m = m ++ [] := by simp only [saidV, show trimV [69] = [69] by decide +kernel]; rfl
    rw [e1]
    simp only [List.map_cons, List.map_nil, s0, s1, s2, s3, s4, s5]
    simp [Lib.join, List.intercalate, List.intersperse, sayV]
  · have e1 : splc 32 (phraseV 16) = [[45, 114], [110, 111, 116], [115, 112, 101, 99, 105, 102, 105, 101, 100, 59], [111, 109, 105, 116, 116, 105, 110, 103], [100, 105, 114, 101, 99, 116, 111, 114, 121], [65]] := by decide +kernel
    have s0 : saidV [45, 114] qa qb m = [45, 114] := by simp only [saidV, show trimV [45, 114] = [45, 114] by decide +kernel]; rfl
    have s1 : saidV [110, 111, 116] qa qb m = [110, 111, 116] := by simp only [saidV, show trimV [110, 111, 116] = [110, 111, 116] by decide +kernel]; rfl
    have s2 : saidV [115, 112, 101, 99, 105, 102, 105, 101, 100, 59] qa qb m = [115, 112, 101, 99, 105, 102, 105, 101, 100, 59] := by simp only [saidV, show trimV [115, 112, 101, 99, 105, 102, 105, 101, 100, 59] = [115, 112, 101, 99, 105, 102, 105, 101, 100, 59] by decide +kernel]; rfl
    have s3 : saidV [111, 109, 105, 116, 116, 105, 110, 103] qa qb m = [111, 109, 105, 116, 116, 105, 110, 103] := by simp only [saidV, show trimV [111, 109, 105, 116, 116, 105, 110, 103] = [111, 109, 105, 116, 116, 105, 110, 103] by decide +kernel]; rfl
    have s4 : saidV [100, 105, 114, 101, 99, 116, 111, 114, 121] qa qb m = [100, 105, 114, 101, 99, 116, 111, 114, 121] := by simp only [saidV, show trimV [100, 105, 114, 101, 99, 116, 111, 114, 121] = [100, 105, 114, 101, 99, 116, 111, 114, 121] by decide +kernel]; rfl
    have s5 : saidV [65] qa qb m = qa ++ [] := by simp only [saidV, show trimV [65] = [65] by decide +kernel]; rfl
    rw [e1]
    simp only [List.map_cons, List.map_nil, s0, s1, s2, s3, s4, s5]
    simp [Lib.join, List.intercalate, List.intersperse, sayV]
  · have e1 : splc 32 (phraseV 17) = [[99, 97, 110, 110, 111, 116], [99, 114, 101, 97, 116, 101], [114, 101, 103, 117, 108, 97, 114], [102, 105, 108, 101], [66, 58], [69]] := by decide +kernel
    have s0 : saidV [99, 97, 110, 110, 111, 116] qa qb m = [99, 97, 110, 110, 111, 116] := by simp only [saidV, show trimV [99, 97, 110, 110, 111, 116] = [99, 97, 110, 110, 111, 116] by decide +kernel]; rfl
    have s1 : saidV [99, 114, 101, 97, 116, 101] qa qb m = [99, 114, 101, 97, 116, 101] := by simp only [saidV, show trimV [99, 114, 101, 97, 116, 101] = [99, 114, 101, 97, 116, 101] by decide +kernel]; rfl
    have s2 : saidV [114, 101, 103, 117, 108, 97, 114] qa qb m = [114, 101, 103, 117, 108, 97, 114] := by simp only [saidV, show trimV [114, 101, 103, 117, 108, 97, 114] = [114, 101, 103, 117, 108, 97, 114] by decide +kernel]; rfl
    have s3 : saidV [102, 105, 108, 101] qa qb m = [102, 105, 108, 101] := by simp only [saidV, show trimV [102, 105, 108, 101] = [102, 105, 108, 101] by decide +kernel]; rfl
    have s4 : saidV [66, 58] qa qb m = qb ++ [58] := by simp only [saidV, show trimV [66, 58] = [66] by decide +kernel]; rfl
    have s5 : saidV [69] qa qb m = m ++ [] := by simp only [saidV, show trimV [69] = [69] by decide +kernel]; rfl
    rw [e1]
    simp only [List.map_cons, List.map_nil, s0, s1, s2, s3, s4, s5]
    simp [Lib.join, List.intercalate, List.intersperse, sayV]
  · have e1 : splc 32 (phraseV 18) = [[99, 97, 110, 110, 111, 116], [99, 114, 101, 97, 116, 101], [115, 121, 109, 98, 111, 108, 105, 99], [108, 105, 110, 107], [66, 58], [69]] := by decide +kernel
    have s0 : saidV [99, 97, 110, 110, 111, 116] qa qb m = [99, 97, 110, 110, 111, 116] := by simp only [saidV, show trimV [99, 97, 110, 110, 111, 116] = [99, 97, 110, 110, 111, 116] by decide +kernel]; rfl
    have s1 : saidV [99, 114, 101, 97, 116, 101] qa qb m = [99, 114, 101, 97, 116, 101] := by simp only [saidV, show trimV [99, 114, 101, 97, 116, 101] = [99, 114, 101, 97, 116, 101] by decide +kernel]; rfl
    have s2 : saidV [115, 121, 109, 98, 111, 108, 105, 99] qa qb m = [115, 121, 109, 98, 111, 108, 105, 99] := by simp only [saidV, show trimV [115, 121, 109, 98, 111, 108, 105, 99] = [115, 121, 109, 98, 111, 108, 105, 99] by decide +kernel]; rfl
    have s3 : saidV [108, 105, 110, 107] qa qb m = [108, 105, 110, 107] := by simp only [saidV, show trimV [108, 105, 110, 107] = [108, 105, 110, 107] by decide +kernel]; rfl
    have s4 : saidV [66, 58] qa qb m = qb ++ [58] := by simp only [saidV, show trimV [66, 58] = [66] by decide +kernel]; rfl
    have s5 : saidV [69] qa qb m = m ++ [] := by simp only [saidV, show trimV [69] = [69] by decide +kernel]; rfl
    rw [e1]
    simp only [List.map_cons, List.map_nil, s0, s1, s2, s3, s4, s5]
    simp [Lib.join, List.intercalate, List.intersperse, sayV]
  · have e1 : splc 32 (phraseV 19) = [[99, 97, 110, 110, 111, 116], [99, 111, 112, 121], [97], [100, 105, 114, 101, 99, 116, 111, 114, 121, 44], [65, 44], [105, 110, 116, 111], [105, 116, 115, 101, 108, 102, 44], [66]] := by decide +kernel
    have s0 : saidV [99, 97, 110, 110, 111, 116] qa qb m = [99, 97, 110, 110, 111, 116] := by simp only [saidV, show trimV [99, 97, 110, 110, 111, 116] = [99, 97, 110, 110, 111, 116] by decide +kernel]; rfl
    have s1 : saidV [99, 111, 112, 121] qa qb m = [99, 111, 112, 121] := by simp only [saidV, show trimV [99, 111, 112, 121] = [99, 111, 112, 121] by decide +kernel]; rfl
    have s2 : saidV [97] qa qb m = [97] := by simp only [saidV, show trimV [97] = [97] by decide +kernel]; rfl
    have s3 : saidV [100, 105, 114, 101, 99, 116, 111, 114, 121, 44] qa qb m = [100, 105, 114, 101, 99, 116, 111, 114, 121, 44] := by simp only [saidV, show trimV [100, 105, 114, 101, 99, 116, 111, 114, 121, 44] = [100, 105, 114, 101, 99, 116, 111, 114, 121] by decide +kernel]; rfl
    have s4 : saidV [65, 44] qa qb m = qa ++ [44] := by simp only [saidV, show trimV [65, 44] = [65] by decide +kernel]; rfl
    have s5 : saidV [105, 110, 116, 111] qa qb m = [105, 110, 116, 111] := by simp only [saidV, show trimV [105, 110, 116, 111] = [105, 110, 116, 111] by decide +kernel]; rfl
    have s6 : saidV [105, 116, 115, 101, 108, 102, 44] qa qb m = [105, 116, 115, 101, 108, 102, 44] := by simp only [saidV, show trimV [105, 116, 115, 101, 108, 102, 44] = [105, 116, 115, 101, 108, 102] by decide +kernel]; rfl
    have s7 : saidV [66] qa qb m = qb ++ [] := by simp only [saidV, show trimV [66] = [66] by decide +kernel]; rfl
    rw [e1]
    simp only [List.map_cons, List.map_nil, s0, s1, s2, s3, s4, s5, s6, s7]
    simp [Lib.join, List.intercalate, List.intersperse, sayV]
  · have e1 : splc 32 (phraseV 20) = [[110, 111, 116], [119, 114, 105, 116, 105, 110, 103], [116, 104, 114, 111, 117, 103, 104], [100, 97, 110, 103, 108, 105, 110, 103], [115, 121, 109, 108, 105, 110, 107], [66]] := by decide +kernel
    have s0 : saidV [110, 111, 116] qa qb m = [110, 111, 116] := by simp only [saidV, show trimV [110, 111, 116] = [110, 111, 116] by decide +kernel]; rfl
    have s1 : saidV [119, 114, 105, 116, 105, 110, 103] qa qb m = [119, 114, 105, 116, 105, 110, 103] := by simp only [saidV, show trimV [119, 114, 105, 116, 105, 110, 103] = [119, 114, 105, 116, 105, 110, 103] by decide +kernel]; rfl
    have s2 : saidV [116, 104, 114, 111, 117, 103, 104] qa qb m = [116, 104, 114, 111, 117, 103, 104] := by simp only [saidV, show trimV [116, 104, 114, 111, 117, 103, 104] = [116, 104, 114, 111, 117, 103, 104] by decide +kernel]; rfl
    have s3 : saidV [100, 97, 110, 103, 108, 105, 110, 103] qa qb m = [100, 97, 110, 103, 108, 105, 110, 103] := by simp only [saidV, show trimV [100, 97, 110, 103, 108, 105, 110, 103] = [100, 97, 110, 103, 108, 105, 110, 103] by decide +kernel]; rfl
    have s4 : saidV [115, 121, 109, 108, 105, 110, 107] qa qb m = [115, 121, 109, 108, 105, 110, 107] := by simp only [saidV, show trimV [115, 121, 109, 108, 105, 110, 107] = [115, 121, 109, 108, 105, 110, 107] by decide +kernel]; rfl
    have s5 : saidV [66] qa qb m = qb ++ [] := by simp only [saidV, show trimV [66] = [66] by decide +kernel]; rfl
    rw [e1]
    simp only [List.map_cons, List.map_nil, s0, s1, s2, s3, s4, s5]
    simp [Lib.join, List.intercalate, List.intersperse, sayV]
  · have e1 : splc 32 (phraseV 21) = [[101, 114, 114, 111, 114], [119, 114, 105, 116, 105, 110, 103], [66, 58], [69]] := by decide +kernel
    have s0 : saidV [101, 114, 114, 111, 114] qa qb m = [101, 114, 114, 111, 114] := by simp only [saidV, show trimV [101, 114, 114, 111, 114] = [101, 114, 114, 111, 114] by decide +kernel]; rfl
    have s1 : saidV [119, 114, 105, 116, 105, 110, 103] qa qb m = [119, 114, 105, 116, 105, 110, 103] := by simp only [saidV, show trimV [119, 114, 105, 116, 105, 110, 103] = [119, 114, 105, 116, 105, 110, 103] by decide +kernel]; rfl
    have s2 : saidV [66, 58] qa qb m = qb ++ [58] := by simp only [saidV, show trimV [66, 58] = [66] by decide +kernel]; rfl
    have s3 : saidV [69] qa qb m = m ++ [] := by simp only [saidV, show trimV [69] = [69] by decide +kernel]; rfl
    rw [e1]
    simp only [List.map_cons, List.map_nil, s0, s1, s2, s3]
    simp [Lib.join, List.intercalate, List.intersperse, sayV]
  · have e1 : splc 32 (phraseV 22) = [[99, 97, 110, 110, 111, 116], [99, 114, 101, 97, 116, 101], [100, 105, 114, 101, 99, 116, 111, 114, 121], [66, 58], [69]] := by decide +kernel
    have s0 : saidV [99, 97, 110, 110, 111, 116] qa qb m = [99, 97, 110, 110, 111, 116] := by simp only [saidV, show trimV [99, 97, 110, 110, 111, 116] = [99, 97, 110, 110, 111, 116] by decide +kernel]; rfl
    have s1 : saidV [99, 114, 101, 97, 116, 101] qa qb m = [99, 114, 101, 97, 116, 101] := by simp only [saidV, show trimV [99, 114, 101, 97, 116, 101] = [99, 114, 101, 97, 116, 101] by decide +kernel]; rfl
    have s2 : saidV [100, 105, 114, 101, 99, 116, 111, 114, 121] qa qb m = [100, 105, 114, 101, 99, 116, 111, 114, 121] := by simp only [saidV, show trimV [100, 105, 114, 101, 99, 116, 111, 114, 121] = [100, 105, 114, 101, 99, 116, 111, 114, 121] by decide +kernel]; rfl
    have s3 : saidV [66, 58] qa qb m = qb ++ [58] := by simp only [saidV, show trimV [66, 58] = [66] by decide +kernel]; rfl
    have s4 : saidV [69] qa qb m = m ++ [] := by simp only [saidV, show trimV [69] = [69] by decide +kernel]; rfl
    rw [e1]
    simp only [List.map_cons, List.map_nil, s0, s1, s2, s3, s4]
    simp [Lib.join, List.intercalate, List.intersperse, sayV]
theorem sum_bound (f : List UInt8 → List UInt8) (n : Nat) : ∀ xs : List (List UInt8), (∀ x ∈ xs, (f x).length ≤ n) → ((xs.map f).map fun x => x.length + 1).sum ≤ xs.length * (n + 1)
  | [], _ => by simp
  | x :: r, h => by
    have ih := sum_bound f n r fun y hy => h y (List.mem_cons_of_mem _ hy)
    have := h x List.mem_cons_self
    simp only [List.map_cons, List.sum_cons, List.length_cons, Nat.add_mul]
    omega
theorem join_bound (xs : List (List UInt8)) (sep : List UInt8) (n : Nat) (hs : sep.length ≤ 1) (h : (xs.map fun x => x.length + 1).sum ≤ n) : (Lib.join xs sep).length ≤ n := by
  have key : ∀ xs : List (List UInt8), (Lib.join xs sep).length ≤ (xs.map fun x => x.length + 1).sum := by
    intro xs
    match xs with
    | [] => simp [Lib.join]
    | [x] => simp [Lib.join_one]
    | x :: y :: r =>
      have ih : ∀ (zs : List (List UInt8)) (z : List UInt8), (Lib.join (z :: zs) sep).length ≤ ((z :: zs).map fun x => x.length + 1).sum := by
        intro zs
        induction zs with
        | nil => intro z; simp [Lib.join_one]
        | cons u t iht =>
          intro z
          rw [join_cons2]
          have := iht u
          simp only [List.length_append, List.map_cons, List.sum_cons] at this ⊢
          omega
      exact ih (y :: r) x
  exact Nat.le_trans (key xs) h
def tellV (k w : Int) (a b : List UInt8) (e : Int) : List UInt8 :=
  if nameV k = [] then [] else if phraseV w = [] then [] else nameV k ++ [58, 32] ++ sayV w (quoteL a) (quoteL b) (msgV e)
theorem nameV_len (k : Int) : (nameV k).length ≤ 10 := by
  have key : ∀ (c : Prop) [Decidable c] (x y : List UInt8), x.length ≤ 10 → y.length ≤ 10 → (if c then x else y).length ≤ 10 := fun c _ x y hx hy => by
    by_cases h : c
    · rw [if_pos h]; exact hx
    · rw [if_neg h]; exact hy
  unfold nameV
  repeat' (first | decide | refine key _ _ _ (by decide) ?_)
set_option maxRecDepth 100000 in
set_option maxHeartbeats 2000000 in
theorem tell_fun (k w : Int) (a b : List UInt8) (e : Int) (ha : a.length ≤ 1000) (hb : b.length ≤ 1000) : Fun Tryd.prog G2 11 [.sc (.int .i64 k), .sc (.int .i64 w), .str a, .str b, .sc (.int .i64 e)] (.str (tellV k w a b e)) 0 := by
  have h1 := argsName_fun k
  have h2 := phrase_fun w
  have hnl := nameV_len k
  by_cases hn : nameV k = []
  · rw [hn] at h1
    refine Fun.of (fun _ => []) (by kernel_rfl) Tryd.func11 rfl rfl (Nat.le_of_ble_eq_true rfl) (by kernel_rfl) ?_; dsimp only [Tryd.f11, List.append_eq, List.cons_append, List.nil_append]
    simp -dsimp only [push_cast, ↓reduceIte, Nat.reduceAdd, Nat.reduceMul, Nat.reduceSub, Nat.reduceLeDiff, Nat.reduceEqDiff, Nat.reduceBEq, Int.reduceToNat, Nat.reduceLT, Int.reduceEq, Int.reduceLT, Int.reduceLE, Int.reduceAdd, Int.reduceSub, Int.reduceMul, reduceCtorEq, Bool.not_false, Bool.not_true, Bool.true_beq, Bool.false_beq, beq_self_eq_true, Bool.true_and]
    (first | refine call (h1) ?_ | refine callP (h1) ?_); simp -dsimp only [push_cast, ↓reduceIte, Nat.reduceAdd, Nat.reduceMul, Nat.reduceSub, Nat.reduceLeDiff, Nat.reduceEqDiff, Nat.reduceBEq, Int.reduceToNat, Nat.reduceLT, Int.reduceEq, Int.reduceLT, Int.reduceLE, Int.reduceAdd, Int.reduceSub, Int.reduceMul, reduceCtorEq, Bool.not_false, Bool.not_true, Bool.true_beq, Bool.false_beq, beq_self_eq_true, Bool.true_and]
    (first | refine call (h2) ?_ | refine callP (h2) ?_); simp -dsimp only [push_cast, ↓reduceIte, Nat.reduceAdd, Nat.reduceMul, Nat.reduceSub, Nat.reduceLeDiff, Nat.reduceEqDiff, Nat.reduceBEq, Int.reduceToNat, Nat.reduceLT, Int.reduceEq, Int.reduceLT, Int.reduceLE, Int.reduceAdd, Int.reduceSub, Int.reduceMul, reduceCtorEq, Bool.not_false, Bool.not_true, Bool.true_beq, Bool.false_beq, beq_self_eq_true, Bool.true_and]
    exact ⟨[], rfl, rfl, by simp -dsimp only [WeakTm, WeakBx, CLe, CLeL, push_cast, ↓reduceIte, Nat.reduceAdd, Nat.reduceMul, Nat.reduceSub, Nat.reduceLeDiff, Nat.reduceEqDiff, Nat.reduceBEq, Int.reduceToNat, Nat.reduceLT, Int.reduceEq, Int.reduceLT, Int.reduceLE, Int.reduceAdd, Int.reduceSub, Int.reduceMul, reduceCtorEq, Bool.not_false, Bool.not_true, Bool.true_beq, Bool.false_beq, beq_self_eq_true, Bool.true_and] <;> simp [tellV, hn]⟩
  by_cases hp : phraseV w = []
  · rw [hp] at h2
    refine Fun.of (fun _ => []) (by kernel_rfl) Tryd.func11 rfl rfl (Nat.le_of_ble_eq_true rfl) (by kernel_rfl) ?_; dsimp only [Tryd.f11, List.append_eq, List.cons_append, List.nil_append]
    simp -dsimp only [push_cast, ↓reduceIte, Nat.reduceAdd, Nat.reduceMul, Nat.reduceSub, Nat.reduceLeDiff, Nat.reduceEqDiff, Nat.reduceBEq, Int.reduceToNat, Nat.reduceLT, Int.reduceEq, Int.reduceLT, Int.reduceLE, Int.reduceAdd, Int.reduceSub, Int.reduceMul, reduceCtorEq, Bool.not_false, Bool.not_true, Bool.true_beq, Bool.false_beq, beq_self_eq_true, Bool.true_and]
    (first | refine call (h1) ?_ | refine callP (h1) ?_); simp -dsimp only [push_cast, ↓reduceIte, Nat.reduceAdd, Nat.reduceMul, Nat.reduceSub, Nat.reduceLeDiff, Nat.reduceEqDiff, Nat.reduceBEq, Int.reduceToNat, Nat.reduceLT, Int.reduceEq, Int.reduceLT, Int.reduceLE, Int.reduceAdd, Int.reduceSub, Int.reduceMul, reduceCtorEq, Bool.not_false, Bool.not_true, Bool.true_beq, Bool.false_beq, beq_self_eq_true, Bool.true_and]
    (first | refine call (h2) ?_ | refine callP (h2) ?_); simp -dsimp only [push_cast, ↓reduceIte, Nat.reduceAdd, Nat.reduceMul, Nat.reduceSub, Nat.reduceLeDiff, Nat.reduceEqDiff, Nat.reduceBEq, Int.reduceToNat, Nat.reduceLT, Int.reduceEq, Int.reduceLT, Int.reduceLE, Int.reduceAdd, Int.reduceSub, Int.reduceMul, reduceCtorEq, Bool.not_false, Bool.not_true, Bool.true_beq, Bool.false_beq, beq_self_eq_true, Bool.true_and, hn]
    exact ⟨[], rfl, rfl, by simp -dsimp only [WeakTm, WeakBx, CLe, CLeL, push_cast, ↓reduceIte, Nat.reduceAdd, Nat.reduceMul, Nat.reduceSub, Nat.reduceLeDiff, Nat.reduceEqDiff, Nat.reduceBEq, Int.reduceToNat, Nat.reduceLT, Int.reduceEq, Int.reduceLT, Int.reduceLE, Int.reduceAdd, Int.reduceSub, Int.reduceMul, reduceCtorEq, Bool.not_false, Bool.not_true, Bool.true_beq, Bool.false_beq, beq_self_eq_true, Bool.true_and] <;> simp [tellV, hn, hp]⟩
  obtain ⟨hws, hpl⟩ : (∀ x ∈ splc 32 (phraseV w), x ≠ [] ∧ x.length ≤ 100) ∧ (phraseV w).length ≤ 100 := (phrase_words w).resolve_left hp
  have hin : 1 ≤ w ∧ w ≤ 22 := Classical.byContradiction fun h => hp (phrase_none w h)
  have hpw := hp
  have hsay := said_say w (quoteL a) (quoteL b) (msgV e) hin
  have hsl := splc_length 32 (phraseV w)
  have hsum := sum_bound (fun x => saidV x (quoteL a) (quoteL b) (msgV e)) 5100 (splc 32 (phraseV w)) fun x hx => by
    have := saidV_len x a b e ha hb
    have := (hws x hx).2
    omega
  have hjl := join_bound ((splc 32 (phraseV w)).map fun x => saidV x (quoteL a) (quoteL b) (msgV e)) [32] 600000 (by decide) (by
    have : (splc 32 (phraseV w)).length * (5100 + 1) ≤ 101 * 5101 := Nat.mul_le_mul_right _ (by omega)
    omega)
  have hit := splitc1_iter 32 (phraseV w) (by omega)
  generalize phraseV w = P at h2 hp hws hpl hsay hsl hsum hjl hit
  rw [hsay] at hjl
  refine Fun.of (fun i => if i = 7 then [false, false, false, false, false, false, false, true, true] else []) (by kernel_rfl) Tryd.func11 rfl rfl (Nat.le_of_ble_eq_true rfl) (by kernel_rfl) ?_; dsimp only [Tryd.f11, List.append_eq, List.cons_append, List.nil_append]
  simp -dsimp only [push_cast, ↓reduceIte, Nat.reduceAdd, Nat.reduceMul, Nat.reduceSub, Nat.reduceLeDiff, Nat.reduceEqDiff, Nat.reduceBEq, Int.reduceToNat, Nat.reduceLT, Int.reduceEq, Int.reduceLT, Int.reduceLE, Int.reduceAdd, Int.reduceSub, Int.reduceMul, reduceCtorEq, Bool.not_false, Bool.not_true, Bool.true_beq, Bool.false_beq, beq_self_eq_true, Bool.true_and]
  (first | refine call (h1) ?_ | refine callP (h1) ?_); simp -dsimp only [push_cast, ↓reduceIte, Nat.reduceAdd, Nat.reduceMul, Nat.reduceSub, Nat.reduceLeDiff, Nat.reduceEqDiff, Nat.reduceBEq, Int.reduceToNat, Nat.reduceLT, Int.reduceEq, Int.reduceLT, Int.reduceLE, Int.reduceAdd, Int.reduceSub, Int.reduceMul, reduceCtorEq, Bool.not_false, Bool.not_true, Bool.true_beq, Bool.false_beq, beq_self_eq_true, Bool.true_and]
  (first | refine call (h2) ?_ | refine callP (h2) ?_); simp -dsimp only [push_cast, ↓reduceIte, Nat.reduceAdd, Nat.reduceMul, Nat.reduceSub, Nat.reduceLeDiff, Nat.reduceEqDiff, Nat.reduceBEq, Int.reduceToNat, Nat.reduceLT, Int.reduceEq, Int.reduceLT, Int.reduceLE, Int.reduceAdd, Int.reduceSub, Int.reduceMul, reduceCtorEq, Bool.not_false, Bool.not_true, Bool.true_beq, Bool.false_beq, beq_self_eq_true, Bool.true_and, hn, hp]
  refine callB [] [] ((SplitcSeq_fun 32 P).glob0) rfl (by simp) (by simp) (fun i hi => by cases hi) (by simp -dsimp only [push_cast, ↓reduceIte, Nat.reduceAdd, Nat.reduceMul, Nat.reduceSub, Nat.reduceLeDiff, Nat.reduceEqDiff, Nat.reduceBEq, Int.reduceToNat, Nat.reduceLT, Int.reduceEq, Int.reduceLT, Int.reduceLE, Int.reduceAdd, Int.reduceSub, Int.reduceMul, reduceCtorEq, Bool.not_false, Bool.not_true, Bool.true_beq, Bool.false_beq, beq_self_eq_true, Bool.true_and]) rfl ?_
  simp -dsimp only [push_cast, ↓reduceIte, Nat.reduceAdd, Nat.reduceMul, Nat.reduceSub, Nat.reduceLeDiff, Nat.reduceEqDiff, Nat.reduceBEq, Int.reduceToNat, Nat.reduceLT, Int.reduceEq, Int.reduceLT, Int.reduceLE, Int.reduceAdd, Int.reduceSub, Int.reduceMul, reduceCtorEq, Bool.not_false, Bool.not_true, Bool.true_beq, Bool.false_beq, beq_self_eq_true, Bool.true_and]
  refine range (strs (splc 32 P)) (fun _ => false) 4 (fun j => ⟨[], [[.str a], [.str b], [.sc (.int .i64 e)], [.own 0 9 1 (strs (((splc 32 P).take j).map fun x => saidV x (quoteL a) (quoteL b) (msgV e)))]], 1, 0⟩) hit.glob0 (by simp -dsimp only [push_cast, ↓reduceIte, Nat.reduceAdd, Nat.reduceMul, Nat.reduceSub, Nat.reduceLeDiff, Nat.reduceEqDiff, Nat.reduceBEq, Int.reduceToNat, Nat.reduceLT, Int.reduceEq, Int.reduceLT, Int.reduceLE, Int.reduceAdd, Int.reduceSub, Int.reduceMul, reduceCtorEq, Bool.not_false, Bool.not_true, Bool.true_beq, Bool.false_beq, beq_self_eq_true, Bool.true_and]) (by simp -dsimp only [push_cast, ↓reduceIte, Nat.reduceAdd, Nat.reduceMul, Nat.reduceSub, Nat.reduceLeDiff, Nat.reduceEqDiff, Nat.reduceBEq, Int.reduceToNat, Nat.reduceLT, Int.reduceEq, Int.reduceLT, Int.reduceLE, Int.reduceAdd, Int.reduceSub, Int.reduceMul, reduceCtorEq, Bool.not_false, Bool.not_true, Bool.true_beq, Bool.false_beq, beq_self_eq_true, Bool.true_and]) (by simp -dsimp only [push_cast, ↓reduceIte, Nat.reduceAdd, Nat.reduceMul, Nat.reduceSub, Nat.reduceLeDiff, Nat.reduceEqDiff, Nat.reduceBEq, Int.reduceToNat, Nat.reduceLT, Int.reduceEq, Int.reduceLT, Int.reduceLE, Int.reduceAdd, Int.reduceSub, Int.reduceMul, reduceCtorEq, Bool.not_false, Bool.not_true, Bool.true_beq, Bool.false_beq, beq_self_eq_true, Bool.true_and]) (Nat.zero_le _) (by simp -dsimp only [push_cast, ↓reduceIte, Nat.reduceAdd, Nat.reduceMul, Nat.reduceSub, Nat.reduceLeDiff, Nat.reduceEqDiff, Nat.reduceBEq, Int.reduceToNat, Nat.reduceLT, Int.reduceEq, Int.reduceLT, Int.reduceLE, Int.reduceAdd, Int.reduceSub, Int.reduceMul, reduceCtorEq, Bool.not_false, Bool.not_true, Bool.true_beq, Bool.false_beq, beq_self_eq_true, Bool.true_and]) (fun it h => ?_) (fun j _ => rfl) ?_ (fun j it hj hsf => ?_) (fun hsf => ?_)
  · obtain ⟨x, _, rfl⟩ := List.mem_map.1 h; rfl
  · exact Weak.mk [.inr (9, 1)] rfl rfl (Nat.le_refl _) rfl (by simp -dsimp only [WeakTm, WeakBx, CLe, CLeL, push_cast, ↓reduceIte, Nat.reduceAdd, Nat.reduceMul, Nat.reduceSub, Nat.reduceLeDiff, Nat.reduceEqDiff, Nat.reduceBEq, Int.reduceToNat, Nat.reduceLT, Int.reduceEq, Int.reduceLT, Int.reduceLE, Int.reduceAdd, Int.reduceSub, Int.reduceMul, reduceCtorEq, Bool.not_false, Bool.not_true, Bool.true_beq, Bool.false_beq, beq_self_eq_true, Bool.true_and]) (by simp -dsimp only [WeakTm, WeakBx, CLe, CLeL, push_cast, ↓reduceIte, Nat.reduceAdd, Nat.reduceMul, Nat.reduceSub, Nat.reduceLeDiff, Nat.reduceEqDiff, Nat.reduceBEq, Int.reduceToNat, Nat.reduceLT, Int.reduceEq, Int.reduceLT, Int.reduceLE, Int.reduceAdd, Int.reduceSub, Int.reduceMul, reduceCtorEq, Bool.not_false, Bool.not_true, Bool.true_beq, Bool.false_beq, beq_self_eq_true, Bool.true_and])
  · obtain ⟨x, hx, rfl⟩ := strs_get hj
    have hjl2 : j < (splc 32 P).length := (List.getElem?_eq_some_iff.1 hx).1
    have hxw := hws x (List.mem_of_getElem? hx)
    have hs1 := said_fun x a b e hxw.1 (by omega) ha hb
    simp -dsimp only [push_cast, ↓reduceIte, Nat.reduceAdd, Nat.reduceMul, Nat.reduceSub, Nat.reduceLeDiff, Nat.reduceEqDiff, Nat.reduceBEq, Int.reduceToNat, Nat.reduceLT, Int.reduceEq, Int.reduceLT, Int.reduceLE, Int.reduceAdd, Int.reduceSub, Int.reduceMul, reduceCtorEq, Bool.not_false, Bool.not_true, Bool.true_beq, Bool.false_beq, beq_self_eq_true, Bool.true_and]
    (first | refine call (hs1) ?_ | refine callP (hs1) ?_); simp -dsimp only [push_cast, ↓reduceIte, Nat.reduceAdd, Nat.reduceMul, Nat.reduceSub, Nat.reduceLeDiff, Nat.reduceEqDiff, Nat.reduceBEq, Int.reduceToNat, Nat.reduceLT, Int.reduceEq, Int.reduceLT, Int.reduceLE, Int.reduceAdd, Int.reduceSub, Int.reduceMul, reduceCtorEq, Bool.not_false, Bool.not_true, Bool.true_beq, Bool.false_beq, beq_self_eq_true, Bool.true_and]
    (try simp only [List.length_append, List.length_cons, List.length_nil, List.length_map, List.length_take, List.length_drop]); repeat (refine And.intro (by omega) ?_)
    refine Weak.mk [.inl 0] rfl rfl (Nat.le_refl _) rfl (by simp -dsimp only [WeakTm, WeakBx, CLe, CLeL, push_cast, ↓reduceIte, Nat.reduceAdd, Nat.reduceMul, Nat.reduceSub, Nat.reduceLeDiff, Nat.reduceEqDiff, Nat.reduceBEq, Int.reduceToNat, Nat.reduceLT, Int.reduceEq, Int.reduceLT, Int.reduceLE, Int.reduceAdd, Int.reduceSub, Int.reduceMul, reduceCtorEq, Bool.not_false, Bool.not_true, Bool.true_beq, Bool.false_beq, beq_self_eq_true, Bool.true_and]) ?_
    simp -dsimp only [WeakTm, WeakBx, CLe, CLeL, push_cast, ↓reduceIte, Nat.reduceAdd, Nat.reduceMul, Nat.reduceSub, Nat.reduceLeDiff, Nat.reduceEqDiff, Nat.reduceBEq, Int.reduceToNat, Nat.reduceLT, Int.reduceEq, Int.reduceLT, Int.reduceLE, Int.reduceAdd, Int.reduceSub, Int.reduceMul, reduceCtorEq, Bool.not_false, Bool.not_true, Bool.true_beq, Bool.false_beq, beq_self_eq_true, Bool.true_and]
    rw [List.take_add_one, hx]
    simp
  · have htk : (splc 32 P).take (splc 32 P).length = splc 32 P := List.take_length
    have j1 := ((join_fun ((splc 32 P).map fun x => saidV x (quoteL a) (quoteL b) (msgV e)) [32] (by rw [List.length_map]; omega) (by rw [hsay]; omega)).res (congrArg C.str hsay)).glob0 (G' := G2)
    have j2 := ((line_fun [nameV k, sayV w (quoteL a) (quoteL b) (msgV e)] (by simp) (by rw [join_cons2, Lib.join_one]; simp only [List.length_append, List.length_cons, List.length_nil]; omega)).res (congrArg C.str (show _ = tellV k w a b e by rw [join_cons2, Lib.join_one, tellV, if_neg hn, if_neg hpw]))).glob0 (G' := G2)
    simp -dsimp only [push_cast, ↓reduceIte, Nat.reduceAdd, Nat.reduceMul, Nat.reduceSub, Nat.reduceLeDiff, Nat.reduceEqDiff, Nat.reduceBEq, Int.reduceToNat, Nat.reduceLT, Int.reduceEq, Int.reduceLT, Int.reduceLE, Int.reduceAdd, Int.reduceSub, Int.reduceMul, reduceCtorEq, Bool.not_false, Bool.not_true, Bool.true_beq, Bool.false_beq, beq_self_eq_true, Bool.true_and, htk]
    (first | refine call (j1) ?_ | refine callP (j1) ?_); simp -dsimp only [push_cast, ↓reduceIte, Nat.reduceAdd, Nat.reduceMul, Nat.reduceSub, Nat.reduceLeDiff, Nat.reduceEqDiff, Nat.reduceBEq, Int.reduceToNat, Nat.reduceLT, Int.reduceEq, Int.reduceLT, Int.reduceLE, Int.reduceAdd, Int.reduceSub, Int.reduceMul, reduceCtorEq, Bool.not_false, Bool.not_true, Bool.true_beq, Bool.false_beq, beq_self_eq_true, Bool.true_and]
    (first | refine call (j2) ?_ | refine callP (j2) ?_); simp -dsimp only [push_cast, ↓reduceIte, Nat.reduceAdd, Nat.reduceMul, Nat.reduceSub, Nat.reduceLeDiff, Nat.reduceEqDiff, Nat.reduceBEq, Int.reduceToNat, Nat.reduceLT, Int.reduceEq, Int.reduceLT, Int.reduceLE, Int.reduceAdd, Int.reduceSub, Int.reduceMul, reduceCtorEq, Bool.not_false, Bool.not_true, Bool.true_beq, Bool.false_beq, beq_self_eq_true, Bool.true_and]
    exact ⟨[], rfl, rfl, by simp -dsimp only [WeakTm, WeakBx, CLe, CLeL, push_cast, ↓reduceIte, Nat.reduceAdd, Nat.reduceMul, Nat.reduceSub, Nat.reduceLeDiff, Nat.reduceEqDiff, Nat.reduceBEq, Int.reduceToNat, Nat.reduceLT, Int.reduceEq, Int.reduceLT, Int.reduceLE, Int.reduceAdd, Int.reduceSub, Int.reduceMul, reduceCtorEq, Bool.not_false, Bool.not_true, Bool.true_beq, Bool.false_beq, beq_self_eq_true, Bool.true_and]⟩
end Go.Proofs.YtbkdmegjgakjpaaDoor.Vcg
