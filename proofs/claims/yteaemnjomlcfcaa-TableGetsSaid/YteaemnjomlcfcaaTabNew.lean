/- A table of a root alone: the program's way, the reference's. -/
import Derived.Test.YteaemnjomlcfcaaTabRef2
set_option linter.unusedVariables false
set_option linter.unusedSimpArgs false
namespace Go.Proofs.Yteaemnjomlcfcaa.Tab
open Go.RowKit Go.Proofs.Yteaemnjomlcfcaa.Kit
def Nod.root : Nod := ⟨1, 2, 0, ⟨#[]⟩, 1, none, 0, []⟩
def NewPost (i b : Int) (B : Nat) (w : World) (e : Ending) (w' : World) : Prop :=
  ∃ v, e = .returned (.tuple #[FsVal i b 2 v, .int .i64 0]) ∧ OwnNods w' B v [Nod.root] ∧ Below B w w'
def NewBad (B : Nat) (w : World) (e : Ending) (w' : World) : Prop := e = .returned (.tuple #[FsVal 0 0 0 (.slice none 0 0), .int .i64 9]) ∧ Below B w w'
theorem own_root (w : World) (B : Nat) (h : B ≤ w.heap.size) (b : Nat) (hb : b = w.heap.size) :
    OwnNods (w.alloc (.cells #[.int .i64 1, .int .i64 2, .int .i64 0, .string ⟨#[]⟩, .int .i64 1, .slice none 0 0] 35)) B (.slice (some ⟨b, 0, none⟩) 1 1) [Nod.root] := by
  subst hb
  exact World.ownsRow_lit w _ 1 h (by decide) rfl
set_option maxHeartbeats 4000000 in
set_option maxRecDepth 100000 in
theorem new_walk (i b : Int) (w : World) (h1 : 1 ≤ i) (h2 : i ≤ 1073741824) (h3 : 0 ≤ b) (h4 : b ≤ 1073741824) :
    Calls Try.prog 10 #[.int .i64 i, .int .i64 b] w (NewPost i b w.heap.size w) := by
  go_enter Try.func10, Try.ntmps10
  go_wp2
  refine bodyPost_ret (v := .tuple #[FsVal i b 2 (.slice (some ⟨w.heap.size + 1 + 1, 0, none⟩) 1 1), .int .i64 0]) ?_ rfl ?_
  · rw [results_cell_tmp rfl]; go_simp; rfl
  · exact ⟨_, rfl, own_root _ _ (by simp; omega) _ (by simp), by (repeat' (first | with_reducible assumption | with_reducible exact Below.refl _ _ | with_reducible refine Below.setCell ?_ ?_ _ | with_reducible refine Below.alloc ?_ ?_ _ | with_reducible refine Below.drew ?_ | omega | (simp; done) | (simp; omega)))⟩
set_option maxHeartbeats 4000000 in
set_option maxRecDepth 100000 in
theorem new_bad (i b : Int) (w : World) (h : ¬ (1 ≤ i ∧ i ≤ 1073741824 ∧ 0 ≤ b ∧ b ≤ 1073741824)) :
    Calls Try.prog 10 #[.int .i64 i, .int .i64 b] w (NewBad w.heap.size w) := by
  by_cases h1 : i < 1
  · clear h
    go_enter Try.func10, Try.ntmps10
    go_wp2
    refine bodyPost_ret (v := .tuple #[FsVal 0 0 0 (.slice none 0 0), .int .i64 9]) ?_ rfl ?_
    · rw [results_cell_tmp rfl]; go_simp; rfl
    · exact ⟨rfl, by (repeat' (first | with_reducible assumption | with_reducible exact Below.refl _ _ | with_reducible refine Below.setCell ?_ ?_ _ | with_reducible refine Below.alloc ?_ ?_ _ | with_reducible refine Below.drew ?_ | omega | (simp; done) | (simp; omega)))⟩
  · by_cases h2 : 1073741824 < i
    · clear h
      go_enter Try.func10, Try.ntmps10
      go_wp2
      refine bodyPost_ret (v := .tuple #[FsVal 0 0 0 (.slice none 0 0), .int .i64 9]) ?_ rfl ?_
      · rw [results_cell_tmp rfl]; go_simp; rfl
      · exact ⟨rfl, by (repeat' (first | with_reducible assumption | with_reducible exact Below.refl _ _ | with_reducible refine Below.setCell ?_ ?_ _ | with_reducible refine Below.alloc ?_ ?_ _ | with_reducible refine Below.drew ?_ | omega | (simp; done) | (simp; omega)))⟩
    · by_cases h3 : b < 0
      · clear h
        go_enter Try.func10, Try.ntmps10
        go_wp2
        refine bodyPost_ret (v := .tuple #[FsVal 0 0 0 (.slice none 0 0), .int .i64 9]) ?_ rfl ?_
        · rw [results_cell_tmp rfl]; go_simp; rfl
        · exact ⟨rfl, by (repeat' (first | with_reducible assumption | with_reducible exact Below.refl _ _ | with_reducible refine Below.setCell ?_ ?_ _ | with_reducible refine Below.alloc ?_ ?_ _ | with_reducible refine Below.drew ?_ | omega | (simp; done) | (simp; omega)))⟩
      · have h4 : 1073741824 < b := by omega
        clear h
        go_enter Try.func10, Try.ntmps10
        go_wp2
        refine bodyPost_ret (v := .tuple #[FsVal 0 0 0 (.slice none 0 0), .int .i64 9]) ?_ rfl ?_
        · rw [results_cell_tmp rfl]; go_simp; rfl
        · exact ⟨rfl, by (repeat' (first | with_reducible assumption | with_reducible exact Below.refl _ _ | with_reducible refine Below.setCell ?_ ?_ _ | with_reducible refine Below.alloc ?_ ?_ _ | with_reducible refine Below.drew ?_ | omega | (simp; done) | (simp; omega)))⟩
set_option maxHeartbeats 4000000 in
set_option maxRecDepth 100000 in
theorem rnew_walk (i b : Int) (w : World) :
    Calls Try.prog 12 #[.int .i64 i, .int .i64 b] w (FsPost i b 2 [Nod.root] w.heap.size w) := by
  go_enter Try.func12, Try.ntmps12
  go_wp2
  refine bodyPost_ret (v := FsVal i b 2 (.slice (some ⟨w.heap.size + 1, 0, none⟩) 1 1)) ?_ rfl ?_
  · rw [results_cell1 rfl]; go_simp; rfl
  · exact ⟨_, rfl, own_root _ _ (by simp) _ (by simp), by (repeat' (first | with_reducible assumption | with_reducible exact Below.refl _ _ | with_reducible refine Below.setCell ?_ ?_ _ | with_reducible refine Below.alloc ?_ ?_ _ | with_reducible refine Below.drew ?_ | omega | (simp; done) | (simp; omega)))⟩
end Go.Proofs.Yteaemnjomlcfcaa.Tab
