/- A copy of a list of inodes in memory of its own. -/
import Derived.Test.YteaemnjomlcfcaaTabWalk8
import Derived.Test.YteaemnjomlcfcaaTabOwn
import Derived.Test.YteaemnjomlcfcaaTabCopy
import Derived.OwnWalk
set_option linter.unusedVariables false
set_option linter.unusedSimpArgs false
namespace Go.Proofs.Yteaemnjomlcfcaa.Tab
open Go.RowKit Go.Proofs.Yteaemnjomlcfcaa.Kit
theorem info_inode : (Try.prog.info? 35).map (fun i => (i.zero, i.size, i.bytes)) = some (some Nod.zero.val, 6, 72) := by kernel_rfl
def ClonePost (B : Nat) (w : World) (xs : List Nod) (e : Ending) (w' : World) : Prop := ∃ v, e = .returned v ∧ OwnNods w' B v xs ∧ Below B w w'
set_option maxHeartbeats 4000000 in
set_option maxRecDepth 100000 in
theorem clone_walk (xs : List Nod) (a : Option Addr) (c : Nat) (w : World) (hN : Nods w a c xs) (hz : xs.length ≤ 1000000) :
    Calls Try.prog 27 #[.slice a xs.length c] w (ClonePost w.heap.size w xs) := by
  cases a with
  | none =>
    have h0 : xs = [] := by
      rcases hN.1.2.2 with h | ⟨b, o, e, _⟩
      · exact h
      · cases e
    subst h0
    clear hN
    have hnl := fun W => Lib.run_eql_slice_nil (P := Try.prog) W 23 35 none 0 c 0 0 Try.underlying23
    go_enter Try.func27, Try.ntmps27
    go_wp2
    go_ret
    exact ⟨_, rfl, World.ownsRow_nil _ _ _ _, Below.refl _ _⟩
  | some ad =>
    obtain ⟨i0, hi, hz0, hz1, hz2⟩ := info_parts info_inode
    have hl : (xs.flatMap Nod.cells).length = xs.length * 6 := flat_len Nod.cells_length xs
    have hfl := hN.1.flat Nod.cells_length (by decide) (ad := ad) rfl
    have hnews : ∀ j u, (xs.flatMap Nod.cells)[j]? = some u → (w.alloc (.cells #[] 35)).cell? (ad.add j) = some u := fun j u h => Lib.cell?_alloc_some _ (hfl j u h)
    have hown : (w.alloc (.cells #[] 35)).ownsRow w.heap.size 35 6 (.slice (some ⟨w.heap.size, 0, none⟩) 0 0) 0 [] := World.ownsRow_made w #[] 0 (Nat.le_refl _) (by decide) rfl
    have h1 := Nod.oneCells xs
    obtain ⟨ys, hys⟩ : ∃ ys, ys = xs.flatMap Nod.cells := ⟨_, rfl⟩
    rw [← hys] at hl hnews h1
    have HY := Lib.hid hys
    have HN := Lib.hid hnews
    have H1 := Lib.hid h1
    have HL := Lib.hid hl
    have HO := Lib.hid hown
    obtain ⟨ab, ao, asp⟩ := ad
    clear hN hfl hys hnews h1 hl hown
    have hnl := fun W => Lib.run_eql_slice_nil (P := Try.prog) W 23 35 (some ⟨ab, ao, asp⟩) xs.length c 0 0 Try.underlying23
    go_enter Try.func27, Try.ntmps27
    go_wp2_with (at_builtin; refine wpList_append_own _ rfl _ _ 23 rfl w.heap.size 35 i0 Nod.zero.val 6 72 Try.underlying23 hi hz0 hz1 hz2 rfl (by decide) (.slice (some ⟨w.heap.size, 0, none⟩) 0 0) 0 [] rfl HO.out ⟨ab, ao, asp⟩ xs.length c ys rfl HL.out HN.out H1.out (by unfold maxLen; omega) (by omega) (by simp) ?_; intro v' w1 hown' hgrow _)
    go_ret
    refine ⟨_, rfl, ?_, ?_⟩
    · have := hown'
      rw [Nat.zero_add, List.nil_append, HY.out] at this
      exact this
    · refine ⟨hgrow.os, hgrow.tape, hgrow.output, ?_, ?_⟩
      · have := hgrow.size; simp at this; omega
      · intro i hlt
        rw [hgrow.block i (by simp; omega) (by simp [Value.ownBlock]; omega)]
        exact Below.heap_alloc w _ i hlt
end Go.Proofs.Yteaemnjomlcfcaa.Tab
