/- An inode taken out of a list that lies in memory of its own. -/
import Derived.Test.YteaemnjomlcfcaaTabIns
set_option linter.unusedVariables false
set_option linter.unusedSimpArgs false
namespace Go.Proofs.Yteaemnjomlcfcaa.Tab
open Go.RowKit Go.Proofs.Yteaemnjomlcfcaa.Kit
set_option maxHeartbeats 4000000 in
set_option maxRecDepth 100000 in
theorem del_walk (xs : List Nod) (v : Value) (i : Nat) (B : Nat) (w : World) (hown : OwnNods w B v xs) (hi : i < xs.length) (hz : xs.length ≤ 1000000) :
    Calls Try.prog 28 #[v, .int .i64 i, .int .i64 ((i : Int) + 1)] w (InsPost B w (xs.take i ++ xs.drop (i + 1))) := by
  obtain ⟨g, cap, cur, rfl, hBg, hgw, hg, hnc, hcm, hcur, hxs⟩ := hown.some (by omega)
  have hcap' : (cap : Int) ≤ 9223372036854775807 := by unfold maxLen at hcm; omega
  have hb1 : (0 : Int) ≤ (i : Int) + 1 := by omega
  have htn : ((i : Int) + 1).toNat = i + 1 := by omega
  have hb2 : ((i : Int) == (i : Int) + 1) = false := beq_eq_false_iff_ne.2 (by omega)
  have hb3 : (i : Int) ≤ (i : Int) + 1 := by omega
  have hb4 : (i : Int) + 1 ≤ (xs.length : Int) := by omega
  have hb5 : ¬ (cap = i) := by omega
  have hb6 : (i : Int) ≤ (cap : Int) := by omega
  have hfl : (xs.flatMap Nod.cells).length = xs.length * 6 := flat_len Nod.cells_length xs
  have hct : cur.toList.length = cap * 6 := by rw [← hcur]; exact Array.length_toList
  obtain ⟨i0, hi0, hz0, hz1, hzb⟩ := info_parts info_inode
  have hdl : ((xs.drop (i + 1)).flatMap Nod.cells).length = (xs.length - (i + 1)) * 6 := by rw [flat_len Nod.cells_length, List.length_drop]
  obtain ⟨C1, hC1⟩ : ∃ C1, C1 = splice cur.toList (i * 6) ((xs.drop (i + 1)).flatMap Nod.cells) := ⟨_, rfl⟩
  have hC1l : C1.length = cap * 6 := by rw [hC1, length_splice _ _ _ (by rw [hdl, hct]; omega), hct]
  obtain ⟨ad, had⟩ : ∃ ad : Addr, ad = (if cap = i + 1 then ⟨g, 0, none⟩ else ⟨g, (i + 1) * 6, none⟩) := ⟨_, rfl⟩
  have hap : ∀ ty sc, (Builtin.append_ #[23, 23] ty #[.slice (Option.some ⟨g, 0, none⟩) i cap, .slice (Option.some ad) (xs.length - (i + 1)) sc]).run Try.prog w.drew = .ok (.slice (Option.some ⟨g, 0, none⟩) (xs.length - 1) cap) (w.drew.setRow g C1.toArray) := fun ty sc => by
    rw [hC1, show xs.length - 1 = i + (xs.length - (i + 1)) by omega]
    refine run_append_rowK w.drew _ ty 35 i0 6 Try.underlying23 hi0 hz1 g i cap cur hg ad (xs.length - (i + 1)) sc ((xs.drop (i + 1)).flatMap Nod.cells) hdl ?_ (Nod.oneCells _) (by omega) (by rw [hdl, hcur]; omega)
    by_cases hc : cap = i + 1
    · have h0 : xs.length - (i + 1) = 0 := by omega
      rw [h0] at hdl
      rw [show (xs.drop (i + 1)).flatMap Nod.cells = [] from List.length_eq_zero_iff.1 (by rw [hdl])]
      intro j u h
      simp at h
    · rw [had, if_neg hc, flat_drop]
      exact cells_at (w := w.drew) hg _ _ _ hxs
  have hg1 : (w.drew.setRow g C1.toArray).heap[g]? = Option.some (.cells C1.toArray 35 (0, 0)) := setRow_heap w.drew g cur _ _ _ hg
  obtain ⟨W1, hW1⟩ : ∃ W1, W1 = w.drew.setRow g C1.toArray := ⟨_, rfl⟩
  obtain ⟨Z, hZ⟩ : ∃ Z, Z = (Builtin.zeroCells Nod.zero.val.cells 1).toList := ⟨_, rfl⟩
  have hZl : Z.length = 6 := by rw [hZ, Array.length_toList, size_zeroCells]; rfl
  have hZ1 : ∀ u ∈ (Builtin.zeroCells Nod.zero.val.cells 1).toList, u.oneCell' = true := by
    intro u hu
    have : Builtin.zeroCells Nod.zero.val.cells 1 = Nod.zero.val.cells := by kernel_rfl
    rw [this] at hu
    exact Nod.oneCells1 Nod.zero u hu
  rw [← hW1] at hap hg1
  have hcl : ∀ (W : World), W.heap = W1.heap → ∀ ty sc, (Builtin.clear_ #[23] ty #[.slice (Option.some ⟨g, (xs.length - 1) * 6, none⟩) (xs.length - (xs.length - 1)) sc]).run Try.prog W = .ok (.tuple #[]) (W.setRow g (splice C1 ((xs.length - 1) * 6) Z).toArray) := fun W hW ty sc => by
    have hgW : W.heap[g]? = Option.some (.cells C1.toArray 35 (0, 0)) := by rw [hW]; exact hg1
    rw [hZ, show xs.length - (xs.length - 1) = 1 by omega]
    exact run_clear_rowK W 23 35 ty Nod.zero.val Try.underlying23 Try.zeroValue35 C1.toArray 35 g ((xs.length - 1) * 6) 1 sc (by omega) hgW (by show _ + 1 * 6 ≤ _; simp [hC1l]; omega) hZ1
  have hfin : ∀ W : World, W.heap = W1.heap → OwnNods (W.setRow g (splice C1 ((xs.length - 1) * 6) Z).toArray) B (.slice (Option.some ⟨g, 0, none⟩) (xs.length - 1) cap) (xs.take i ++ xs.drop (i + 1)) := fun W hW => by
    have hl : (xs.take i ++ xs.drop (i + 1)).length = xs.length - 1 := by simp; omega
    have hgW : W.heap[g]? = Option.some (.cells C1.toArray 35 (0, 0)) := by rw [hW]; exact hg1
    refine ⟨by rw [flat_len Nod.cells_length, hl], .inr ⟨g, cap, _, by rw [hl], hBg, setRow_heap W _ _ _ _ _ hgW, by rw [hl]; omega, hcm, ?_, ?_⟩⟩
    · rw [List.size_toArray, length_splice _ _ _ (by rw [hZl, hC1l]; omega), hC1l]
    · have := splice_cut cur.toList (xs.flatMap Nod.cells) ((xs.drop (i + 1)).flatMap Nod.cells) Z (i * 6) ((i + 1) * 6) ((xs.length - 1) * 6) (by rw [hfl]; omega) (by omega) (by rw [hfl]; exact hxs) (flat_drop xs (i + 1)) (by rw [hdl]; omega) (by rw [hfl, hct]; omega) (by rw [hZl, hct]; omega)
      rw [← hC1] at this
      rw [hl]
      refine this.trans ?_
      rw [List.flatMap_append, flat_take, flat_drop]
  have hB1 : Below B w W1 := by rw [hW1]; exact below_setRow (Below.refl B w).drew hBg _
  have HF := Lib.hid hfin
  have HA := Lib.hid hap
  have HC := Lib.hid hcl
  have HB := Lib.hid hB1
  have HD := Lib.hid had
  have hb7 : (xs.length : Int) - 1 = ((xs.length - 1 : Nat) : Int) := by omega
  have hb8 : ((xs.length - 1 : Nat) : Int) ≤ (xs.length : Int) := by omega
  have hb9 : ¬ (cap = xs.length - 1) := by omega
  have hb10 : (xs.length : Int) ≤ (cap : Int) := by omega
  have hb11 : xs.length - (xs.length - 1) = 1 := by omega
  have B7 := Lib.hid hb7
  have B11 := Lib.hid hb11
  clear hown hg hxs hcur hct hfl hdl hC1 hC1l hg1 hW1 hZ hZl hZ1 hfin hap hcl hz0 hz1 hzb hi0 hcm hB1 had hb7 hb11
  by_cases hc : cap = i + 1
  · have E := HD.out
    rw [if_pos hc] at E
    subst E
    clear HD
    subst hc
    go_enter Try.func28, Try.ntmps28
    go_wp2
    go_region_law (refine step_append_known rfl (.tmp 22) (.tmp 25) 23 23 rfl (.slice (Option.some ⟨g, 0, none⟩) i (i + 1)) (.slice (Option.some ⟨g, 0, none⟩) (xs.length - (i + 1)) 0) (by simp [Act.eval, Act.put]) (by simp [Act.eval, Act.put]; try omega) (HA.out _ _) ?_)
    go_wp2_with (with_reducible refine wpList_clear_known _ rfl (.tmp 31) 23 rfl (.slice (Option.some ⟨g, (xs.length - 1) * 6, none⟩) (xs.length - (xs.length - 1)) (i + 1 - (xs.length - 1))) rfl (HC.out _ rfl _ _) ?_)
    go_ret
    exact ⟨_, rfl, HF.out _ rfl, below_setRow HB.out hBg _⟩
  · have E := HD.out
    rw [if_neg hc] at E
    subst E
    go_enter Try.func28, Try.ntmps28
    go_wp2
    go_region_law (refine step_append_known rfl (.tmp 22) (.tmp 25) 23 23 rfl (.slice (Option.some ⟨g, 0, none⟩) i (cap)) (.slice (Option.some ⟨g, (i + 1) * 6, none⟩) (xs.length - (i + 1)) (cap - (i + 1))) (by simp [Act.eval, Act.put]) (by simp [Act.eval, Act.put]; try omega) (HA.out _ _) ?_)
    go_wp2_with (with_reducible refine wpList_clear_known _ rfl (.tmp 31) 23 rfl (.slice (Option.some ⟨g, (xs.length - 1) * 6, none⟩) (xs.length - (xs.length - 1)) (cap - (xs.length - 1))) rfl (HC.out _ rfl _ _) ?_)
    go_ret
    exact ⟨_, rfl, HF.out _ rfl, below_setRow HB.out hBg _⟩
end Go.Proofs.Yteaemnjomlcfcaa.Tab
