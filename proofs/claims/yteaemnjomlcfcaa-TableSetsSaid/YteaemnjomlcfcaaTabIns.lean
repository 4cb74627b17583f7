/- An inode put into a list that lies in memory of its own: in place, at the end, in a new row. -/
import Derived.Test.YteaemnjomlcfcaaTabWalk9
import Derived.Deep.RegionLaw
import Derived.Lib.AppendZerosOnto
set_option linter.unusedVariables false
set_option linter.unusedSimpArgs false
namespace Go.Proofs.Yteaemnjomlcfcaa.Tab
open Go.RowKit Go.Proofs.Yteaemnjomlcfcaa.Kit
theorem OwnNods.some {w : World} {B : Nat} {v : Value} {xs : List Nod} (h : OwnNods w B v xs) (h0 : 0 < xs.length) :
    ∃ g cap cur, v = .slice (some ⟨g, 0, none⟩) xs.length cap ∧ B ≤ g ∧ g < w.heap.size ∧ w.heap[g]? = some (.cells cur 35 (0, 0)) ∧ xs.length ≤ cap ∧ cap ≤ maxLen ∧ cur.size = cap * 6 ∧ cur.toList.take (xs.length * 6) = xs.flatMap Nod.cells := by
  rcases h.2 with ⟨_, h1⟩ | ⟨g, cap, cur, h1, h2, h3, h4⟩
  · omega
  · exact ⟨g, cap, cur, h1, h2, (Array.getElem?_eq_some_iff.1 h3).1, h3, h4⟩
theorem Nod.oneCells1 (x : Nod) : ∀ u ∈ x.cells, u.oneCell' = true := fun u h => Nod.oneCells [x] u (by simpa using h)
theorem flat_drop (xs : List Nod) (i : Nat) : (xs.drop i).flatMap Nod.cells = (xs.flatMap Nod.cells).drop (i * 6) := by
  induction xs generalizing i with
  | nil => simp
  | cons x r ih =>
    cases i with
    | zero => simp
    | succ i =>
      rw [List.drop_succ_cons, ih, List.flatMap_cons, show (i + 1) * 6 = 6 + i * 6 by omega, ← List.drop_drop, List.drop_left' (Nod.cells_length x)]
theorem flat_take (xs : List Nod) (i : Nat) : (xs.take i).flatMap Nod.cells = (xs.flatMap Nod.cells).take (i * 6) := by
  induction xs generalizing i with
  | nil => simp
  | cons x r ih =>
    cases i with
    | zero => simp
    | succ i =>
      rw [List.take_succ_cons, List.flatMap_cons, ih, List.flatMap_cons, show (i + 1) * 6 = 6 + i * 6 by omega, List.take_append, List.take_of_length_le (l := x.cells) (by rw [Nod.cells_length]; omega), Nod.cells_length, show 6 + i * 6 - 6 = i * 6 by omega]
theorem cells_at {w : World} {g : Nat} {cur : Array Value} {t : TypeId} (hg : w.heap[g]? = some (.cells cur t (0, 0))) (o : Nat) (l : List Value) (n : Nat) (hl : cur.toList.take n = l) :
    ∀ j v, (l.drop o)[j]? = some v → w.cell? ((⟨g, o, none⟩ : Addr).add j) = some v := by
  intro j v h
  rw [Addr.add_lit, cell_of_row w g (o + j) cur t (0, 0) hg]
  rw [List.getElem?_drop, ← hl, List.getElem?_take] at h
  split at h
  · simpa using h
  · cases h
theorem cells_whole {w : World} {g : Nat} {l : List Value} {t : TypeId} (hg : w.heap[g]? = some (.cells l.toArray t (0, 0))) : ∀ j v, l[j]? = some v → w.cell? ((⟨g, 0, none⟩ : Addr).add j) = some v := by
  intro j v h
  have := cells_at hg 0 l l.length (by simp) j v (by simpa using h)
  exact this
def InsPost (B : Nat) (w : World) (ys : List Nod) (e : Ending) (w' : World) : Prop := ∃ v, e = .returned v ∧ OwnNods w' B v ys ∧ Below B w w'
set_option maxHeartbeats 4000000 in
set_option maxRecDepth 100000 in
theorem ins_shift (xs : List Nod) (x : Nod) (g cap i vb : Nat) (cur : Array Value) (B : Nat) (w : World) (hg : w.heap[g]? = some (.cells cur 35 (0, 0))) (hBg : B ≤ g) (hcap : cap ≤ maxLen) (hcur : cur.size = cap * 6)
    (hxs : cur.toList.take (xs.length * 6) = xs.flatMap Nod.cells) (hi : i < xs.length) (hroom : xs.length + 1 ≤ cap) (hvb : w.heap[vb]? = some (.cells x.cells.toArray 35 (0, 0))) (hne : vb ≠ g) :
    Calls Try.prog 29 #[.slice (some ⟨g, 0, none⟩) xs.length cap, .int .i64 i, .slice (some ⟨vb, 0, none⟩) 1 1] w (InsPost B w (xs.take i ++ x :: xs.drop i)) := by
  have hcap' : (cap : Int) ≤ 9223372036854775807 := by unfold maxLen at hcap; omega
  have hz2 : ((i : Int) == (xs.length : Int)) = false := beq_eq_false_iff_ne.2 (by omega)
  have hz3 : ¬ ((cap : Int) < (xs.length : Int) + 1) := by omega
  have hin : i ≤ xs.length := by omega
  have hb2 : ¬ (cap = i + 1) := by omega
  have hb4 : ¬ (cap = i) := by omega
  have hfl : (xs.flatMap Nod.cells).length = xs.length * 6 := flat_len Nod.cells_length xs
  have hov : ∀ lb cb, (callFunc 35 #[.slice (some ⟨vb, 0, none⟩) 1 1, .slice (some ⟨g, (i + 1) * 6, none⟩) lb cb]).run Try.prog w = .ok (.value (.bool false)) w := fun lb cb => by
    rw [run_callFunc_extern Try.func35 (by kernel_rfl) (by kernel_rfl) (by kernel_rfl) (e := Extern.SlicesOverlaps.overlaps #[23, 23] #[4]) (by kernel_rfl),
      Lib.run_overlaps_apart w 23 4 35 Try.underlying23 6 Try.sizeOf35 ⟨vb, 0, none⟩ ⟨g, (i + 1) * 6, none⟩ 1 1 lb cb hne 35 35 6 cur.size (by simp [World.shape?, hvb]; rfl) (by simp [World.shape?, hg]) (by omega)
        (frozen_of_row w vb 0 _ _ hvb) (frozen_of_row w vb 6 _ _ hvb)]
    rfl
  obtain ⟨i0, hi0, hz0, hz1, hzb⟩ := info_parts info_inode
  have hsz : (Try.prog.info? 35).map (·.size) = Option.some 6 := by rw [hi0]; simp [hz1]
  have hdl : ((xs.drop i).flatMap Nod.cells).length = (xs.length - i) * 6 := by rw [flat_len Nod.cells_length, List.length_drop]
  have hct : cur.toList.length = cap * 6 := by rw [← hcur]; exact Array.length_toList
  obtain ⟨C1, hC1⟩ : ∃ C1, C1 = splice cur.toList ((i + 1) * 6) ((xs.drop i).flatMap Nod.cells) := ⟨_, rfl⟩
  have hC1l : C1.length = cap * 6 := by rw [hC1, length_splice _ _ _ (by rw [hdl, hct]; omega), hct]
  have hcp1 : ∀ ty dc sc, (Builtin.copy_ #[23, 23] ty #[.slice (some ⟨g, (i + 1) * 6, none⟩) (xs.length - i) dc, .slice (some ⟨g, i * 6, none⟩) (xs.length + 1 - i) sc]).run Try.prog w.drew = .ok (goInt (Nat.min (xs.length + 1 - i) (xs.length - i))) (w.drew.setRow g C1.toArray) := fun ty dc sc => by
    rw [hC1]
    exact run_copy_rowK w.drew _ _ ty 35 6 g ((i + 1) * 6) (xs.length - i) dc ⟨g, i * 6, none⟩ (xs.length + 1 - i) sc cur 35 ((xs.drop i).flatMap Nod.cells) Try.underlying23 hsz hg
      (by rw [hdl]; congr 1; simp only [Nat.min_def]; split <;> omega)
      (by rw [flat_drop]; exact cells_at (w := w.drew) hg _ _ _ hxs)
      (by rw [hdl, hcur]; omega) (Nod.oneCells _)
  have hg1 : (w.drew.setRow g C1.toArray).heap[g]? = Option.some (.cells C1.toArray 35 (0, 0)) := setRow_heap w.drew g cur _ _ _ hg
  have hvb1 : (w.drew.setRow g C1.toArray).heap[vb]? = Option.some (.cells x.cells.toArray 35 (0, 0)) := by rw [setRow_other w.drew g vb _ hne]; exact hvb
  obtain ⟨W1, hW1⟩ : ∃ W1, W1 = w.drew.setRow g C1.toArray := ⟨_, rfl⟩
  rw [← hW1] at hcp1 hg1 hvb1
  have hcp2 : ∀ (W : World), W.heap = W1.heap → ∀ ty dc, (Builtin.copy_ #[23, 23] ty #[.slice (some ⟨g, i * 6, none⟩) (xs.length + 1 - i) dc, .slice (some ⟨vb, 0, none⟩) 1 1]).run Try.prog W = .ok (goInt (Nat.min 1 (xs.length + 1 - i))) (W.setRow g (splice C1 (i * 6) x.cells).toArray) := fun W hW ty dc => by
    have hgW : W.heap[g]? = Option.some (.cells C1.toArray 35 (0, 0)) := by rw [hW]; exact hg1
    have hvW : W.heap[vb]? = Option.some (.cells x.cells.toArray 35 (0, 0)) := by rw [hW]; exact hvb1
    exact run_copy_rowK W _ _ ty 35 6 g (i * 6) (xs.length + 1 - i) dc ⟨vb, 0, none⟩ 1 1 C1.toArray 35 x.cells Try.underlying23 hsz hgW
      (by rw [Nod.cells_length]; simp only [Nat.min_def]; split <;> omega)
      (cells_whole hvW) (by rw [Nod.cells_length]; simp [hC1l]; omega) (Nod.oneCells1 x)
  have hfin : OwnNods (W1.setRow g (splice C1 (i * 6) x.cells).toArray) B (.slice (Option.some ⟨g, 0, none⟩) (xs.length + 1) cap) (xs.take i ++ x :: xs.drop i) := by
    have hl : (xs.take i ++ x :: xs.drop i).length = xs.length + 1 := by simp; omega
    refine ⟨by rw [flat_len Nod.cells_length, hl], .inr ⟨g, cap, _, by rw [hl], hBg, setRow_heap W1 g _ _ _ _ hg1, by rw [hl]; exact hroom, hcap, ?_, ?_⟩⟩
    · rw [List.size_toArray, length_splice _ _ _ (by rw [Nod.cells_length, hC1l]; omega), hC1l]
    · have := splice_shift cur.toList (xs.flatMap Nod.cells) ((xs.drop i).flatMap Nod.cells) x.cells (i * 6) ((i + 1) * 6) (by rw [hfl]; omega) (by rw [Nod.cells_length]; omega) (by rw [hfl]; exact hxs) (flat_drop xs i) (by rw [hfl, Nod.cells_length, hct]; omega)
      rw [← hC1, hfl, Nod.cells_length] at this
      rw [hl, show (xs.length + 1) * 6 = xs.length * 6 + 6 by omega]
      refine this.trans ?_
      rw [List.flatMap_append, List.flatMap_cons, flat_take, flat_drop]
  have hbel : Below B w (W1.setRow g (splice C1 (i * 6) x.cells).toArray) := by
    rw [hW1]
    exact below_setRow (below_setRow (Below.drew (Below.refl B w)) hBg _) hBg _
  have HF := Lib.hid hfin
  have HB := Lib.hid hbel
  have HW := Lib.hid (show W1.heap = W1.heap from rfl)
  have H1 := Lib.hid hcp1
  have H2 := Lib.hid hcp2
  clear hg hvb hxs hcur hct hfl hdl hC1 hC1l hg1 hvb1 hW1 hfin hbel hcp1 hcp2 hz0 hz1 hzb hi0 hsz hcap
  have hw1 : IntKind.i64.wrap ((i : Int) + 1) = (i : Int) + 1 := by rw [IntKind.wrap_i64]; omega
  have hb1 : (0 : Int) ≤ (i : Int) + 1 := by omega
  have htn : ((i : Int) + 1).toNat = i + 1 := by omega
  have hb3 : (i : Int) ≤ (xs.length : Int) + 1 := by omega
  go_enter Try.func29, Try.ntmps29
  go_wp2_with (simp only [hov])
  go_region_law (refine step_copy_known rfl (.tmp 73) (.tmp 76) 23 23 rfl (.slice (Option.some ⟨g, (i + 1) * 6, none⟩) (xs.length - i) (cap - (i + 1))) (.slice (Option.some ⟨g, i * 6, none⟩) (xs.length + 1 - i) (cap - i)) (by simp [Act.eval, Act.put]) (by simp [Act.eval, Act.put]) (H1.out _ _ _) ?_)
  go_wp2_with (with_reducible refine wpList_copy_known _ rfl (.tmp 80) (.tmp 81) 23 23 rfl (.slice (Option.some ⟨g, i * 6, none⟩) (xs.length + 1 - i) (cap - i)) (.slice (Option.some ⟨vb, 0, none⟩) 1 1) rfl rfl (H2.out _ rfl _ _) ?_)
  go_ret
  exact ⟨_, rfl, HF.out, HB.out⟩
set_option maxHeartbeats 4000000 in
set_option maxRecDepth 100000 in
theorem ins_grow (xs : List Nod) (x : Nod) (g cap i vb : Nat) (cur : Array Value) (B : Nat) (w : World) (hg : w.heap[g]? = some (.cells cur 35 (0, 0))) (hBw : B ≤ w.heap.size) (hz : xs.length ≤ 1000000) (hcur : cur.size = cap * 6)
    (hxs : cur.toList.take (xs.length * 6) = xs.flatMap Nod.cells) (hi : i < xs.length) (hnc : xs.length ≤ cap) (hroom : cap < xs.length + 1) (hvb : w.heap[vb]? = some (.cells x.cells.toArray 35 (0, 0))) (hne : vb ≠ g) :
    Calls Try.prog 29 #[.slice (some ⟨g, 0, none⟩) xs.length cap, .int .i64 i, .slice (some ⟨vb, 0, none⟩) 1 1] w (InsPost B w (xs.take i ++ x :: xs.drop i)) := by
  have hz2 : ((i : Int) == (xs.length : Int)) = false := beq_eq_false_iff_ne.2 (by omega)
  have hz3 : (cap : Int) < (xs.length : Int) + 1 := by omega
  have hin : i ≤ xs.length := by omega
  have hb4 : ¬ (cap = i) := by omega
  have hgw : g < w.heap.size := (Array.getElem?_eq_some_iff.1 hg).1
  have hvw : vb < w.heap.size := (Array.getElem?_eq_some_iff.1 hvb).1
  have hfl : (xs.flatMap Nod.cells).length = xs.length * 6 := flat_len Nod.cells_length xs
  obtain ⟨i0, hi0, hz0, hz1, hzb⟩ := info_parts info_inode
  have hsz : (Try.prog.info? 35).map (·.size) = Option.some 6 := by rw [hi0]; simp [hz1]
  have hik : i + (xs.length + 1 - i) = xs.length + 1 := by omega
  have hkk : (xs.length : Int) + 1 - (i : Int) = ((xs.length + 1 - i : Nat) : Int) := by omega
  have htl : ((xs.take i).flatMap Nod.cells).length = i * 6 := by rw [flat_len Nod.cells_length, List.length_take, Nat.min_eq_left (by omega)]
  have hold : (Builtin.firstCells i0.size i (.slice (Option.some ⟨g, 0, none⟩) i cap)).run Try.prog w.drew = .ok ((xs.take i).flatMap Nod.cells).toArray w.drew := by
    rw [hz1]
    refine run_firstCells_some w.drew 6 i ⟨g, 0, none⟩ i cap _ htl ?_
    have h := cells_at (w := w.drew) hg 0 ((xs.take i).flatMap Nod.cells) (i * 6) (by
      rw [flat_take, ← hxs, List.take_take, Nat.min_eq_left (by omega)])
    exact h
  obtain ⟨G, hG⟩ : ∃ G, G = grownCap w (xs.length + 1) cap 35 := ⟨_, rfl⟩
  obtain ⟨ROW, hROW⟩ : ∃ ROW : Array Value, ROW = ((xs.take i).flatMap Nod.cells).toArray ++ Builtin.zeroCells Nod.zero.val.cells (xs.length + 1 - i) ++ Builtin.zeroCells Nod.zero.val.cells (G - (xs.length + 1)) := ⟨_, rfl⟩
  have hrz : ∀ ty, (Builtin.append_ #[23, 3] ty #[.slice (Option.some ⟨g, 0, none⟩) i cap, .int .i64 ((xs.length : Int) + 1 - (i : Int))]).run Try.prog w =
      .ok (.slice (Option.some ⟨w.heap.size, 0, none⟩) (xs.length + 1) G) (w.drew.alloc (.cells ROW 35)) := fun ty => by
    have h := Lib.run_append_grow_zeros w 23 3 ty 35 i0 _ .i64 .i64 Try.underlying23 Try.underlying3 hi0 hz0 (Option.some ⟨g, 0, none⟩) i cap ((xs.take i).flatMap Nod.cells) hold (xs.length + 1 - i) (by omega) (by omega) (by omega) (by omega) (by rw [hzb]; omega) (by rw [hzb, hik]; exact growslice_fits hroom (by omega))
    rw [hik, ← hG, ← hROW] at h
    rw [hkk]
    exact h
  have hGn : xs.length + 1 ≤ G := by rw [hG]; exact grownCap_ge w _ _ _
  have hGm : G ≤ maxLen := by rw [hG]; exact grownCap_le_maxLen w _ _ _ (by unfold maxLen; omega)
  have hG63 : (G : Int) ≤ 9223372036854775807 := by unfold maxLen at hGm; omega
  have hZ : Nod.zero.val.cells.size = 6 := rfl
  have hRl : ROW.size = G * 6 := by
    rw [hROW]
    simp only [Array.size_append, size_zeroCells, List.size_toArray, htl, hZ]; omega
  have hRt : ROW.toList.take (i * 6) = (xs.flatMap Nod.cells).take (i * 6) := by
    rw [hROW, Array.toList_append, Array.toList_append, List.append_assoc, List.take_append_of_le_length (by show _ ≤ ((xs.take i).flatMap Nod.cells).length; rw [htl]; omega)]
    show List.take (i * 6) ((xs.take i).flatMap Nod.cells) = _
    rw [List.take_of_length_le (by rw [htl]; omega), flat_take]
  have hRll : ROW.toList.length = G * 6 := by rw [← hRl]; exact Array.length_toList
  obtain ⟨W1, hW1⟩ : ∃ W1, W1 = w.drew.alloc (.cells ROW 35) := ⟨_, rfl⟩
  have hs1 : W1.heap[w.heap.size]? = Option.some (.cells ROW 35 (0, 0)) := by rw [hW1]; exact heap_alloc_new w.drew _
  have hg1 : W1.heap[g]? = Option.some (.cells cur 35 (0, 0)) := by rw [hW1, heap_alloc_old w.drew _ hgw]; exact hg
  have hvb1 : W1.heap[vb]? = Option.some (.cells x.cells.toArray 35 (0, 0)) := by rw [hW1, heap_alloc_old w.drew _ hvw]; exact hvb
  have hcpA : ∀ (W : World), W.heap = W1.heap → ∀ ty dc, (Builtin.copy_ #[23, 23] ty #[.slice (Option.some ⟨w.heap.size, i * 6, none⟩) (xs.length + 1 - i) dc, .slice (Option.some ⟨vb, 0, none⟩) 1 1]).run Try.prog W = .ok (goInt (Nat.min 1 (xs.length + 1 - i))) (W.setRow w.heap.size (splice ROW.toList (i * 6) x.cells).toArray) := fun W hW ty dc => by
    have hgW : W.heap[w.heap.size]? = Option.some (.cells ROW 35 (0, 0)) := by rw [hW]; exact hs1
    have hvW : W.heap[vb]? = Option.some (.cells x.cells.toArray 35 (0, 0)) := by rw [hW]; exact hvb1
    exact run_copy_rowK W _ _ ty 35 6 w.heap.size (i * 6) (xs.length + 1 - i) dc ⟨vb, 0, none⟩ 1 1 ROW 35 x.cells Try.underlying23 hsz hgW
      (by rw [Nod.cells_length]; simp only [Nat.min_def]; split <;> omega)
      (cells_whole hvW) (by rw [Nod.cells_length, hRl]; omega) (Nod.oneCells1 x)
  obtain ⟨C1, hC1⟩ : ∃ C1, C1 = splice ROW.toList (i * 6) x.cells := ⟨_, rfl⟩
  have hC1l : C1.length = G * 6 := by rw [hC1, length_splice _ _ _ (by rw [Nod.cells_length, hRll]; omega), hRll]
  rw [← hC1] at hcpA
  have hs2 : (W1.setRow w.heap.size C1.toArray).heap[w.heap.size]? = Option.some (.cells C1.toArray 35 (0, 0)) := setRow_heap W1 _ _ _ _ _ hs1
  have hg2 : (W1.setRow w.heap.size C1.toArray).heap[g]? = Option.some (.cells cur 35 (0, 0)) := by rw [setRow_other W1 _ g _ (by omega)]; exact hg1
  have hdl : ((xs.drop i).flatMap Nod.cells).length = (xs.length - i) * 6 := by rw [flat_len Nod.cells_length, List.length_drop]
  obtain ⟨W2, hW2⟩ : ∃ W2, W2 = W1.setRow w.heap.size C1.toArray := ⟨_, rfl⟩
  rw [← hW2] at hs2 hg2
  have hcpB : ∀ (W : World), W.heap = W2.heap → ∀ ty dc sc, (Builtin.copy_ #[23, 23] ty #[.slice (Option.some ⟨w.heap.size, (i + 1) * 6, none⟩) (xs.length - i) dc, .slice (Option.some ⟨g, i * 6, none⟩) (xs.length - i) sc]).run Try.prog W = .ok (goInt (Nat.min (xs.length - i) (xs.length - i))) (W.setRow w.heap.size (splice C1 ((i + 1) * 6) ((xs.drop i).flatMap Nod.cells)).toArray) := fun W hW ty dc sc => by
    have hgW : W.heap[w.heap.size]? = Option.some (.cells C1.toArray 35 (0, 0)) := by rw [hW]; exact hs2
    have hvW : W.heap[g]? = Option.some (.cells cur 35 (0, 0)) := by rw [hW]; exact hg2
    exact run_copy_rowK W _ _ ty 35 6 w.heap.size ((i + 1) * 6) (xs.length - i) dc ⟨g, i * 6, none⟩ (xs.length - i) sc C1.toArray 35 ((xs.drop i).flatMap Nod.cells) Try.underlying23 hsz hgW
      (by rw [hdl]; congr 1; simp only [Nat.min_def]; split <;> omega)
      (by rw [flat_drop]; exact cells_at hvW _ _ _ hxs) (by rw [hdl]; simp [hC1l]; omega) (Nod.oneCells _)
  have hfin : ∀ W : World, W.heap = W2.heap → OwnNods (W.setRow w.heap.size (splice C1 ((i + 1) * 6) ((xs.drop i).flatMap Nod.cells)).toArray) B (.slice (Option.some ⟨w.heap.size, 0, none⟩) (xs.length + 1) G) (xs.take i ++ x :: xs.drop i) := fun W hW => by
    have hl : (xs.take i ++ x :: xs.drop i).length = xs.length + 1 := by simp; omega
    have hgW : W.heap[w.heap.size]? = Option.some (.cells C1.toArray 35 (0, 0)) := by rw [hW]; exact hs2
    refine ⟨by rw [flat_len Nod.cells_length, hl], .inr ⟨w.heap.size, G, _, by rw [hl], hBw, setRow_heap W _ _ _ _ _ hgW, by rw [hl]; exact hGn, hGm, ?_, ?_⟩⟩
    · rw [List.size_toArray, length_splice _ _ _ (by rw [hdl, hC1l]; omega), hC1l]
    · have := splice_grow ROW.toList (xs.flatMap Nod.cells) ((xs.drop i).flatMap Nod.cells) x.cells (i * 6) ((i + 1) * 6) (by rw [hfl]; omega) (by rw [Nod.cells_length]; omega) hRt (flat_drop xs i) (by rw [hfl, Nod.cells_length, hRll]; omega)
      rw [← hC1, hfl, Nod.cells_length] at this
      rw [hl, show (xs.length + 1) * 6 = xs.length * 6 + 6 by omega]
      refine this.trans ?_
      rw [List.flatMap_append, List.flatMap_cons, flat_take, flat_drop]
  have hBA : Below B w ((w.alloc (.cells ROW 35)).drew) := (Below.alloc (Below.refl B w) hBw _).drew
  have HF := Lib.hid hfin
  have H0 := Lib.hid hrz
  have H1 := Lib.hid hcpA
  have H2 := Lib.hid hcpB
  have hh1 : Hid (((w.alloc (.cells ROW 35)).drew).heap = W1.heap) := Lib.hid (by rw [hW1]; rfl)
  have hh2 : Hid ((((w.alloc (.cells ROW 35)).drew.setRow w.heap.size C1.toArray).drew).heap = W2.heap) := Lib.hid (by rw [hW2, hW1]; rfl)
  have hw1 : IntKind.i64.wrap ((i : Int) + 1) = (i : Int) + 1 := by rw [IntKind.wrap_i64]; omega
  have hb1 : (0 : Int) ≤ (i : Int) + 1 := by omega
  have htn : ((i : Int) + 1).toNat = i + 1 := by omega
  have hb3 : (i : Int) ≤ (xs.length : Int) + 1 := by omega
  have hb5 : ¬ (G = i) := by omega
  have hb6 : ¬ (G = i + 1) := by omega
  have HBA := Lib.hid hBA
  clear hg hvb hxs hcur hfl hdl hC1 hC1l hs1 hg1 hvb1 hW1 hs2 hg2 hW2 hfin hrz hcpA hcpB hz0 hz1 hzb hi0 hsz hold hROW hRl hRt hRll hG hik hkk htl hZ hBA
  go_enter Try.func29, Try.ntmps29
  go_wp2_with (first
    | (at_builtin; refine Lib.wpList_append_run _ rfl _ _ _ _ rfl _ _ rfl rfl _ _ (H0.out _) ?_)
    | (with_reducible refine wpList_copy_known _ rfl (.tmp 43) (.tmp 44) 23 23 rfl (.slice (Option.some ⟨w.heap.size, i * 6, none⟩) (xs.length + 1 - i) (G - i)) (.slice (Option.some ⟨vb, 0, none⟩) 1 1) rfl rfl (H1.out _ hh1.out _ _) ?_))
  go_region_law (refine step_copy_known rfl (.tmp 50) (.tmp 53) 23 23 rfl (.slice (Option.some ⟨w.heap.size, (i + 1) * 6, none⟩) (xs.length - i) (G - (i + 1))) (.slice (Option.some ⟨g, i * 6, none⟩) (xs.length - i) (cap - i)) (by simp [Act.eval, Act.put]) (by simp [Act.eval, Act.put]) (H2.out _ hh2.out _ _ _) ?_)
  go_wp2
  go_ret
  exact ⟨_, rfl, HF.out _ hh2.out, below_setRow (below_setRow HBA.out hBw _).drew hBw _⟩
set_option maxHeartbeats 4000000 in
set_option maxRecDepth 100000 in
theorem ins_end (xs : List Nod) (x : Nod) (v : Value) (vb : Nat) (B : Nat) (w : World) (hown : OwnNods w B v xs) (hBw : B ≤ w.heap.size) (hz : xs.length ≤ 1000000)
    (hvb : w.heap[vb]? = some (.cells x.cells.toArray 35 (0, 0))) :
    Calls Try.prog 29 #[v, .int .i64 xs.length, .slice (some ⟨vb, 0, none⟩) 1 1] w (InsPost B w (xs ++ [x])) := by
  obtain ⟨i0, hi, hz0, hz1, hz2⟩ := info_parts info_inode
  have HO := Lib.hid hown
  have HN := Lib.hid (cells_whole hvb)
  have hfin : ∀ v' w1, w1.ownsRow B 35 6 v' (xs.length + 1) (xs.flatMap Nod.cells ++ x.cells) → OwnNods w1 B v' (xs ++ [x]) := fun v' w1 h => by
    unfold OwnNods
    rw [List.length_append, List.length_singleton, List.flatMap_append, List.flatMap_singleton]
    exact h
  have HF := Lib.hid hfin
  clear hfin
  have hbel : ∀ w1, w.grownBy w1 v.ownBlock → Below B w w1 := fun w1 h => ⟨h.os, h.tape, h.output, h.size, fun k hk => h.block k (by omega) (fun e => by
    have := (World.ownsRow.lt hown k e.symm).1
    omega)⟩
  have HB := Lib.hid hbel
  clear hbel
  have hnn : ((xs.length : Int) == (xs.length : Int)) = true := beq_self_eq_true _
  rcases hown.2 with ⟨rfl, h0⟩ | ⟨g, cap, cur, rfl, hg, hgg, hnc, hcm, hcs, htake⟩
  · have h1 : xs = [] := List.length_eq_zero_iff.1 h0
    subst h1
    clear hown hvb h0
    go_enter Try.func29, Try.ntmps29
    go_wp2_with (at_builtin; refine wpList_append_own _ rfl _ _ 23 rfl B 35 i0 Nod.zero.val 6 72 Try.underlying23 hi hz0 hz1 hz2 rfl (by decide) (.slice none 0 0) 0 [] rfl HO.out ⟨vb, 0, none⟩ 1 1 x.cells rfl rfl HN.out (Nod.oneCells1 x) (by unfold maxLen; omega) (by omega) hBw ?_; intro v' w1 hown' hgrow _)
    go_ret
    exact ⟨_, rfl, HF.out _ _ hown', HB.out _ hgrow⟩
  · have hcap' : (cap : Int) ≤ 9223372036854775807 := by unfold maxLen at hcm; omega
    clear hown hvb hgg hcs htake hcm
    go_enter Try.func29, Try.ntmps29
    by_cases hcc : cap = xs.length
    · have HC := Lib.hid hcc
      clear hcc
      go_wp2_with (at_builtin; refine wpList_append_own _ rfl _ _ 23 rfl B 35 i0 Nod.zero.val 6 72 Try.underlying23 hi hz0 hz1 hz2 rfl (by decide) (.slice (Option.some ⟨g, 0, none⟩) xs.length cap) xs.length (xs.flatMap Nod.cells) rfl HO.out ⟨vb, 0, none⟩ 1 1 x.cells rfl rfl HN.out (Nod.oneCells1 x) (by unfold maxLen; omega) (by omega) hBw ?_; intro v' w1 hown' hgrow _)
      all_goals
        go_ret
        exact ⟨_, rfl, HF.out _ _ hown', HB.out _ hgrow⟩
    · go_wp2_with (at_builtin; refine wpList_append_own _ rfl _ _ 23 rfl B 35 i0 Nod.zero.val 6 72 Try.underlying23 hi hz0 hz1 hz2 rfl (by decide) (.slice (Option.some ⟨g, 0, none⟩) xs.length cap) xs.length (xs.flatMap Nod.cells) rfl HO.out ⟨vb, 0, none⟩ 1 1 x.cells rfl rfl HN.out (Nod.oneCells1 x) (by unfold maxLen; omega) (by omega) hBw ?_; intro v' w1 hown' hgrow _)
      all_goals
        go_ret
        exact ⟨_, rfl, HF.out _ _ hown', HB.out _ hgrow⟩
/-- an inode put into a list of one's own, wherever -/
theorem ins_walk (xs : List Nod) (x : Nod) (v : Value) (i vb : Nat) (B : Nat) (w : World) (hown : OwnNods w B v xs) (hi : i ≤ xs.length) (hBw : B ≤ w.heap.size) (hz : xs.length ≤ 1000000)
    (hvb : w.heap[vb]? = some (.cells x.cells.toArray 35 (0, 0))) (hne : v.ownBlock ≠ Option.some vb) :
    Calls Try.prog 29 #[v, .int .i64 i, .slice (some ⟨vb, 0, none⟩) 1 1] w (InsPost B w (xs.take i ++ x :: xs.drop i)) := by
  by_cases h : i = xs.length
  · subst h
    rw [List.take_length, List.drop_length]
    exact ins_end xs x v vb B w hown hBw hz hvb
  · obtain ⟨g, cap, cur, rfl, hBg, hgw, hgg, hnc, hcm, hcs, htake⟩ := hown.some (by omega)
    have hne' : vb ≠ g := fun e => hne (by rw [e]; rfl)
    by_cases hroom : xs.length + 1 ≤ cap
    · exact ins_shift xs x g cap i vb cur B w hgg hBg hcm hcs htake (by omega) hroom hvb hne'
    · exact ins_grow xs x g cap i vb cur B w hgg hBw hz hcs htake (by omega) hnc (by omega) hvb hne'
end Go.Proofs.Yteaemnjomlcfcaa.Tab
