/- A table without an inode, a table with one: the reference's way. -/
import Derived.Test.YteaemnjomlcfcaaTabDrop
set_option linter.unusedVariables false
set_option linter.unusedSimpArgs false
namespace Go.Proofs.Yteaemnjomlcfcaa.Tab
open Go.RowKit Go.Proofs.Yteaemnjomlcfcaa.Kit
theorem own_snoc {w : World} {B : Nat} {v : Value} {xs : List Nod} {x : Nod} (h : w.ownsRow B 35 6 v (xs.length + 1) (xs.flatMap Nod.cells ++ x.cells)) : OwnNods w B v (xs ++ [x]) := by
  unfold OwnNods
  rw [List.length_append, List.length_singleton, List.flatMap_append, List.flatMap_singleton]
  exact h
theorem below_own {w w1 : World} {B : Nat} {v : Value} {xs : List Nod} (h : OwnNods w B v xs) (hg : w.grownBy w1 v.ownBlock) (hB : B ≤ w.heap.size) : Below B w w1 :=
  ⟨hg.os, hg.tape, hg.output, hg.size, fun k hk => hg.block k (by omega) (fun e => by
    have := (World.ownsRow.lt h k e.symm).1
    omega)⟩
theorem drop_snoc (n : Int) (xs : List Nod) (k : Nat) (hk : k < xs.length) : drop n (xs.take (k + 1)) = drop n (xs.take k) ++ (if xs[k].ino != n then [xs[k]] else []) := by
  unfold drop
  rw [List.take_succ_eq_append_getElem hk, List.filter_append]
  congr 1
  by_cases h : xs[k].ino = n <;> simp [List.filter_cons, h]
theorem drop_snoc_no {n : Int} {xs : List Nod} {k : Nat} (hk : k < xs.length) (h : xs[k].ino = n) : drop n (xs.take (k + 1)) = drop n (xs.take k) := by
  rw [drop_snoc n xs k hk]; simp [h]
theorem drop_snoc_yes {n : Int} {xs : List Nod} {k : Nat} (hk : k < xs.length) (h : xs[k].ino ≠ n) : drop n (xs.take (k + 1)) = drop n (xs.take k) ++ [xs[k]] := by
  rw [drop_snoc n xs k hk]; simp [h]
set_option maxHeartbeats 4000000 in
set_option maxRecDepth 100000 in
theorem rdrop_walk (mi mb nx : Int) (xs : List Nod) (n : Int) (a : Option Addr) (c : Nat) (w : World) (hN : Nods w a c xs) (hz : xs.length ≤ 100000) :
    Calls Try.prog 19 #[.agg #[.int .i64 mi, .int .i64 mb, .int .i64 nx, .slice a xs.length c], .int .i64 n] w (FsPost mi mb nx (drop n xs) w.heap.size w) := by
  obtain ⟨l1, l2, l3⟩ := hN.len
  obtain ⟨i0, hi, hz0, hz1, hz2⟩ := info_parts info_inode
  have H := Lib.hid hN
  clear hN
  obtain ⟨w0, hw0⟩ : ∃ w0, w0 = (w.alloc (.cells #[.int .i64 mi, .int .i64 mb, .int .i64 nx, .slice a xs.length c] 25)).alloc (Obj.cells #[.int .i64 0, .int .i64 0, .int .i64 0, .slice none 0 0] 25) := ⟨_, rfl⟩
  have hB0 : Below w.heap.size w w0 := by rw [hw0]; (repeat' (first | with_reducible assumption | with_reducible exact Below.refl _ _ | with_reducible refine Below.setCell ?_ ?_ _ | with_reducible refine Below.alloc ?_ ?_ _ | with_reducible refine Below.drew ?_ | omega | (simp; done) | (simp; omega)))
  obtain ⟨t0, t2⟩ := laid1 w (Obj.cells #[.int .i64 mi, .int .i64 mb, .int .i64 nx, .slice a xs.length c] 25) (Obj.cells #[.int .i64 0, .int .i64 0, .int .i64 0, .slice none 0 0] 25)
  rw [← hw0] at t0 t2
  have hs0 : w0.heap.size = w.heap.size + 1 + 1 := by rw [hw0]; simp
  have hsl : w.heap.size + 1 < w0.heap.size := by omega
  have S0 := Lib.hid hs0
  have T0 := Lib.hid t0
  have T2 := Lib.hid t2
  have HW := Lib.hid hw0
  clear hw0 t0 t2 hs0
  go_enter Try.func19, Try.ntmps19
  go_wp2
  rw [← HW.out]
  go_loopw [5, 6] (fun s5 s6 wr => ∃ (k : Nat) (va : Option Addr) (vc : Nat), s6 = .int .i64 k ∧ k ≤ xs.length ∧ s5 = .slice va (drop n (xs.take k)).length vc ∧ Hid (OwnNods wr w0.heap.size (.slice va (drop n (xs.take k)).length vc) (drop n (xs.take k))) ∧ Below w0.heap.size w0 wr) (fun _ s6 _ => xs.length - (intOf s6).toNat)
  case atStart => exact ⟨0, none, 0, rfl, Nat.zero_le _, rfl, Lib.hid (World.ownsRow_nil _ _ _ _), Below.refl _ _⟩
  case round =>
    obtain ⟨k, va, vc, rfl, hk, rfl, O, hB⟩ := hrel
    have hs := hB.size
    have t0 := T0.out
    have t2 := T2.out
    rw [← hB.block _ (by omega)] at t0 t2
    obtain ⟨a0, a1, a2, a3, af⟩ := box4 t0
    obtain ⟨r0, r1, r2, r3, rf⟩ := box4 t2
    have hBw : Below w.heap.size w wr := hB0.trans (hB.mono (by omega))
    by_cases hlt : k < xs.length
    · obtain ⟨b, o, rfl, hb, c0, c1, c2, c3, c4, c5⟩ := (H.out.below hBw (Nat.le_refl _)).at k hlt
      obtain ⟨x, hx⟩ : ∃ x, x = xs[k] := ⟨_, rfl⟩
      rw [← hx] at c0 c1 c2 c3 c4 c5
      have X := Lib.hid hx
      clear hx
      have hdl : (drop n (xs.take k)).length ≤ k := Nat.le_trans drop_len (by rw [List.length_take]; omega)
      clear t0 t2 r0 r1 r2 r3 rf
      by_cases he : x.ino = n
      · have hb : (x.ino != n) = false := by simp [he]
        have D := Lib.hid (drop_snoc_no (n := n) hlt (by rw [← X.out]; exact he))
        clear he
        go_wp2
        go_roundw
        case rel => exact ⟨k + 1, va, vc, by go_num, by omega, by rw [D.out], by rw [D.out]; exact O, hB⟩
        case measure => simp [intOf]; omega
      · have hb : (x.ino != n) = true := by simp [he]
        have D := Lib.hid (drop_snoc_yes (n := n) hlt (by rw [← X.out]; exact he))
        obtain ⟨ys, hys⟩ : ∃ ys, ys = drop n (xs.take k) := ⟨_, rfl⟩
        rw [← hys] at O D hdl
        rw [← hys]
        have HN := Lib.hid (cells_whole (laid0 wr (.cells x.cells.toArray 35)))
        have O2 := Lib.hid (O.out.alloc (.cells x.cells.toArray 35))
        clear he hys
        go_wp2_with (at_builtin; refine wpList_append_own _ rfl _ _ 23 rfl w0.heap.size 35 i0 Nod.zero.val 6 72 Try.underlying23 hi hz0 hz1 hz2 rfl (by decide) (.slice va ys.length vc) ys.length (ys.flatMap Nod.cells) rfl O2.out ⟨wr.heap.size, 0, none⟩ 1 1 x.cells rfl rfl HN.out (Nod.oneCells1 x) (by unfold maxLen; omega) (by omega) (by simp; omega) ?_; intro v' w1 hown' hgrow _)
        have O3 := own_snoc hown'
        have hB7 := below_own O2.out hgrow (by simp; omega)
        obtain ⟨va2, vc2, hv2⟩ := O3.slice
        subst hv2
        have O4 := Lib.hid O3
        have hB8 : Below w0.heap.size w0 w1 := (hB.alloc (by omega) _).trans (hB7.mono (by omega))
        clear hown' hgrow O3 hB7
        go_wp2
        go_roundw
        case rel => exact ⟨k + 1, va2, vc2, by go_num, by omega, by rw [D.out, ← X.out], by rw [D.out, ← X.out]; exact O4, hB8⟩
        case measure => simp [intOf]; omega
    · have hke : k = xs.length := by omega
      have D := Lib.hid (show drop n (xs.take k) = drop n xs by rw [hke, List.take_length])
      clear hke
      rw [D.out] at O
      rw [D.out]
      have HO3 := Lib.hid (own_mono (own_boxes (own_far' O.out ⟨w.heap.size, 3, none⟩ (by dsimp only; omega) (.slice va (drop n xs).length vc)) (r := w.heap.size + 1) (by omega) (.int .i64 mi) (.int .i64 mb) (.int .i64 nx) (.slice va (drop n xs).length vc)) (show w.heap.size ≤ w0.heap.size by omega))
      clear t0 t2
      go_wp2
      refine bodyPost_ret (v := FsVal mi mb nx (.slice va (drop n xs).length vc)) ?_ rfl ?_
      · rw [results_cell1 rfl]; go_simp; rfl
      · refine ⟨_, rfl, HO3.out, ?_⟩
        repeat' (first | with_reducible assumption | with_reducible refine below_set ?_ _ ?_ _ | omega | (dsimp only; omega))
end Go.Proofs.Yteaemnjomlcfcaa.Tab
