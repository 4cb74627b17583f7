/- An inode set in a table where none was; one taken out: the program's way. -/
import Derived.Test.YteaemnjomlcfcaaTabSet
set_option linter.unusedVariables false
set_option linter.unusedSimpArgs false
namespace Go.Proofs.Yteaemnjomlcfcaa.Tab
open Go.RowKit Go.Proofs.Yteaemnjomlcfcaa.Kit
theorem OwnNods.slice {w : World} {B : Nat} {v : Value} {xs : List Nod} (h : OwnNods w B v xs) : ∃ a c, v = .slice a xs.length c := by
  rcases h.2 with ⟨h1, h2⟩ | ⟨g, cap, cur, h1, h2, h3, h4⟩
  · exact ⟨none, 0, by rw [h1, h2]⟩
  · exact ⟨_, _, h1⟩
theorem own_far' {w : World} {B : Nat} {v : Value} {xs : List Nod} (h : OwnNods w B v xs) (p : Addr) (hp : p.block < B) (u : Value) : OwnNods (w.setCell p u) B v xs := by
  obtain ⟨a, c, rfl⟩ := h.slice
  refine ⟨h.1, ?_⟩
  rcases h.2 with h2 | ⟨g, cap, cur, hv, hg, hh, r⟩
  · exact .inl h2
  · refine .inr ⟨g, cap, cur, hv, hg, ?_, r⟩
    rw [heap_setCell_other w p g u (by omega)]
    exact hh
theorem own_not {w : World} {B : Nat} {v : Value} {xs : List Nod} (h : OwnNods w B v xs) {b : Nat} (hb : w.heap.size ≤ b) : v.ownBlock ≠ some b := by
  intro e
  have := (World.ownsRow.lt h b e).2
  omega
theorem keep_box {w w2 : World} {g : Nat} {o : Obj} {p : Addr} {u : Value} (h : w.heap[g]? = some o) (hp : p.block ≠ g) : (w.setCell p u).heap[g]? = some o := by
  rw [heap_setCell_other w p g u (fun e => hp e.symm)]; exact h
set_option maxHeartbeats 4000000 in
set_option maxRecDepth 100000 in
theorem set_new_walk (mi mb nx : Int) (xs : List Nod) (x : Nod) (a : Option Addr) (c : Nat) (w : World) (hN : Nods w a c xs) (hR : Rises xs) (hz : xs.length ≤ 100000) (hh : has x.ino xs = false) :
    Calls Try.prog 20 #[.agg #[.int .i64 mi, .int .i64 mb, .int .i64 nx, .slice a xs.length c], .agg #[.int .i64 x.ino, .int .i64 x.kind, .int .i64 x.links, .string x.data, .int .i64 x.parent, .slice x.ea x.es.length x.ec]] w (FsPost mi mb nx (set x xs) w.heap.size w) := by
  have hc := fun W (hW : Below w.heap.size w W) => at_walk mi mb nx xs a c x.ino W (hN.below hW (Nat.le_refl _)) hR (by omega)
  have hd := fun W (hW : Below w.heap.size w W) => clone_walk xs a c W (hN.below hW (Nat.le_refl _)) (by omega)
  have hset := set_not hR hh
  rw [hh] at hc
  have hk2 := rank_le x.ino xs
  obtain ⟨k, hk⟩ : ∃ k, k = rank x.ino xs := ⟨_, rfl⟩
  rw [← hk] at hc hset hk2
  have HC := Lib.hid hc
  have HD := Lib.hid hd
  have HS := Lib.hid hset
  have hi := fun v B W vb h1 h3 h4 h5 => ins_walk xs x v k vb B W h1 hk2 h3 (by omega) h4 h5
  have HI := Lib.hid hi
  obtain ⟨l1, l2, l3⟩ := hN.len
  have hB1 := (((Below.refl w.heap.size w).alloc (Nat.le_refl _) (Obj.cells #[.int .i64 mi, .int .i64 mb, .int .i64 nx, .slice a xs.length c] 25)).alloc (by simp) (Obj.cells #[.int .i64 x.ino, .int .i64 x.kind, .int .i64 x.links, .string x.data, .int .i64 x.parent, .slice x.ea x.es.length x.ec] 35)).alloc (by simp; omega) (Obj.cells #[.int .i64 0, .int .i64 0, .int .i64 0, .slice none 0 0] 25)
  clear hc hd hh hset hN hR hk hi
  go_enter Try.func20, Try.ntmps20
  go_wp2_with fail
  refine (HC.out _ hB1).mono ?_
  rintro e w1 ⟨rfl, hB2⟩
  obtain ⟨bc, bf⟩ := bcell hB2
  have hB3 := hB1.trans (hB2.mono hB1.size)
  have hs1 := hB2.size
  simp only [World.size_alloc] at hs1
  go_wp2_with fail
  refine (HD.out _ hB3).mono ?_
  rintro e w2 ⟨v, rfl, hown, hB4⟩
  have hs2 := hB4.size
  obtain ⟨va, vc, hv⟩ := hown.slice
  subst hv
  obtain ⟨t0, t1, t2⟩ := laid2 w (Obj.cells #[.int .i64 mi, .int .i64 mb, .int .i64 nx, .slice a xs.length c] 25) (Obj.cells #[.int .i64 x.ino, .int .i64 x.kind, .int .i64 x.links, .string x.data, .int .i64 x.parent, .slice x.ea x.es.length x.ec] 35) (Obj.cells #[.int .i64 0, .int .i64 0, .int .i64 0, .slice none 0 0] 25)
  rw [← hB2.block _ (by simp; try omega), ← hB4.block _ (by omega)] at t0 t1 t2
  obtain ⟨a0, a1, a2, a3, af⟩ := box4 t0
  obtain ⟨x0, x1, x2, x3, x4, x5, xf⟩ := box6 t1
  have t0' := heap_setCell_same w2 w.heap.size 3 _ _ (.slice va xs.length vc) t0
  have t2' := keep_box (w2 := w2) (p := ⟨w.heap.size, 3, none⟩) (u := .slice va xs.length vc) t2 (by simp; omega)
  have hB5 : Below w.heap.size w w2 := hB3.trans (hB4.mono (by omega))
  have hB6 : Below w.heap.size w (w2.setCell ⟨w.heap.size, 3, none⟩ (.slice va xs.length vc)) := below_set hB5 _ (Nat.le_refl _) _
  have HO2 := Lib.hid (own_far' hown ⟨w.heap.size, 3, none⟩ (by dsimp only; omega) (.slice va xs.length vc))
  have T0 := Lib.hid t0'
  have T2 := Lib.hid t2'
  have HO := Lib.hid hown
  clear bc bf t0 t1 t2 hown t0' t2'
  go_wp2_with fail
  obtain ⟨W3, hW3⟩ : ∃ W3, W3 = (w2.setCell ⟨w.heap.size, 3, none⟩ (.slice va xs.length vc)) := ⟨_, rfl⟩
  have hz3 : W3.heap.size = w2.heap.size := by rw [hW3]; simp
  rw [← hW3]
  rw [← hW3] at HO2 T0 T2 hB6
  clear hW3
  have hvb : (W3.alloc (.cells x.cells.toArray 35)).heap[w2.heap.size]? = some (.cells x.cells.toArray 35 (0, 0)) := by rw [← hz3]; exact laid0 W3 _
  have hI : Calls Try.prog 29 #[.slice va xs.length vc, .int .i64 k, .slice (some ⟨w2.heap.size, 0, none⟩) 1 1] (W3.alloc (.cells #[.int .i64 x.ino, .int .i64 x.kind, .int .i64 x.links, .string x.data, .int .i64 x.parent, .slice x.ea x.es.length x.ec] 35)) (InsPost w1.heap.size (W3.alloc (.cells x.cells.toArray 35)) (xs.take k ++ x :: xs.drop k)) :=
    HI.out (.slice va xs.length vc) w1.heap.size (W3.alloc (.cells x.cells.toArray 35)) w2.heap.size (HO2.out.alloc _) (by rw [World.size_alloc]; omega) hvb (own_not HO2.out (by omega))
  refine hI.mono ?_
  rintro e w4 ⟨v2, rfl, hown2, hB7⟩
  rw [HS.out] at hown2
  obtain ⟨va2, vc2, hv2⟩ := hown2.slice
  subst hv2
  have e0 : W3.heap[w.heap.size]? = some (.cells #[.int .i64 mi, .int .i64 mb, .int .i64 nx, .slice va xs.length vc] 25 (0, 0)) := T0.out
  have e2 := T2.out
  rw [← laid_past W3 (.cells x.cells.toArray 35) (by omega), ← hB7.block _ (by omega)] at e0 e2
  obtain ⟨c0, c1, c2, c3, cf⟩ := box4 e0
  obtain ⟨r0, r1, r2, r3, rf⟩ := box4 e2
  have hB8 : Below w.heap.size w w4 := (hB6.alloc (by omega) _).trans (hB7.mono (by omega))
  have HO3 := Lib.hid (own_mono (own_far' (own_far' (own_far' (own_far' (own_far' hown2 ⟨w.heap.size, 3, none⟩ (by dsimp only; omega) (.slice va2 (set x xs).length vc2)) ⟨w.heap.size + 1 + 1, 0, none⟩ (by dsimp only; omega) (.int .i64 mi)) ⟨w.heap.size + 1 + 1, 1, none⟩ (by dsimp only; omega) (.int .i64 mb)) ⟨w.heap.size + 1 + 1, 2, none⟩ (by dsimp only; omega) (.int .i64 nx)) ⟨w.heap.size + 1 + 1, 3, none⟩ (by dsimp only; omega) (.slice va2 (set x xs).length vc2)) (show w.heap.size ≤ w1.heap.size by omega))
  have HB8 := Lib.hid hB8
  clear e0 e2 hown2 a0 a1 a2 a3 af x0 x1 x2 x3 x4 x5 xf hvb hI hz3
  go_wp2
  refine bodyPost_ret (v := FsVal mi mb nx (.slice va2 (set x xs).length vc2)) ?_ rfl ?_
  · rw [results_cell1 rfl]; go_simp; rfl
  · refine ⟨_, rfl, HO3.out, ?_⟩
    have := HB8.out
    repeat' (first | with_reducible assumption | with_reducible refine below_set ?_ _ ?_ _ | omega | (dsimp only; omega))
end Go.Proofs.Yteaemnjomlcfcaa.Tab
