/- An inode taken out of a table: the program's way. -/
import Derived.Test.YteaemnjomlcfcaaTabSet2
set_option linter.unusedVariables false
set_option linter.unusedSimpArgs false
namespace Go.Proofs.Yteaemnjomlcfcaa.Tab
open Go.RowKit Go.Proofs.Yteaemnjomlcfcaa.Kit
theorem set_any (mi mb nx : Int) (xs : List Nod) (x : Nod) (a : Option Addr) (c : Nat) (w : World) (hN : Nods w a c xs) (hR : Rises xs) (hz : xs.length ≤ 100000) :
    Calls Try.prog 20 #[.agg #[.int .i64 mi, .int .i64 mb, .int .i64 nx, .slice a xs.length c], .agg #[.int .i64 x.ino, .int .i64 x.kind, .int .i64 x.links, .string x.data, .int .i64 x.parent, .slice x.ea x.es.length x.ec]] w (FsPost mi mb nx (set x xs) w.heap.size w) := by
  cases h : has x.ino xs with
  | true => exact set_walk mi mb nx xs x a c w hN hR hz h
  | false => exact set_new_walk mi mb nx xs x a c w hN hR hz h
theorem own_boxes {w : World} {B r : Nat} {v : Value} {xs : List Nod} (h : OwnNods w B v xs) (hr : r < B) (p q s t : Value) :
    OwnNods ((((w.setCell ⟨r, 0, none⟩ p).setCell ⟨r, 1, none⟩ q).setCell ⟨r, 2, none⟩ s).setCell ⟨r, 3, none⟩ t) B v xs :=
  own_far' (own_far' (own_far' (own_far' h _ hr _) _ hr _) _ hr _) _ hr _
set_option maxHeartbeats 4000000 in
set_option maxRecDepth 100000 in
theorem drop_no_walk (mi mb nx : Int) (xs : List Nod) (n : Int) (a : Option Addr) (c : Nat) (w : World) (hN : Nods w a c xs) (hR : Rises xs) (hz : xs.length ≤ 100000) (hh : has n xs = false) :
    Calls Try.prog 18 #[.agg #[.int .i64 mi, .int .i64 mb, .int .i64 nx, .slice a xs.length c], .int .i64 n] w (FsPost mi mb nx (drop n xs) w.heap.size w) := by
  rw [drop_not hh]
  have hc := fun W (hW : Below w.heap.size w W) => at_walk mi mb nx xs a c n W (hN.below hW (Nat.le_refl _)) hR (by omega)
  have hd := fun W (hW : Below w.heap.size w W) => clone_walk xs a c W (hN.below hW (Nat.le_refl _)) (by omega)
  rw [hh] at hc
  obtain ⟨k, hk⟩ : ∃ k, k = rank n xs := ⟨_, rfl⟩
  rw [← hk] at hc
  have HC := Lib.hid hc
  have HD := Lib.hid hd
  obtain ⟨l1, l2, l3⟩ := hN.len
  have hB1 := ((Below.refl w.heap.size w).alloc (Nat.le_refl _) (Obj.cells #[.int .i64 mi, .int .i64 mb, .int .i64 nx, .slice a xs.length c] 25)).alloc (by simp) (Obj.cells #[.int .i64 0, .int .i64 0, .int .i64 0, .slice none 0 0] 25)
  clear hc hd hh hN hR hk
  go_enter Try.func18, Try.ntmps18
  go_wp2_with fail
  refine (HC.out _ hB1).mono ?_
  rintro e w1 ⟨rfl, hB2⟩
  obtain ⟨bc, bf⟩ := bcell hB2
  have hB3 := hB1.trans (hB2.mono hB1.size)
  have hs1 := hB2.size
  simp only [World.size_alloc] at hs1
  go_wp2_with fail
  refine (HD.out _ hB3).mono ?_
  rintro e w2 ⟨v, rfl, hown, hB4⟩
  have hs2 := hB4.size
  obtain ⟨va, vc, hv⟩ := hown.slice
  subst hv
  obtain ⟨t0, t2⟩ := laid1 w (Obj.cells #[.int .i64 mi, .int .i64 mb, .int .i64 nx, .slice a xs.length c] 25) (Obj.cells #[.int .i64 0, .int .i64 0, .int .i64 0, .slice none 0 0] 25)
  rw [← hB2.block _ (by simp; try omega), ← hB4.block _ (by omega)] at t0 t2
  obtain ⟨a0, a1, a2, a3, af⟩ := box4 t0
  obtain ⟨r0, r1, r2, r3, rf⟩ := box4 t2
  have hB5 : Below w.heap.size w w2 := hB3.trans (hB4.mono (by omega))
  have HO3 := Lib.hid (own_mono (own_boxes (own_far' hown ⟨w.heap.size, 3, none⟩ (by dsimp only; omega) (.slice va xs.length vc)) (r := w.heap.size + 1) (by omega) (.int .i64 mi) (.int .i64 mb) (.int .i64 nx) (.slice va xs.length vc)) (show w.heap.size ≤ w1.heap.size by omega))
  have HB8 := Lib.hid hB5
  clear bc bf t0 t2 hown
  go_wp2
  refine bodyPost_ret (v := FsVal mi mb nx (.slice va xs.length vc)) ?_ rfl ?_
  · rw [results_cell1 rfl]; go_simp; rfl
  · refine ⟨_, rfl, HO3.out, ?_⟩
    have := HB8.out
    repeat' (first | with_reducible assumption | with_reducible refine below_set ?_ _ ?_ _ | omega | (dsimp only; omega))
set_option maxHeartbeats 4000000 in
set_option maxRecDepth 100000 in
theorem drop_yes_walk (mi mb nx : Int) (xs : List Nod) (n : Int) (a : Option Addr) (c : Nat) (w : World) (hN : Nods w a c xs) (hR : Rises xs) (hz : xs.length ≤ 100000) (hh : has n xs = true) :
    Calls Try.prog 18 #[.agg #[.int .i64 mi, .int .i64 mb, .int .i64 nx, .slice a xs.length c], .int .i64 n] w (FsPost mi mb nx (drop n xs) w.heap.size w) := by
  have hc := fun W (hW : Below w.heap.size w W) => at_walk mi mb nx xs a c n W (hN.below hW (Nat.le_refl _)) hR (by omega)
  have hd := fun W (hW : Below w.heap.size w W) => clone_walk xs a c W (hN.below hW (Nat.le_refl _)) (by omega)
  obtain ⟨hlt, he⟩ := has_rank hR hh
  have hdr := drop_has hR hh
  rw [hh] at hc
  obtain ⟨k, hk⟩ : ∃ k, k = rank n xs := ⟨_, rfl⟩
  rw [← hk] at hc hdr
  have hl2 : k < xs.length := by rw [hk]; exact hlt
  have HC := Lib.hid hc
  have HD := Lib.hid hd
  have HS := Lib.hid hdr
  have hi := fun v B W h1 => del_walk xs v k B W h1 hl2 (by omega)
  have HI := Lib.hid hi
  obtain ⟨l1, l2, l3⟩ := hN.len
  have hB1 := ((Below.refl w.heap.size w).alloc (Nat.le_refl _) (Obj.cells #[.int .i64 mi, .int .i64 mb, .int .i64 nx, .slice a xs.length c] 25)).alloc (by simp) (Obj.cells #[.int .i64 0, .int .i64 0, .int .i64 0, .slice none 0 0] 25)
  clear hc hd hh hN hR hk hi hlt he hdr
  go_enter Try.func18, Try.ntmps18
  go_wp2_with fail
  refine (HC.out _ hB1).mono ?_
  rintro e w1 ⟨rfl, hB2⟩
  obtain ⟨bc, bf⟩ := bcell hB2
  have hB3 := hB1.trans (hB2.mono hB1.size)
  have hs1 := hB2.size
  simp only [World.size_alloc] at hs1
  go_wp2_with fail
  refine (HD.out _ hB3).mono ?_
  rintro e w2 ⟨v, rfl, hown, hB4⟩
  have hs2 := hB4.size
  obtain ⟨va, vc, hv⟩ := hown.slice
  subst hv
  obtain ⟨t0, t2⟩ := laid1 w (Obj.cells #[.int .i64 mi, .int .i64 mb, .int .i64 nx, .slice a xs.length c] 25) (Obj.cells #[.int .i64 0, .int .i64 0, .int .i64 0, .slice none 0 0] 25)
  rw [← hB2.block _ (by simp; try omega), ← hB4.block _ (by omega)] at t0 t2
  obtain ⟨a0, a1, a2, a3, af⟩ := box4 t0
  have t0' := heap_setCell_same w2 w.heap.size 3 _ _ (.slice va xs.length vc) t0
  have t2' := keep_box (w2 := w2) (p := ⟨w.heap.size, 3, none⟩) (u := .slice va xs.length vc) t2 (by simp)
  have hB5 : Below w.heap.size w w2 := hB3.trans (hB4.mono (by omega))
  have hB6 : Below w.heap.size w (w2.setCell ⟨w.heap.size, 3, none⟩ (.slice va xs.length vc)) := below_set hB5 _ (Nat.le_refl _) _
  have HO2 := Lib.hid (own_far' hown ⟨w.heap.size, 3, none⟩ (by dsimp only; omega) (.slice va xs.length vc))
  have T0 := Lib.hid t0'
  have T2 := Lib.hid t2'
  clear bc bf t0 t2 hown t0' t2'
  go_wp2_with fail
  have hI := HI.out (.slice va xs.length vc) w1.heap.size (w2.setCell ⟨w.heap.size, 3, none⟩ (.slice va xs.length vc)) HO2.out
  refine hI.mono ?_
  rintro e w4 ⟨v2, rfl, hown2, hB7⟩
  rw [HS.out] at hown2
  obtain ⟨va2, vc2, hv2⟩ := hown2.slice
  subst hv2
  have e0 : (w2.setCell ⟨w.heap.size, 3, none⟩ (.slice va xs.length vc)).heap[w.heap.size]? = some (.cells #[.int .i64 mi, .int .i64 mb, .int .i64 nx, .slice va xs.length vc] 25 (0, 0)) := T0.out
  have e2 := T2.out
  rw [← hB7.block _ (by omega)] at e0 e2
  obtain ⟨c0, c1, c2, c3, cf⟩ := box4 e0
  obtain ⟨r0, r1, r2, r3, rf⟩ := box4 e2
  have hB8 : Below w.heap.size w w4 := hB6.trans (hB7.mono (by omega))
  have HO3 := Lib.hid (own_mono (own_boxes (own_far' hown2 ⟨w.heap.size, 3, none⟩ (by dsimp only; omega) (.slice va2 (drop n xs).length vc2)) (r := w.heap.size + 1) (by omega) (.int .i64 mi) (.int .i64 mb) (.int .i64 nx) (.slice va2 (drop n xs).length vc2)) (show w.heap.size ≤ w1.heap.size by omega))
  have HB8 := Lib.hid hB8
  clear e0 e2 hown2 a0 a1 a2 a3 af hI
  go_wp2
  refine bodyPost_ret (v := FsVal mi mb nx (.slice va2 (drop n xs).length vc2)) ?_ rfl ?_
  · rw [results_cell1 rfl]; go_simp; rfl
  · refine ⟨_, rfl, HO3.out, ?_⟩
    have := HB8.out
    repeat' (first | with_reducible assumption | with_reducible refine below_set ?_ _ ?_ _ | omega | (dsimp only; omega))
theorem drop_any (mi mb nx : Int) (xs : List Nod) (n : Int) (a : Option Addr) (c : Nat) (w : World) (hN : Nods w a c xs) (hR : Rises xs) (hz : xs.length ≤ 100000) :
    Calls Try.prog 18 #[.agg #[.int .i64 mi, .int .i64 mb, .int .i64 nx, .slice a xs.length c], .int .i64 n] w (FsPost mi mb nx (drop n xs) w.heap.size w) := by
  cases h : has n xs with
  | true => exact drop_yes_walk mi mb nx xs n a c w hN hR hz h
  | false => exact drop_no_walk mi mb nx xs n a c w hN hR hz h
/-- a table with a list of new memory, and a number -/
def TakePost (mi mb nx : Int) (ys : List Nod) (B : Nat) (w : World) (e : Ending) (w' : World) : Prop :=
  ∃ v, e = .returned (.tuple #[FsVal mi mb (nx + 1) v, .int .i64 nx]) ∧ OwnNods w' B v ys ∧ Below B w w'
set_option maxHeartbeats 4000000 in
set_option maxRecDepth 100000 in
theorem take_walk (mi mb nx : Int) (xs : List Nod) (a : Option Addr) (c : Nat) (w : World) (hN : Nods w a c xs) (hz : xs.length ≤ 100000) (h0 : 0 ≤ nx) (h1 : nx ≤ 4611686018427387904) :
    Calls Try.prog 22 #[.agg #[.int .i64 mi, .int .i64 mb, .int .i64 nx, .slice a xs.length c]] w (TakePost mi mb nx xs w.heap.size w) := by
  have hd := fun W (hW : Below w.heap.size w W) => clone_walk xs a c W (hN.below hW (Nat.le_refl _)) (by omega)
  have HD := Lib.hid hd
  obtain ⟨l1, l2, l3⟩ := hN.len
  have hB1 := ((Below.refl w.heap.size w).alloc (Nat.le_refl _) (Obj.cells #[.int .i64 mi, .int .i64 mb, .int .i64 (nx + 1), .slice a xs.length c] 25)).alloc (by simp) (Obj.cells #[.int .i64 0, .int .i64 0, .int .i64 0, .slice none 0 0] 25)
  clear hd hN
  go_enter Try.func22, Try.ntmps22
  go_wp2_with fail
  refine (HD.out _ hB1).mono ?_
  rintro e w2 ⟨v, rfl, hown, hB4⟩
  have hs2 := hB4.size
  simp only [World.size_alloc] at hs2
  obtain ⟨va, vc, hv⟩ := hown.slice
  subst hv
  obtain ⟨t0, t2⟩ := laid1 w (Obj.cells #[.int .i64 mi, .int .i64 mb, .int .i64 (nx + 1), .slice a xs.length c] 25) (Obj.cells #[.int .i64 0, .int .i64 0, .int .i64 0, .slice none 0 0] 25)
  rw [← hB4.block _ (by simp; try omega)] at t0 t2
  obtain ⟨a0, a1, a2, a3, af⟩ := box4 t0
  obtain ⟨r0, r1, r2, r3, rf⟩ := box4 t2
  have hB5 : Below w.heap.size w w2 := hB1.trans (hB4.mono (by simp; try omega))
  have HO3 := Lib.hid (own_mono (own_boxes (own_far' hown ⟨w.heap.size, 3, none⟩ (by dsimp only; simp; try omega) (.slice va xs.length vc)) (r := w.heap.size + 1) (by simp; try omega) (.int .i64 mi) (.int .i64 mb) (.int .i64 (nx + 1)) (.slice va xs.length vc)) (show w.heap.size ≤ _ by simp; try omega))
  have HB8 := Lib.hid hB5
  clear t0 t2 hown
  go_wp2
  refine bodyPost_ret (v := .tuple #[FsVal mi mb (nx + 1) (.slice va xs.length vc), .int .i64 nx]) ?_ rfl ?_
  · rw [results_cell_tmp rfl]; go_simp; rfl
  · refine ⟨_, rfl, HO3.out, ?_⟩
    have := HB8.out
    repeat' (first | with_reducible assumption | with_reducible refine below_set ?_ _ ?_ _ | omega | (dsimp only; omega))
end Go.Proofs.Yteaemnjomlcfcaa.Tab
