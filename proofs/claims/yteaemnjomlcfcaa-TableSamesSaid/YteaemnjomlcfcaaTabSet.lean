/- An inode set in a table, one taken out, the next number: the program's way. -/
import Derived.Test.YteaemnjomlcfcaaTabDel
import Derived.Test.YteaemnjomlcfcaaTabPlain2
import Derived.Test.YteaemnjomlcfcaaTabBox
set_option linter.unusedVariables false
set_option linter.unusedSimpArgs false
namespace Go.Proofs.Yteaemnjomlcfcaa.Tab
open Go.RowKit Go.Proofs.Yteaemnjomlcfcaa.Kit
def FsVal (mi mb nx : Int) (v : Value) : Value := .agg #[.int .i64 mi, .int .i64 mb, .int .i64 nx, v]
/-- a table with a list of new memory -/
def FsPost (mi mb nx : Int) (ys : List Nod) (B : Nat) (w : World) (e : Ending) (w' : World) : Prop :=
  ∃ v, e = .returned (FsVal mi mb nx v) ∧ OwnNods w' B v ys ∧ Below B w w'
theorem own_below {w w' : World} {B : Nat} {v : Value} {xs : List Nod} {C : Nat} (h : OwnNods w B v xs) (hb : Below C w w') (hC : w.heap.size ≤ C) : OwnNods w' B v xs := ownsRow_below h hb hC
theorem own_mono {w : World} {B C : Nat} {v : Value} {xs : List Nod} (h : OwnNods w B v xs) (hC : C ≤ B) : OwnNods w C v xs := by
  refine ⟨h.1, ?_⟩
  rcases h.2 with h2 | ⟨g, cap, cur, hv, hg, r⟩
  · exact .inl h2
  · exact .inr ⟨g, cap, cur, hv, by omega, r⟩
theorem own_far {w : World} {B g cap : Nat} {xs : List Nod} (h : OwnNods w B (.slice (some ⟨g, 0, none⟩) xs.length cap) xs) (p : Addr) (hp : p.block ≠ g) (u : Value) : OwnNods (w.setCell p u) B (.slice (some ⟨g, 0, none⟩) xs.length cap) xs := by
  refine ⟨h.1, ?_⟩
  rcases h.2 with h2 | ⟨g', cap', cur, hv, hg, hh, r⟩
  · exact .inl h2
  · refine .inr ⟨g', cap', cur, hv, hg, ?_, r⟩
    have : g' = g := by simp at hv; exact hv.1.symm
    subst this
    rw [heap_setCell_other w p g' u (fun e => hp e.symm)]
    exact hh
theorem set_flat (xs : List Nod) (k : Nat) (hk : k < xs.length) (x : Nod) :
    ((((((xs.flatMap Nod.cells).set (k * 6) (.int .i64 x.ino)).set (k * 6 + 1) (.int .i64 x.kind)).set (k * 6 + 2) (.int .i64 x.links)).set (k * 6 + 3) (.string x.data)).set (k * 6 + 4) (.int .i64 x.parent)).set (k * 6 + 5) (.slice x.ea x.es.length x.ec) = (xs.set k x).flatMap Nod.cells := by
  induction xs generalizing k with
  | nil => simp at hk
  | cons y r ih =>
    cases k with
    | zero => rfl
    | succ k =>
      have e : ∀ (l : List Value) (j : Nat) (u : Value), (y.cells ++ l).set (j + 6) u = y.cells ++ l.set j u := fun l j u => by
        rw [List.set_append_right _ _ (by rw [Nod.cells_length]; omega), Nod.cells_length]; rfl
      rw [List.set_cons_succ, List.flatMap_cons, List.flatMap_cons, ← ih k (by simpa using hk)]
      rw [show (k + 1) * 6 = k * 6 + 6 by omega, show k * 6 + 6 + 1 = k * 6 + 1 + 6 by omega, show k * 6 + 6 + 2 = k * 6 + 2 + 6 by omega, show k * 6 + 6 + 3 = k * 6 + 3 + 6 by omega, show k * 6 + 6 + 4 = k * 6 + 4 + 6 by omega, show k * 6 + 6 + 5 = k * 6 + 5 + 6 by omega]
      simp only [e]
theorem own_put {w : World} {B g cap : Nat} {xs : List Nod} (h : OwnNods w B (.slice (some ⟨g, 0, none⟩) xs.length cap) xs) (k : Nat) (hk : k < xs.length) (x : Nod) :
    OwnNods ((((((w.setCell ⟨g, k * 6, none⟩ (.int .i64 x.ino)).setCell ⟨g, k * 6 + 1, none⟩ (.int .i64 x.kind)).setCell ⟨g, k * 6 + 2, none⟩ (.int .i64 x.links)).setCell ⟨g, k * 6 + 3, none⟩ (.string x.data)).setCell ⟨g, k * 6 + 4, none⟩ (.int .i64 x.parent)).setCell ⟨g, k * 6 + 5, none⟩ (.slice x.ea x.es.length x.ec)) B (.slice (some ⟨g, 0, none⟩) (xs.set k x).length cap) (xs.set k x) := by
  unfold OwnNods
  rw [List.length_set, ← set_flat xs k hk x]
  exact (World.ownsRow.stored (World.ownsRow.stored (World.ownsRow.stored (World.ownsRow.stored (World.ownsRow.stored (World.ownsRow.stored h _ _).1 _ _).1 _ _).1 _ _).1 _ _).1 _ _).1
theorem below_set {B : Nat} {a w : World} (h : Below B a w) (p : Addr) (hp : B ≤ p.block) (u : Value) : Below B a (w.setCell p u) := h.setCell hp u
set_option maxHeartbeats 4000000 in
set_option maxRecDepth 100000 in
theorem set_walk (mi mb nx : Int) (xs : List Nod) (x : Nod) (a : Option Addr) (c : Nat) (w : World) (hN : Nods w a c xs) (hR : Rises xs) (hz : xs.length ≤ 100000) (hh : has x.ino xs = true) :
    Calls Try.prog 20 #[.agg #[.int .i64 mi, .int .i64 mb, .int .i64 nx, .slice a xs.length c], .agg #[.int .i64 x.ino, .int .i64 x.kind, .int .i64 x.links, .string x.data, .int .i64 x.parent, .slice x.ea x.es.length x.ec]] w (FsPost mi mb nx (set x xs) w.heap.size w) := by
  have hc := fun W (hW : Below w.heap.size w W) => at_walk mi mb nx xs a c x.ino W (hN.below hW (Nat.le_refl _)) hR (by omega)
  have hd := fun W (hW : Below w.heap.size w W) => clone_walk xs a c W (hN.below hW (Nat.le_refl _)) (by omega)
  obtain ⟨hlt, he⟩ := has_rank hR hh
  have hset := set_has hR hh
  rw [hh] at hc
  obtain ⟨k, hk⟩ : ∃ k, k = rank x.ino xs := ⟨_, rfl⟩
  rw [← hk] at hc hlt hset
  have HC := Lib.hid hc
  have HD := Lib.hid hd
  have HS := Lib.hid hset
  obtain ⟨l1, l2, l3⟩ := hN.len
  have hB1 := (((Below.refl w.heap.size w).alloc (Nat.le_refl _) (Obj.cells #[.int .i64 mi, .int .i64 mb, .int .i64 nx, .slice a xs.length c] 25)).alloc (by simp) (Obj.cells #[.int .i64 x.ino, .int .i64 x.kind, .int .i64 x.links, .string x.data, .int .i64 x.parent, .slice x.ea x.es.length x.ec] 35)).alloc (by simp; omega) (Obj.cells #[.int .i64 0, .int .i64 0, .int .i64 0, .slice none 0 0] 25)
  have hl2 : k < xs.length := hlt
  clear hc hd hh hset hN hR he hk
  go_enter Try.func20, Try.ntmps20
  go_wp2_with fail
  refine (HC.out _ hB1).mono ?_
  rintro e w1 ⟨rfl, hB2⟩
  obtain ⟨bc, bf⟩ := bcell hB2
  have hB3 := hB1.trans (hB2.mono hB1.size)
  have hs1 := hB2.size
  simp only [World.size_alloc] at hs1
  go_wp2_with fail
  refine (HD.out _ hB3).mono ?_
  rintro e w2 ⟨v, rfl, hown, hB4⟩
  obtain ⟨g, cap, cur, rfl, hBg, hgw, hg, hnc, hcm, hcur, hxs⟩ := hown.some (by omega)
  obtain ⟨t0, t1, t2⟩ := laid2 w (Obj.cells #[.int .i64 mi, .int .i64 mb, .int .i64 nx, .slice a xs.length c] 25) (Obj.cells #[.int .i64 x.ino, .int .i64 x.kind, .int .i64 x.links, .string x.data, .int .i64 x.parent, .slice x.ea x.es.length x.ec] 35) (Obj.cells #[.int .i64 0, .int .i64 0, .int .i64 0, .slice none 0 0] 25)
  rw [← hB2.block _ (by simp; try omega), ← hB4.block _ (by omega)] at t0 t1 t2
  obtain ⟨a0, a1, a2, a3, af⟩ := box4 t0
  obtain ⟨x0, x1, x2, x3, x4, x5, xf⟩ := box6 t1
  obtain ⟨r0, r1, r2, r3, rf⟩ := box4 t2
  have n0 : ¬ g = w.heap.size := by omega
  have n1 : ¬ g = w.heap.size + 1 := by omega
  have n2 : ¬ g = w.heap.size + 1 + 1 := by omega
  have m0 : ¬ w.heap.size = g := by omega
  have m1 : ¬ w.heap.size + 1 = g := by omega
  have m2 : ¬ w.heap.size + 1 + 1 = g := by omega
  have hcap' : (cap : Int) ≤ 9223372036854775807 := by unfold maxLen at hcm; omega
  have cz : ∀ j, j < 6 → ∃ u, w2.cell? ⟨g, k * 6 + j, none⟩ = some u := fun j hj => by
    rw [cell_of_row w2 g _ cur _ (0, 0) hg]
    exact ⟨_, Array.getElem?_eq_getElem (by omega)⟩
  have fz : ∀ o, w2.frozen? ⟨g, o, none⟩ = false := fun o => frozen_of_row w2 g o _ _ hg
  obtain ⟨u0, d0⟩ := cz 0 (by omega)
  obtain ⟨u1, d1⟩ := cz 1 (by omega)
  obtain ⟨u2, d2⟩ := cz 2 (by omega)
  obtain ⟨u3, d3⟩ := cz 3 (by omega)
  obtain ⟨u4, d4⟩ := cz 4 (by omega)
  obtain ⟨u5, d5⟩ := cz 5 (by omega)
  rw [Nat.add_zero] at d0
  have HO := Lib.hid hown
  have HX := Lib.hid hcur
  have HG := Lib.hid hg
  clear cz hcur hxs hg hown hcm bc bf t0 t1 t2
  have hB5 : Below w.heap.size w w2 := hB3.trans (hB4.mono (by omega))
  have HO2 := Lib.hid (own_mono (own_put (own_far HO.out ⟨w.heap.size, 3, none⟩ m0 (.slice (some ⟨g, 0, none⟩) xs.length cap)) k hl2 x) (show w.heap.size ≤ w1.heap.size by omega))
  rw [List.length_set] at HO2
  go_wp2
  refine bodyPost_ret (v := FsVal mi mb nx (.slice (some ⟨g, 0, none⟩) xs.length cap)) ?_ rfl ?_
  · rw [results_cell1 rfl]; go_simp; rfl
  · refine ⟨_, rfl, ?_, ?_⟩
    · rw [← HS.out]
      have h := HO2.out
      rw [← List.length_set (i := k) (a := x)] at h ⊢
      exact own_far (own_far (own_far (own_far h _ m2 _) _ m2 _) _ m2 _) _ m2 _
    · repeat' (first | with_reducible exact hB5 | with_reducible refine below_set ?_ _ ?_ _ | omega | (dsimp only; omega))
end Go.Proofs.Yteaemnjomlcfcaa.Tab
