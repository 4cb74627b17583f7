/- The laws on tables, walked: what is got, what is set, whether two are alike. (printed by gen_tablaw2.py) -/
import Derived.Test.YteaemnjomlcfcaaTabLaw1
set_option linter.unusedVariables false
set_option linter.unusedSimpArgs false
namespace Go.Proofs.Yteaemnjomlcfcaa.Tab
open Go.RowKit Go.Proofs.Yteaemnjomlcfcaa.Kit
theorem OwnNods.parts {w : World} {B : Nat} {v : Value} {xs : List Nod} (h : OwnNods w B v xs) (hx : ∀ x ∈ xs, NodOk w x) : ∃ a c, v = .slice a xs.length c ∧ Nods w a c xs := by
  obtain ⟨a, c, e, h1, _⟩ := h.nods hx
  exact ⟨a, c, e, h1⟩
theorem NodOk.zero (w : World) : NodOk w Nod.zero := Sl.nil _ _ _ _ _ (by decide)
theorem get_ok {w : World} {n : Int} {xs : List Nod} (h : ∀ x ∈ xs, NodOk w x) : NodOk w ((get n xs).getD Nod.zero) := by
  cases hg : get n xs with
  | none => exact NodOk.zero w
  | some y => exact h y (List.mem_of_find?_eq_some hg)
set_option maxHeartbeats 8000000 in
set_option maxRecDepth 100000 in
theorem gets_nofew (mi mb nx : Int) (xs : List Nod) (a : Option Addr) (c : Nat) (n : Int) (w : World) (hN : Nods w a c xs) (h : few xs = false) :
    Calls Try.prog 4 #[.agg #[.int .i64 mi, .int .i64 mb, .int .i64 nx, .slice a xs.length c], .int .i64 n] w fun e w' => e = .returned (.bool true) ∧ Below w.heap.size w w' := by
  have HF : Hid (∀ W, Below w.heap.size w W → Calls Try.prog 13 #[.agg #[.int .i64 mi, .int .i64 mb, .int .i64 nx, .slice a xs.length c]] W fun e w' => e = .returned (.bool false) ∧ Below W.heap.size W w') := Lib.hid fun W hW => by
    have := few_walk mi mb nx xs a c W (hN.below hW (Nat.le_refl _))
    rw [h] at this
    exact this
  have t0 := laid0 w (.cells #[.int .i64 mi, .int .i64 mb, .int .i64 nx, .slice a xs.length c] 25)
  obtain ⟨l1, l2, l3⟩ := hN.len
  clear hN h
  go_enter Try.func4, Try.ntmps4
  go_wp2_with fail
  refine (awake_walk _).mono ?_
  rintro e w1 ⟨rfl, hB1⟩
  have hB10 : Below w.heap.size w w1 := ((Below.refl _ w).alloc (Nat.le_refl _) _).trans (hB1.mono (by simp))
  rw [← hB1.block _ (by simp)] at t0
  obtain ⟨f0, f1, f2, f3, -⟩ := box4 t0
  go_wp2_with fail
  refine (HF.out _ hB10).mono ?_
  rintro e w2 ⟨rfl, hB2⟩
  go_wp2_with fail
  refine (awake_walk _).mono ?_
  rintro e w3 ⟨rfl, hB3⟩
  go_wp2
  go_ret
  exact ⟨rfl, (hB10.trans (hB2.mono hB10.size)).trans (hB3.mono (Nat.le_trans hB10.size hB2.size))⟩
set_option maxHeartbeats 8000000 in
set_option maxRecDepth 100000 in
theorem gets_norise (mi mb nx : Int) (xs : List Nod) (a : Option Addr) (c : Nat) (n : Int) (w : World) (hN : Nods w a c xs) (hf : few xs = true) (h : ¬ Rises xs) :
    Calls Try.prog 4 #[.agg #[.int .i64 mi, .int .i64 mb, .int .i64 nx, .slice a xs.length c], .int .i64 n] w fun e w' => e = .returned (.bool true) ∧ Below w.heap.size w w' := by
  have HF : Hid (∀ W, Below w.heap.size w W → Calls Try.prog 13 #[.agg #[.int .i64 mi, .int .i64 mb, .int .i64 nx, .slice a xs.length c]] W fun e w' => e = .returned (.bool true) ∧ Below W.heap.size W w') := Lib.hid fun W hW => by
    have := few_walk mi mb nx xs a c W (hN.below hW (Nat.le_refl _))
    rw [hf] at this
    exact this
  have HR : Hid (∀ W, Below w.heap.size w W → Calls Try.prog 14 #[.agg #[.int .i64 mi, .int .i64 mb, .int .i64 nx, .slice a xs.length c]] W fun e w' => e = .returned (.bool false) ∧ Below W.heap.size W w') := Lib.hid fun W hW => by
    have := rise_walk mi mb nx xs a c W (hN.below hW (Nat.le_refl _)) (by have := few_le hf; omega)
    rw [decide_eq_false h] at this
    exact this
  have t0 := laid0 w (.cells #[.int .i64 mi, .int .i64 mb, .int .i64 nx, .slice a xs.length c] 25)
  obtain ⟨l1, l2, l3⟩ := hN.len
  clear hN h hf
  go_enter Try.func4, Try.ntmps4
  go_wp2_with fail
  refine (awake_walk _).mono ?_
  rintro e w1 ⟨rfl, hB1⟩
  have hB10 : Below w.heap.size w w1 := ((Below.refl _ w).alloc (Nat.le_refl _) _).trans (hB1.mono (by simp))
  have hs1 := hB1.size
  simp only [World.size_alloc] at hs1
  rw [← hB1.block _ (by simp)] at t0
  obtain ⟨f0, f1, f2, f3, -⟩ := box4 t0
  go_wp2_with fail
  refine (HF.out _ hB10).mono ?_
  rintro e w2 ⟨rfl, hB2⟩
  have hB20 := hB10.trans (hB2.mono hB10.size)
  rw [← hB2.block _ (by omega)] at t0
  obtain ⟨f0', f1', f2', f3', -⟩ := box4 t0
  clear f0 f1 f2 f3
  go_wp2_with fail
  refine (HR.out _ hB20).mono ?_
  rintro e w3 ⟨rfl, hB3⟩
  have hB30 := hB20.trans (hB3.mono hB20.size)
  go_wp2_with fail
  refine (awake_walk _).mono ?_
  rintro e w4 ⟨rfl, hB4⟩
  go_wp2
  go_ret
  exact ⟨rfl, hB30.trans (hB4.mono hB30.size)⟩
set_option maxHeartbeats 8000000 in
set_option maxRecDepth 100000 in
theorem gets_ok (mi mb nx : Int) (xs : List Nod) (a : Option Addr) (c : Nat) (n : Int) (w : World) (hN : Nods w a c xs) (hf : few xs = true) (hR : Rises xs) :
    Calls Try.prog 4 #[.agg #[.int .i64 mi, .int .i64 mb, .int .i64 nx, .slice a xs.length c], .int .i64 n] w fun e w' => e = .returned (.bool true) ∧ Below w.heap.size w w' := by
  have h40 := few_le hf
  have HF : Hid (∀ W, Below w.heap.size w W → Calls Try.prog 13 #[.agg #[.int .i64 mi, .int .i64 mb, .int .i64 nx, .slice a xs.length c]] W fun e w' => e = .returned (.bool true) ∧ Below W.heap.size W w') := Lib.hid fun W hW => by
    have := few_walk mi mb nx xs a c W (hN.below hW (Nat.le_refl _))
    rw [hf] at this
    exact this
  have HR : Hid (∀ W, Below w.heap.size w W → Calls Try.prog 14 #[.agg #[.int .i64 mi, .int .i64 mb, .int .i64 nx, .slice a xs.length c]] W fun e w' => e = .returned (.bool true) ∧ Below W.heap.size W w') := Lib.hid fun W hW => by
    have := rise_walk mi mb nx xs a c W (hN.below hW (Nat.le_refl _)) (by omega)
    rw [decide_eq_true hR] at this
    exact this
  obtain ⟨y, hy⟩ : ∃ y, y = (get n xs).getD Nod.zero := ⟨_, rfl⟩
  obtain ⟨b, hb⟩ : ∃ b, b = (get n xs).isSome := ⟨_, rfl⟩
  have hyk : NodOk w y := by rw [hy]; exact get_ok hN.2
  have HG1 : Hid (∀ W, Below w.heap.size w W → Calls Try.prog 15 #[.agg #[.int .i64 mi, .int .i64 mb, .int .i64 nx, .slice a xs.length c], .int .i64 n] W fun e w' => e = .returned (.tuple #[.agg #[.int .i64 y.ino, .int .i64 y.kind, .int .i64 y.links, .string y.data, .int .i64 y.parent, .slice y.ea y.es.length y.ec], .bool b]) ∧ Below W.heap.size W w') := Lib.hid fun W hW => by
    have := get_walk mi mb nx xs a c n W (hN.below hW (Nat.le_refl _)) hR (by omega)
    unfold GetPost at this
    rw [← hy, ← hb] at this
    exact this
  have HG2 : Hid (∀ W, Below w.heap.size w W → Calls Try.prog 16 #[.agg #[.int .i64 mi, .int .i64 mb, .int .i64 nx, .slice a xs.length c], .int .i64 n] W fun e w' => e = .returned (.tuple #[.agg #[.int .i64 y.ino, .int .i64 y.kind, .int .i64 y.links, .string y.data, .int .i64 y.parent, .slice y.ea y.es.length y.ec], .bool b]) ∧ Below W.heap.size W w') := Lib.hid fun W hW => by
    have := rget_walk mi mb nx xs a c n W (hN.below hW (Nat.le_refl _)) (by omega)
    unfold GetPost at this
    rw [← hy, ← hb] at this
    exact this
  have HX0 : ∀ W, Below w.heap.size w W → ∀ x ∈ drop n xs, NodOk W x := fun W hW x hx => (hN.2 x (drop_sub x hx)).below hW (Nat.le_refl _)
  have t0 := laid0 w (.cells #[.int .i64 mi, .int .i64 mb, .int .i64 nx, .slice a xs.length c] 25)
  obtain ⟨l1, l2, l3⟩ := hN.len
  have hbb : (b == b) = true := beq_self_eq_true b
  have HN := Lib.hid hN
  have HRI := Lib.hid hR
  have HY := Lib.hid hyk
  clear hN hf hR hy hb hyk
  go_enter Try.func4, Try.ntmps4
  go_wp2_with fail
  refine (awake_walk _).mono ?_
  rintro e w1' ⟨rfl, hB1⟩
  have hB10 : Below w.heap.size w w1' := ((Below.refl _ w).alloc (Nat.le_refl _) _).trans (hB1.mono (by simp))
  have hs1 := hB1.size
  simp only [World.size_alloc] at hs1
  rw [← hB1.block _ (by simp)] at t0
  obtain ⟨f0, f1, f2, f3, -⟩ := box4 t0
  go_wp2_with fail
  refine (HF.out _ hB10).mono ?_
  rintro e w1'' ⟨rfl, hB2⟩
  have hB20 := hB10.trans (hB2.mono hB10.size)
  have hs2 := hB2.size
  rw [← hB2.block _ (by omega)] at t0
  clear f0 f1 f2 f3
  obtain ⟨f0, f1, f2, f3, -⟩ := box4 t0
  go_wp2_with fail
  refine (HR.out _ hB20).mono ?_
  rintro e w1 ⟨rfl, hB3⟩
  have hB30 := hB20.trans (hB3.mono hB20.size)
  have hs3 := hB3.size
  rw [← hB3.block _ (by omega)] at t0
  clear f0 f1 f2 f3 hB1 hB2 hB3 hB10 hB20
  obtain ⟨f0, f1, f2, f3, -⟩ := box4 t0
  go_wp2_with fail
  refine (HG1.out _ hB30).mono ?_
  rintro e w2 ⟨rfl, hB4⟩
  have hB40 := hB30.trans (hB4.mono hB30.size)
  have hs4 := hB4.size
  have n4 : w.heap.size < w2.heap.size := by omega
  rw [← hB4.block _ (by omega)] at t0
  clear f0 f1 f2 f3
  obtain ⟨f0, f1, f2, f3, -⟩ := box4 t0
  go_wp2_with fail
  refine (HG2.out _ (hB40.alloc (by omega) _)).mono ?_
  rintro e w3 ⟨rfl, hB5⟩
  have hs5 := hB5.size
  simp only [World.size_alloc] at hs5
  have t1 := laid0 w2 (.cells #[.int .i64 y.ino, .int .i64 y.kind, .int .i64 y.links, .string y.data, .int .i64 y.parent, .slice y.ea y.es.length y.ec] 35)
  rw [← hB5.block _ (by simp)] at t1
  rw [← laid_past w2 (.cells #[.int .i64 y.ino, .int .i64 y.kind, .int .i64 y.links, .string y.data, .int .i64 y.parent, .slice y.ea y.es.length y.ec] 35) (by omega), ← hB5.block _ (by simp; omega)] at t0
  have hB50 : Below w.heap.size w w3 := (hB40.alloc (by omega) _).trans (hB5.mono (by simp; omega))
  have t2 := laid0 w3 (.cells #[.int .i64 y.ino, .int .i64 y.kind, .int .i64 y.links, .string y.data, .int .i64 y.parent, .slice y.ea y.es.length y.ec] 35)
  rw [← laid_past w3 (.cells #[.int .i64 y.ino, .int .i64 y.kind, .int .i64 y.links, .string y.data, .int .i64 y.parent, .slice y.ea y.es.length y.ec] 35) (by omega)] at t0 t1
  clear f0 f1 f2 f3 hB4 hB5 hB40
  obtain ⟨W0, hW0⟩ : ∃ W0, W0 = w3.alloc (.cells #[.int .i64 y.ino, .int .i64 y.kind, .int .i64 y.links, .string y.data, .int .i64 y.parent, .slice y.ea y.es.length y.ec] 35) := ⟨_, rfl⟩
  rw [← hW0] at t0 t1 t2
  have hz0 : W0.heap.size = w3.heap.size + 1 := by rw [hW0]; simp
  have hb0 : Below w.heap.size w W0 := by rw [hW0]; exact hB50.alloc (by omega) _
  have HK : Hid (∀ W, Below W0.heap.size W0 W → Below W0.heap.size W0 W ∧ (W.cell? ⟨w.heap.size, 0, none⟩ = some (.int .i64 mi) ∧ W.cell? ⟨w.heap.size, 1, none⟩ = some (.int .i64 mb) ∧ W.cell? ⟨w.heap.size, 2, none⟩ = some (.int .i64 nx) ∧ W.cell? ⟨w.heap.size, 3, none⟩ = some (.slice a xs.length c)) ∧ (W.cell? ⟨w2.heap.size, 0, none⟩ = some (.int .i64 y.ino) ∧ W.cell? ⟨w2.heap.size, 1, none⟩ = some (.int .i64 y.kind) ∧ W.cell? ⟨w2.heap.size, 2, none⟩ = some (.int .i64 y.links) ∧ W.cell? ⟨w2.heap.size, 3, none⟩ = some (.string y.data) ∧ W.cell? ⟨w2.heap.size, 4, none⟩ = some (.int .i64 y.parent) ∧ W.cell? ⟨w2.heap.size, 5, none⟩ = some (.slice y.ea y.es.length y.ec)) ∧ (W.cell? ⟨w3.heap.size, 0, none⟩ = some (.int .i64 y.ino) ∧ W.cell? ⟨w3.heap.size, 1, none⟩ = some (.int .i64 y.kind) ∧ W.cell? ⟨w3.heap.size, 2, none⟩ = some (.int .i64 y.links) ∧ W.cell? ⟨w3.heap.size, 3, none⟩ = some (.string y.data) ∧ W.cell? ⟨w3.heap.size, 4, none⟩ = some (.int .i64 y.parent) ∧ W.cell? ⟨w3.heap.size, 5, none⟩ = some (.slice y.ea y.es.length y.ec))) := Lib.hid fun W hb => by
    rw [← hb.block _ (by omega)] at t0
    rw [← hb.block _ (by omega)] at t1
    rw [← hb.block _ (by omega)] at t2
    obtain ⟨z0_0, z0_1, z0_2, z0_3, -⟩ := box4 t0
    obtain ⟨z1_0, z1_1, z1_2, z1_3, z1_4, z1_5, -⟩ := box6 t1
    obtain ⟨z2_0, z2_1, z2_2, z2_3, z2_4, z2_5, -⟩ := box6 t2
    exact ⟨hb, ⟨z0_0, z0_1, z0_2, z0_3⟩, ⟨z1_0, z1_1, z1_2, z1_3, z1_4, z1_5⟩, ⟨z2_0, z2_1, z2_2, z2_3, z2_4, z2_5⟩⟩
  have HS : Hid (∀ W u, (Below W0.heap.size W0 W ∧ (W.cell? ⟨w.heap.size, 0, none⟩ = some (.int .i64 mi) ∧ W.cell? ⟨w.heap.size, 1, none⟩ = some (.int .i64 mb) ∧ W.cell? ⟨w.heap.size, 2, none⟩ = some (.int .i64 nx) ∧ W.cell? ⟨w.heap.size, 3, none⟩ = some (.slice a xs.length c)) ∧ (W.cell? ⟨w2.heap.size, 0, none⟩ = some (.int .i64 y.ino) ∧ W.cell? ⟨w2.heap.size, 1, none⟩ = some (.int .i64 y.kind) ∧ W.cell? ⟨w2.heap.size, 2, none⟩ = some (.int .i64 y.links) ∧ W.cell? ⟨w2.heap.size, 3, none⟩ = some (.string y.data) ∧ W.cell? ⟨w2.heap.size, 4, none⟩ = some (.int .i64 y.parent) ∧ W.cell? ⟨w2.heap.size, 5, none⟩ = some (.slice y.ea y.es.length y.ec)) ∧ (W.cell? ⟨w3.heap.size, 0, none⟩ = some (.int .i64 y.ino) ∧ W.cell? ⟨w3.heap.size, 1, none⟩ = some (.int .i64 y.kind) ∧ W.cell? ⟨w3.heap.size, 2, none⟩ = some (.int .i64 y.links) ∧ W.cell? ⟨w3.heap.size, 3, none⟩ = some (.string y.data) ∧ W.cell? ⟨w3.heap.size, 4, none⟩ = some (.int .i64 y.parent) ∧ W.cell? ⟨w3.heap.size, 5, none⟩ = some (.slice y.ea y.es.length y.ec))) → Below W.heap.size W u → Below W0.heap.size W0 u) := Lib.hid fun W u h hb => h.1.trans (hb.mono h.1.size)
  have HO : Hid (∀ W, (Below W0.heap.size W0 W ∧ (W.cell? ⟨w.heap.size, 0, none⟩ = some (.int .i64 mi) ∧ W.cell? ⟨w.heap.size, 1, none⟩ = some (.int .i64 mb) ∧ W.cell? ⟨w.heap.size, 2, none⟩ = some (.int .i64 nx) ∧ W.cell? ⟨w.heap.size, 3, none⟩ = some (.slice a xs.length c)) ∧ (W.cell? ⟨w2.heap.size, 0, none⟩ = some (.int .i64 y.ino) ∧ W.cell? ⟨w2.heap.size, 1, none⟩ = some (.int .i64 y.kind) ∧ W.cell? ⟨w2.heap.size, 2, none⟩ = some (.int .i64 y.links) ∧ W.cell? ⟨w2.heap.size, 3, none⟩ = some (.string y.data) ∧ W.cell? ⟨w2.heap.size, 4, none⟩ = some (.int .i64 y.parent) ∧ W.cell? ⟨w2.heap.size, 5, none⟩ = some (.slice y.ea y.es.length y.ec)) ∧ (W.cell? ⟨w3.heap.size, 0, none⟩ = some (.int .i64 y.ino) ∧ W.cell? ⟨w3.heap.size, 1, none⟩ = some (.int .i64 y.kind) ∧ W.cell? ⟨w3.heap.size, 2, none⟩ = some (.int .i64 y.links) ∧ W.cell? ⟨w3.heap.size, 3, none⟩ = some (.string y.data) ∧ W.cell? ⟨w3.heap.size, 4, none⟩ = some (.int .i64 y.parent) ∧ W.cell? ⟨w3.heap.size, 5, none⟩ = some (.slice y.ea y.es.length y.ec))) → Calls Try.prog 17 #[.agg #[.int .i64 y.ino, .int .i64 y.kind, .int .i64 y.links, .string y.data, .int .i64 y.parent, .slice y.ea y.es.length y.ec], .agg #[.int .i64 y.ino, .int .i64 y.kind, .int .i64 y.links, .string y.data, .int .i64 y.parent, .slice y.ea y.es.length y.ec]] W fun e w' => e = .returned (.bool true) ∧ Below W.heap.size W w') := Lib.hid fun W h => by
    have hW := hb0.trans (h.1.mono hb0.size)
    have := one_walk y y W (HY.out.below hW (Nat.le_refl _)) (HY.out.below hW (Nat.le_refl _))
    rw [Nod.like_self] at this
    exact this
  have HD : Hid (∀ W, (Below W0.heap.size W0 W ∧ (W.cell? ⟨w.heap.size, 0, none⟩ = some (.int .i64 mi) ∧ W.cell? ⟨w.heap.size, 1, none⟩ = some (.int .i64 mb) ∧ W.cell? ⟨w.heap.size, 2, none⟩ = some (.int .i64 nx) ∧ W.cell? ⟨w.heap.size, 3, none⟩ = some (.slice a xs.length c)) ∧ (W.cell? ⟨w2.heap.size, 0, none⟩ = some (.int .i64 y.ino) ∧ W.cell? ⟨w2.heap.size, 1, none⟩ = some (.int .i64 y.kind) ∧ W.cell? ⟨w2.heap.size, 2, none⟩ = some (.int .i64 y.links) ∧ W.cell? ⟨w2.heap.size, 3, none⟩ = some (.string y.data) ∧ W.cell? ⟨w2.heap.size, 4, none⟩ = some (.int .i64 y.parent) ∧ W.cell? ⟨w2.heap.size, 5, none⟩ = some (.slice y.ea y.es.length y.ec)) ∧ (W.cell? ⟨w3.heap.size, 0, none⟩ = some (.int .i64 y.ino) ∧ W.cell? ⟨w3.heap.size, 1, none⟩ = some (.int .i64 y.kind) ∧ W.cell? ⟨w3.heap.size, 2, none⟩ = some (.int .i64 y.links) ∧ W.cell? ⟨w3.heap.size, 3, none⟩ = some (.string y.data) ∧ W.cell? ⟨w3.heap.size, 4, none⟩ = some (.int .i64 y.parent) ∧ W.cell? ⟨w3.heap.size, 5, none⟩ = some (.slice y.ea y.es.length y.ec))) → Calls Try.prog 18 #[.agg #[.int .i64 mi, .int .i64 mb, .int .i64 nx, .slice a xs.length c], .int .i64 n] W (FsPost mi mb nx (drop n xs) W.heap.size W)) := Lib.hid fun W h => drop_any mi mb nx xs n a c W (HN.out.below (hb0.trans (h.1.mono hb0.size)) (Nat.le_refl _)) HRI.out (by omega)
  have HE : Hid (∀ W, (Below W0.heap.size W0 W ∧ (W.cell? ⟨w.heap.size, 0, none⟩ = some (.int .i64 mi) ∧ W.cell? ⟨w.heap.size, 1, none⟩ = some (.int .i64 mb) ∧ W.cell? ⟨w.heap.size, 2, none⟩ = some (.int .i64 nx) ∧ W.cell? ⟨w.heap.size, 3, none⟩ = some (.slice a xs.length c)) ∧ (W.cell? ⟨w2.heap.size, 0, none⟩ = some (.int .i64 y.ino) ∧ W.cell? ⟨w2.heap.size, 1, none⟩ = some (.int .i64 y.kind) ∧ W.cell? ⟨w2.heap.size, 2, none⟩ = some (.int .i64 y.links) ∧ W.cell? ⟨w2.heap.size, 3, none⟩ = some (.string y.data) ∧ W.cell? ⟨w2.heap.size, 4, none⟩ = some (.int .i64 y.parent) ∧ W.cell? ⟨w2.heap.size, 5, none⟩ = some (.slice y.ea y.es.length y.ec)) ∧ (W.cell? ⟨w3.heap.size, 0, none⟩ = some (.int .i64 y.ino) ∧ W.cell? ⟨w3.heap.size, 1, none⟩ = some (.int .i64 y.kind) ∧ W.cell? ⟨w3.heap.size, 2, none⟩ = some (.int .i64 y.links) ∧ W.cell? ⟨w3.heap.size, 3, none⟩ = some (.string y.data) ∧ W.cell? ⟨w3.heap.size, 4, none⟩ = some (.int .i64 y.parent) ∧ W.cell? ⟨w3.heap.size, 5, none⟩ = some (.slice y.ea y.es.length y.ec))) → Calls Try.prog 19 #[.agg #[.int .i64 mi, .int .i64 mb, .int .i64 nx, .slice a xs.length c], .int .i64 n] W (FsPost mi mb nx (drop n xs) W.heap.size W)) := Lib.hid fun W h => rdrop_walk mi mb nx xs n a c W (HN.out.below (hb0.trans (h.1.mono hb0.size)) (Nat.le_refl _)) (by omega)
  have HX : Hid (∀ u, Below W0.heap.size W0 u → ∀ x ∈ drop n xs, NodOk u x) := Lib.hid fun u hu => HX0 u (hb0.trans (hu.mono hb0.size))
  have HT : Hid (∀ (W : World) a2 c2 a3 c3, Nods W a2 c2 (drop n xs) → Nods W a3 c3 (drop n xs) → Calls Try.prog 11 #[.agg #[.int .i64 mi, .int .i64 mb, .int .i64 nx, .slice a2 (drop n xs).length c2], .agg #[.int .i64 mi, .int .i64 mb, .int .i64 nx, .slice a3 (drop n xs).length c3]] W fun e w' => e = .returned (.bool true) ∧ Below W.heap.size W w') := Lib.hid fun W a2 c2 a3 c3 h1 h2 => by
    have := rsame_walk mi mb nx mi mb nx (drop n xs) (drop n xs) a2 a3 c2 c3 W h1 h2
    rw [beq_self_eq_true, beq_self_eq_true, beq_self_eq_true, likes_self] at this
    exact this
  have hBs := hb0.size
  have HW := Lib.hid hW0
  clear hW0 t0 t1 t2 hz0 hB30 hB50 HF HR HG1 HG2 HX0 HY HN HRI
  go_wp2
  rw [← HW.out]
  go_region_held3 (fun W => Below W0.heap.size W0 W ∧ (W.cell? ⟨w.heap.size, 0, none⟩ = some (.int .i64 mi) ∧ W.cell? ⟨w.heap.size, 1, none⟩ = some (.int .i64 mb) ∧ W.cell? ⟨w.heap.size, 2, none⟩ = some (.int .i64 nx) ∧ W.cell? ⟨w.heap.size, 3, none⟩ = some (.slice a xs.length c)) ∧ (W.cell? ⟨w2.heap.size, 0, none⟩ = some (.int .i64 y.ino) ∧ W.cell? ⟨w2.heap.size, 1, none⟩ = some (.int .i64 y.kind) ∧ W.cell? ⟨w2.heap.size, 2, none⟩ = some (.int .i64 y.links) ∧ W.cell? ⟨w2.heap.size, 3, none⟩ = some (.string y.data) ∧ W.cell? ⟨w2.heap.size, 4, none⟩ = some (.int .i64 y.parent) ∧ W.cell? ⟨w2.heap.size, 5, none⟩ = some (.slice y.ea y.es.length y.ec)) ∧ (W.cell? ⟨w3.heap.size, 0, none⟩ = some (.int .i64 y.ino) ∧ W.cell? ⟨w3.heap.size, 1, none⟩ = some (.int .i64 y.kind) ∧ W.cell? ⟨w3.heap.size, 2, none⟩ = some (.int .i64 y.links) ∧ W.cell? ⟨w3.heap.size, 3, none⟩ = some (.string y.data) ∧ W.cell? ⟨w3.heap.size, 4, none⟩ = some (.int .i64 y.parent) ∧ W.cell? ⟨w3.heap.size, 5, none⟩ = some (.slice y.ea y.es.length y.ec))) ((refine HK.out _ ?_; (repeat' (first | with_reducible assumption | with_reducible exact Below.refl _ _ | with_reducible refine Below.setCell ?_ ?_ _ | with_reducible refine Below.alloc ?_ ?_ _ | with_reducible refine Below.drew ?_ | omega | (simp; done) | (simp; omega))))) (first | (go_at_call 17; refine (HO.out _ (by assumption)).mono ?_; rintro e u1 ⟨rfl, hBv1⟩; have hBu1 := HS.out _ _ (by assumption) hBv1; clear hBv1) | (go_at_call 18; refine (HD.out _ (by assumption)).mono ?_; rintro e u2 ⟨v2, rfl, own2, hBv2⟩; have hBu2 := HS.out _ _ (by assumption) hBv2; obtain ⟨a2, c2, hv2, nod2⟩ := OwnNods.parts own2 (HX.out u2 hBu2); subst hv2; have N2 := Lib.hid nod2; clear own2 nod2; unfold FsVal) | (go_at_call 19; refine (HE.out _ (by assumption)).mono ?_; rintro e u3 ⟨v3, rfl, own3, hBv3⟩; have hBu3 := HS.out _ _ (by assumption) hBv3; obtain ⟨a3, c3, hv3, nod3⟩ := OwnNods.parts own3 (HX.out u3 hBu3); subst hv3; have N3 := Lib.hid nod3; clear own3 nod3; unfold FsVal) | (go_at_call 11; refine (HT.out _ _ _ _ _ (N2.out.below (by first | with_reducible exact Below.refl _ _ | assumption) (Nat.le_refl _)) (N3.out.below (by first | with_reducible exact Below.refl _ _ | assumption) (Nat.le_refl _))).mono ?_; rintro e u4 ⟨rfl, hBv4⟩; have hBu4 := HS.out _ _ (by assumption) hBv4; clear hBv4))
  all_goals
    go_wp2
    go_ret
    exact ⟨rfl, hb0.trans (hBu4.mono hBs)⟩
end Go.Proofs.Yteaemnjomlcfcaa.Tab
