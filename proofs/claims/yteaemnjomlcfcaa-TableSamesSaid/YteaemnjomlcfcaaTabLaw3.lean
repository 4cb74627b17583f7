/- The laws on tables, walked: what is set, whether two are alike. (printed by gen_tablaw3.py) -/
import Derived.Test.YteaemnjomlcfcaaTabLaw2
set_option linter.unusedVariables false
set_option linter.unusedSimpArgs false
namespace Go.Proofs.Yteaemnjomlcfcaa.Tab
open Go.RowKit Go.Proofs.Yteaemnjomlcfcaa.Kit
set_option maxHeartbeats 8000000 in
set_option maxRecDepth 100000 in
theorem sets_nofew (mi mb nx : Int) (xs : List Nod) (x : Nod) (a : Option Addr) (c : Nat) (w : World) (hN : Nods w a c xs) (hx : NodOk w x) (hf : few xs = false) : Calls Try.prog 5 #[.agg #[.int .i64 mi, .int .i64 mb, .int .i64 nx, .slice a xs.length c], .agg #[.int .i64 x.ino, .int .i64 x.kind, .int .i64 x.links, .string x.data, .int .i64 x.parent, .slice x.ea x.es.length x.ec]] w fun e w' => e = .returned (.bool true) ∧ Below w.heap.size w w' := by
  have HF : Hid (∀ W, Below w.heap.size w W → Calls Try.prog 13 #[.agg #[.int .i64 mi, .int .i64 mb, .int .i64 nx, .slice a xs.length c]] W fun e w' => e = .returned (.bool false) ∧ Below W.heap.size W w') := Lib.hid fun W hW => by
    have := few_walk mi mb nx xs a c W (hN.below hW (Nat.le_refl _))
    rw [hf] at this
    exact this
  obtain ⟨t0, t1⟩ := laid1 w (.cells #[.int .i64 mi, .int .i64 mb, .int .i64 nx, .slice a xs.length c] 25) (.cells #[.int .i64 x.ino, .int .i64 x.kind, .int .i64 x.links, .string x.data, .int .i64 x.parent, .slice x.ea x.es.length x.ec] 35)
  obtain ⟨l1, l2, l3⟩ := hN.len
  obtain ⟨m1, m2, m3⟩ := Ents.len hx
  clear hN hf hx
  go_enter Try.func5, Try.ntmps5
  go_wp2_with fail
  refine (awake_walk _).mono ?_
  rintro e w1 ⟨rfl, hB1⟩
  have hB10 : Below w.heap.size w w1 := (((Below.refl _ w).alloc (Nat.le_refl _) _).alloc (by simp) _).trans (hB1.mono (by simp; try omega))
  have hs1 := hB1.size
  simp only [World.size_alloc] at hs1
  rw [← hB1.block _ (by simp; try omega)] at t0 t1
  obtain ⟨f0_0, f0_1, f0_2, f0_3, -⟩ := box4 t0
  obtain ⟨f1_0, f1_1, f1_2, f1_3, f1_4, f1_5, -⟩ := box6 t1
  go_wp2_with fail
  refine (HF.out _ hB10).mono ?_
  rintro e w2 ⟨rfl, hB2⟩
  have hB20 := hB10.trans (hB2.mono hB10.size)
  have hs2 := hB2.size
  rw [← hB2.block _ (by omega)] at t0 t1
  clear f0_0 f0_1 f0_2 f0_3 f1_0 f1_1 f1_2 f1_3 f1_4 f1_5
  obtain ⟨f0_0, f0_1, f0_2, f0_3, -⟩ := box4 t0
  obtain ⟨f1_0, f1_1, f1_2, f1_3, f1_4, f1_5, -⟩ := box6 t1
  go_wp2_with fail
  refine (awake_walk _).mono ?_
  rintro e w3 ⟨rfl, hB3⟩
  go_wp2
  go_ret
  exact ⟨rfl, hB20.trans (hB3.mono hB20.size)⟩
set_option maxHeartbeats 8000000 in
set_option maxRecDepth 100000 in
theorem sets_norise (mi mb nx : Int) (xs : List Nod) (x : Nod) (a : Option Addr) (c : Nat) (w : World) (hN : Nods w a c xs) (hx : NodOk w x) (hf : few xs = true) (hR : ¬ Rises xs) : Calls Try.prog 5 #[.agg #[.int .i64 mi, .int .i64 mb, .int .i64 nx, .slice a xs.length c], .agg #[.int .i64 x.ino, .int .i64 x.kind, .int .i64 x.links, .string x.data, .int .i64 x.parent, .slice x.ea x.es.length x.ec]] w fun e w' => e = .returned (.bool true) ∧ Below w.heap.size w w' := by
  have h40 := few_le hf
  have HF : Hid (∀ W, Below w.heap.size w W → Calls Try.prog 13 #[.agg #[.int .i64 mi, .int .i64 mb, .int .i64 nx, .slice a xs.length c]] W fun e w' => e = .returned (.bool true) ∧ Below W.heap.size W w') := Lib.hid fun W hW => by
    have := few_walk mi mb nx xs a c W (hN.below hW (Nat.le_refl _))
    rw [hf] at this
    exact this
  have HR : Hid (∀ W, Below w.heap.size w W → Calls Try.prog 14 #[.agg #[.int .i64 mi, .int .i64 mb, .int .i64 nx, .slice a xs.length c]] W fun e w' => e = .returned (.bool false) ∧ Below W.heap.size W w') := Lib.hid fun W hW => by
    have := rise_walk mi mb nx xs a c W (hN.below hW (Nat.le_refl _)) (by omega)
    rw [decide_eq_false hR] at this
    exact this
  obtain ⟨t0, t1⟩ := laid1 w (.cells #[.int .i64 mi, .int .i64 mb, .int .i64 nx, .slice a xs.length c] 25) (.cells #[.int .i64 x.ino, .int .i64 x.kind, .int .i64 x.links, .string x.data, .int .i64 x.parent, .slice x.ea x.es.length x.ec] 35)
  obtain ⟨l1, l2, l3⟩ := hN.len
  obtain ⟨m1, m2, m3⟩ := Ents.len hx
  clear hN hf hx hR
  go_enter Try.func5, Try.ntmps5
  go_wp2_with fail
  refine (awake_walk _).mono ?_
  rintro e w1 ⟨rfl, hB1⟩
  have hB10 : Below w.heap.size w w1 := (((Below.refl _ w).alloc (Nat.le_refl _) _).alloc (by simp) _).trans (hB1.mono (by simp; try omega))
  have hs1 := hB1.size
  simp only [World.size_alloc] at hs1
  rw [← hB1.block _ (by simp; try omega)] at t0 t1
  obtain ⟨f0_0, f0_1, f0_2, f0_3, -⟩ := box4 t0
  obtain ⟨f1_0, f1_1, f1_2, f1_3, f1_4, f1_5, -⟩ := box6 t1
  go_wp2_with fail
  refine (HF.out _ hB10).mono ?_
  rintro e w2 ⟨rfl, hB2⟩
  have hB20 := hB10.trans (hB2.mono hB10.size)
  have hs2 := hB2.size
  rw [← hB2.block _ (by omega)] at t0 t1
  clear f0_0 f0_1 f0_2 f0_3 f1_0 f1_1 f1_2 f1_3 f1_4 f1_5
  obtain ⟨f0_0, f0_1, f0_2, f0_3, -⟩ := box4 t0
  obtain ⟨f1_0, f1_1, f1_2, f1_3, f1_4, f1_5, -⟩ := box6 t1
  go_wp2_with fail
  refine (HR.out _ hB20).mono ?_
  rintro e w3 ⟨rfl, hB3⟩
  have hB30 := hB20.trans (hB3.mono hB20.size)
  have hs3 := hB3.size
  rw [← hB3.block _ (by omega)] at t0 t1
  clear f0_0 f0_1 f0_2 f0_3 f1_0 f1_1 f1_2 f1_3 f1_4 f1_5
  obtain ⟨f0_0, f0_1, f0_2, f0_3, -⟩ := box4 t0
  obtain ⟨f1_0, f1_1, f1_2, f1_3, f1_4, f1_5, -⟩ := box6 t1
  go_wp2_with fail
  refine (awake_walk _).mono ?_
  rintro e w4 ⟨rfl, hB4⟩
  go_wp2
  go_ret
  exact ⟨rfl, hB30.trans (hB4.mono hB30.size)⟩
set_option maxHeartbeats 8000000 in
set_option maxRecDepth 100000 in
theorem sets_data (mi mb nx : Int) (xs : List Nod) (x : Nod) (a : Option Addr) (c : Nat) (w : World) (hN : Nods w a c xs) (hx : NodOk w x) (hf : few xs = true) (hR : Rises xs) (hd : 5000 < x.data.size) : Calls Try.prog 5 #[.agg #[.int .i64 mi, .int .i64 mb, .int .i64 nx, .slice a xs.length c], .agg #[.int .i64 x.ino, .int .i64 x.kind, .int .i64 x.links, .string x.data, .int .i64 x.parent, .slice x.ea x.es.length x.ec]] w fun e w' => e = .returned (.bool true) ∧ Below w.heap.size w w' := by
  have h40 := few_le hf
  have HF : Hid (∀ W, Below w.heap.size w W → Calls Try.prog 13 #[.agg #[.int .i64 mi, .int .i64 mb, .int .i64 nx, .slice a xs.length c]] W fun e w' => e = .returned (.bool true) ∧ Below W.heap.size W w') := Lib.hid fun W hW => by
    have := few_walk mi mb nx xs a c W (hN.below hW (Nat.le_refl _))
    rw [hf] at this
    exact this
  have HR : Hid (∀ W, Below w.heap.size w W → Calls Try.prog 14 #[.agg #[.int .i64 mi, .int .i64 mb, .int .i64 nx, .slice a xs.length c]] W fun e w' => e = .returned (.bool true) ∧ Below W.heap.size W w') := Lib.hid fun W hW => by
    have := rise_walk mi mb nx xs a c W (hN.below hW (Nat.le_refl _)) (by omega)
    rw [decide_eq_true hR] at this
    exact this
  obtain ⟨t0, t1⟩ := laid1 w (.cells #[.int .i64 mi, .int .i64 mb, .int .i64 nx, .slice a xs.length c] 25) (.cells #[.int .i64 x.ino, .int .i64 x.kind, .int .i64 x.links, .string x.data, .int .i64 x.parent, .slice x.ea x.es.length x.ec] 35)
  obtain ⟨l1, l2, l3⟩ := hN.len
  obtain ⟨m1, m2, m3⟩ := Ents.len hx
  clear hN hf hx hR
  go_enter Try.func5, Try.ntmps5
  go_wp2_with fail
  refine (awake_walk _).mono ?_
  rintro e w1 ⟨rfl, hB1⟩
  have hB10 : Below w.heap.size w w1 := (((Below.refl _ w).alloc (Nat.le_refl _) _).alloc (by simp) _).trans (hB1.mono (by simp; try omega))
  have hs1 := hB1.size
  simp only [World.size_alloc] at hs1
  rw [← hB1.block _ (by simp; try omega)] at t0 t1
  obtain ⟨f0_0, f0_1, f0_2, f0_3, -⟩ := box4 t0
  obtain ⟨f1_0, f1_1, f1_2, f1_3, f1_4, f1_5, -⟩ := box6 t1
  go_wp2_with fail
  refine (HF.out _ hB10).mono ?_
  rintro e w2 ⟨rfl, hB2⟩
  have hB20 := hB10.trans (hB2.mono hB10.size)
  have hs2 := hB2.size
  rw [← hB2.block _ (by omega)] at t0 t1
  clear f0_0 f0_1 f0_2 f0_3 f1_0 f1_1 f1_2 f1_3 f1_4 f1_5
  obtain ⟨f0_0, f0_1, f0_2, f0_3, -⟩ := box4 t0
  obtain ⟨f1_0, f1_1, f1_2, f1_3, f1_4, f1_5, -⟩ := box6 t1
  go_wp2_with fail
  refine (HR.out _ hB20).mono ?_
  rintro e w3 ⟨rfl, hB3⟩
  have hB30 := hB20.trans (hB3.mono hB20.size)
  have hs3 := hB3.size
  rw [← hB3.block _ (by omega)] at t0 t1
  clear f0_0 f0_1 f0_2 f0_3 f1_0 f1_1 f1_2 f1_3 f1_4 f1_5
  obtain ⟨f0_0, f0_1, f0_2, f0_3, -⟩ := box4 t0
  obtain ⟨f1_0, f1_1, f1_2, f1_3, f1_4, f1_5, -⟩ := box6 t1
  go_wp2_with fail
  refine (awake_walk _).mono ?_
  rintro e w4 ⟨rfl, hB4⟩
  go_wp2
  go_ret
  exact ⟨rfl, hB30.trans (hB4.mono hB30.size)⟩
set_option maxHeartbeats 8000000 in
set_option maxRecDepth 100000 in
theorem sets_ents (mi mb nx : Int) (xs : List Nod) (x : Nod) (a : Option Addr) (c : Nat) (w : World) (hN : Nods w a c xs) (hx : NodOk w x) (hf : few xs = true) (hR : Rises xs) (hd : ¬ 5000 < x.data.size) (he : 40 < x.es.length) : Calls Try.prog 5 #[.agg #[.int .i64 mi, .int .i64 mb, .int .i64 nx, .slice a xs.length c], .agg #[.int .i64 x.ino, .int .i64 x.kind, .int .i64 x.links, .string x.data, .int .i64 x.parent, .slice x.ea x.es.length x.ec]] w fun e w' => e = .returned (.bool true) ∧ Below w.heap.size w w' := by
  have h40 := few_le hf
  have HF : Hid (∀ W, Below w.heap.size w W → Calls Try.prog 13 #[.agg #[.int .i64 mi, .int .i64 mb, .int .i64 nx, .slice a xs.length c]] W fun e w' => e = .returned (.bool true) ∧ Below W.heap.size W w') := Lib.hid fun W hW => by
    have := few_walk mi mb nx xs a c W (hN.below hW (Nat.le_refl _))
    rw [hf] at this
    exact this
  have HR : Hid (∀ W, Below w.heap.size w W → Calls Try.prog 14 #[.agg #[.int .i64 mi, .int .i64 mb, .int .i64 nx, .slice a xs.length c]] W fun e w' => e = .returned (.bool true) ∧ Below W.heap.size W w') := Lib.hid fun W hW => by
    have := rise_walk mi mb nx xs a c W (hN.below hW (Nat.le_refl _)) (by omega)
    rw [decide_eq_true hR] at this
    exact this
  obtain ⟨t0, t1⟩ := laid1 w (.cells #[.int .i64 mi, .int .i64 mb, .int .i64 nx, .slice a xs.length c] 25) (.cells #[.int .i64 x.ino, .int .i64 x.kind, .int .i64 x.links, .string x.data, .int .i64 x.parent, .slice x.ea x.es.length x.ec] 35)
  obtain ⟨l1, l2, l3⟩ := hN.len
  obtain ⟨m1, m2, m3⟩ := Ents.len hx
  clear hN hf hx hR
  go_enter Try.func5, Try.ntmps5
  go_wp2_with fail
  refine (awake_walk _).mono ?_
  rintro e w1 ⟨rfl, hB1⟩
  have hB10 : Below w.heap.size w w1 := (((Below.refl _ w).alloc (Nat.le_refl _) _).alloc (by simp) _).trans (hB1.mono (by simp; try omega))
  have hs1 := hB1.size
  simp only [World.size_alloc] at hs1
  rw [← hB1.block _ (by simp; try omega)] at t0 t1
  obtain ⟨f0_0, f0_1, f0_2, f0_3, -⟩ := box4 t0
  obtain ⟨f1_0, f1_1, f1_2, f1_3, f1_4, f1_5, -⟩ := box6 t1
  go_wp2_with fail
  refine (HF.out _ hB10).mono ?_
  rintro e w2 ⟨rfl, hB2⟩
  have hB20 := hB10.trans (hB2.mono hB10.size)
  have hs2 := hB2.size
  rw [← hB2.block _ (by omega)] at t0 t1
  clear f0_0 f0_1 f0_2 f0_3 f1_0 f1_1 f1_2 f1_3 f1_4 f1_5
  obtain ⟨f0_0, f0_1, f0_2, f0_3, -⟩ := box4 t0
  obtain ⟨f1_0, f1_1, f1_2, f1_3, f1_4, f1_5, -⟩ := box6 t1
  go_wp2_with fail
  refine (HR.out _ hB20).mono ?_
  rintro e w3 ⟨rfl, hB3⟩
  have hB30 := hB20.trans (hB3.mono hB20.size)
  have hs3 := hB3.size
  rw [← hB3.block _ (by omega)] at t0 t1
  clear f0_0 f0_1 f0_2 f0_3 f1_0 f1_1 f1_2 f1_3 f1_4 f1_5
  obtain ⟨f0_0, f0_1, f0_2, f0_3, -⟩ := box4 t0
  obtain ⟨f1_0, f1_1, f1_2, f1_3, f1_4, f1_5, -⟩ := box6 t1
  go_wp2_with fail
  refine (awake_walk _).mono ?_
  rintro e w4 ⟨rfl, hB4⟩
  go_wp2
  go_ret
  exact ⟨rfl, hB30.trans (hB4.mono hB30.size)⟩
set_option maxHeartbeats 8000000 in
set_option maxRecDepth 100000 in
theorem sets_neg (mi mb nx : Int) (xs : List Nod) (x : Nod) (a : Option Addr) (c : Nat) (w : World) (hN : Nods w a c xs) (hx : NodOk w x) (hf : few xs = true) (hR : Rises xs) (hd : ¬ 5000 < x.data.size) (he : ¬ 40 < x.es.length) (hn : nx < 0) : Calls Try.prog 5 #[.agg #[.int .i64 mi, .int .i64 mb, .int .i64 nx, .slice a xs.length c], .agg #[.int .i64 x.ino, .int .i64 x.kind, .int .i64 x.links, .string x.data, .int .i64 x.parent, .slice x.ea x.es.length x.ec]] w fun e w' => e = .returned (.bool true) ∧ Below w.heap.size w w' := by
  have h40 := few_le hf
  have HF : Hid (∀ W, Below w.heap.size w W → Calls Try.prog 13 #[.agg #[.int .i64 mi, .int .i64 mb, .int .i64 nx, .slice a xs.length c]] W fun e w' => e = .returned (.bool true) ∧ Below W.heap.size W w') := Lib.hid fun W hW => by
    have := few_walk mi mb nx xs a c W (hN.below hW (Nat.le_refl _))
    rw [hf] at this
    exact this
  have HR : Hid (∀ W, Below w.heap.size w W → Calls Try.prog 14 #[.agg #[.int .i64 mi, .int .i64 mb, .int .i64 nx, .slice a xs.length c]] W fun e w' => e = .returned (.bool true) ∧ Below W.heap.size W w') := Lib.hid fun W hW => by
    have := rise_walk mi mb nx xs a c W (hN.below hW (Nat.le_refl _)) (by omega)
    rw [decide_eq_true hR] at this
    exact this
  have HX0 : ∀ W, Below w.heap.size w W → ∀ y ∈ set x xs, NodOk W y := fun W hW y hy => by
    rcases set_mem hy with rfl | hy
    · exact hx.below hW (Nat.le_refl _)
    · exact (hN.2 y hy).below hW (Nat.le_refl _)
  obtain ⟨t0, t1⟩ := laid1 w (.cells #[.int .i64 mi, .int .i64 mb, .int .i64 nx, .slice a xs.length c] 25) (.cells #[.int .i64 x.ino, .int .i64 x.kind, .int .i64 x.links, .string x.data, .int .i64 x.parent, .slice x.ea x.es.length x.ec] 35)
  obtain ⟨l1, l2, l3⟩ := hN.len
  obtain ⟨m1, m2, m3⟩ := Ents.len hx
  have HN := Lib.hid hN
  have HRI := Lib.hid hR
  clear hN hf hR hx
  go_enter Try.func5, Try.ntmps5
  go_wp2_with fail
  refine (awake_walk _).mono ?_
  rintro e w1 ⟨rfl, hB1⟩
  have hB10 : Below w.heap.size w w1 := (((Below.refl _ w).alloc (Nat.le_refl _) _).alloc (by simp) _).trans (hB1.mono (by simp; try omega))
  have hs1 := hB1.size
  simp only [World.size_alloc] at hs1
  rw [← hB1.block _ (by simp; try omega)] at t0 t1
  obtain ⟨f0_0, f0_1, f0_2, f0_3, -⟩ := box4 t0
  obtain ⟨f1_0, f1_1, f1_2, f1_3, f1_4, f1_5, -⟩ := box6 t1
  go_wp2_with fail
  refine (HF.out _ hB10).mono ?_
  rintro e w2 ⟨rfl, hB2⟩
  have hB20 := hB10.trans (hB2.mono hB10.size)
  have hs2 := hB2.size
  rw [← hB2.block _ (by omega)] at t0 t1
  clear f0_0 f0_1 f0_2 f0_3 f1_0 f1_1 f1_2 f1_3 f1_4 f1_5
  obtain ⟨f0_0, f0_1, f0_2, f0_3, -⟩ := box4 t0
  obtain ⟨f1_0, f1_1, f1_2, f1_3, f1_4, f1_5, -⟩ := box6 t1
  go_wp2_with fail
  refine (HR.out _ hB20).mono ?_
  rintro e w3 ⟨rfl, hB3⟩
  have hB30 := hB20.trans (hB3.mono hB20.size)
  have hs3 := hB3.size
  rw [← hB3.block _ (by omega)] at t0 t1
  clear f0_0 f0_1 f0_2 f0_3 f1_0 f1_1 f1_2 f1_3 f1_4 f1_5
  obtain ⟨f0_0, f0_1, f0_2, f0_3, -⟩ := box4 t0
  obtain ⟨f1_0, f1_1, f1_2, f1_3, f1_4, f1_5, -⟩ := box6 t1
  have HK : Hid (∀ W, Below w3.heap.size w3 W → Below w3.heap.size w3 W ∧ (W.cell? ⟨w.heap.size, 0, none⟩ = some (.int .i64 mi) ∧ W.cell? ⟨w.heap.size, 1, none⟩ = some (.int .i64 mb) ∧ W.cell? ⟨w.heap.size, 2, none⟩ = some (.int .i64 nx) ∧ W.cell? ⟨w.heap.size, 3, none⟩ = some (.slice a xs.length c)) ∧ (W.cell? ⟨w.heap.size + 1, 0, none⟩ = some (.int .i64 x.ino) ∧ W.cell? ⟨w.heap.size + 1, 1, none⟩ = some (.int .i64 x.kind) ∧ W.cell? ⟨w.heap.size + 1, 2, none⟩ = some (.int .i64 x.links) ∧ W.cell? ⟨w.heap.size + 1, 3, none⟩ = some (.string x.data) ∧ W.cell? ⟨w.heap.size + 1, 4, none⟩ = some (.int .i64 x.parent) ∧ W.cell? ⟨w.heap.size + 1, 5, none⟩ = some (.slice x.ea x.es.length x.ec))) := Lib.hid fun W hb => by
    rw [← hb.block _ (by omega)] at t0
    rw [← hb.block _ (by omega)] at t1
    obtain ⟨z0_0, z0_1, z0_2, z0_3, -⟩ := box4 t0
    obtain ⟨z1_0, z1_1, z1_2, z1_3, z1_4, z1_5, -⟩ := box6 t1
    exact ⟨hb, ⟨z0_0, z0_1, z0_2, z0_3⟩, ⟨z1_0, z1_1, z1_2, z1_3, z1_4, z1_5⟩⟩
  have HS : Hid (∀ W u, (Below w3.heap.size w3 W ∧ (W.cell? ⟨w.heap.size, 0, none⟩ = some (.int .i64 mi) ∧ W.cell? ⟨w.heap.size, 1, none⟩ = some (.int .i64 mb) ∧ W.cell? ⟨w.heap.size, 2, none⟩ = some (.int .i64 nx) ∧ W.cell? ⟨w.heap.size, 3, none⟩ = some (.slice a xs.length c)) ∧ (W.cell? ⟨w.heap.size + 1, 0, none⟩ = some (.int .i64 x.ino) ∧ W.cell? ⟨w.heap.size + 1, 1, none⟩ = some (.int .i64 x.kind) ∧ W.cell? ⟨w.heap.size + 1, 2, none⟩ = some (.int .i64 x.links) ∧ W.cell? ⟨w.heap.size + 1, 3, none⟩ = some (.string x.data) ∧ W.cell? ⟨w.heap.size + 1, 4, none⟩ = some (.int .i64 x.parent) ∧ W.cell? ⟨w.heap.size + 1, 5, none⟩ = some (.slice x.ea x.es.length x.ec))) → Below W.heap.size W u → Below w3.heap.size w3 u) := Lib.hid fun W u h hb => h.1.trans (hb.mono h.1.size)
  have HD : Hid (∀ W, (Below w3.heap.size w3 W ∧ (W.cell? ⟨w.heap.size, 0, none⟩ = some (.int .i64 mi) ∧ W.cell? ⟨w.heap.size, 1, none⟩ = some (.int .i64 mb) ∧ W.cell? ⟨w.heap.size, 2, none⟩ = some (.int .i64 nx) ∧ W.cell? ⟨w.heap.size, 3, none⟩ = some (.slice a xs.length c)) ∧ (W.cell? ⟨w.heap.size + 1, 0, none⟩ = some (.int .i64 x.ino) ∧ W.cell? ⟨w.heap.size + 1, 1, none⟩ = some (.int .i64 x.kind) ∧ W.cell? ⟨w.heap.size + 1, 2, none⟩ = some (.int .i64 x.links) ∧ W.cell? ⟨w.heap.size + 1, 3, none⟩ = some (.string x.data) ∧ W.cell? ⟨w.heap.size + 1, 4, none⟩ = some (.int .i64 x.parent) ∧ W.cell? ⟨w.heap.size + 1, 5, none⟩ = some (.slice x.ea x.es.length x.ec))) → Calls Try.prog 20 #[.agg #[.int .i64 mi, .int .i64 mb, .int .i64 nx, .slice a xs.length c], .agg #[.int .i64 x.ino, .int .i64 x.kind, .int .i64 x.links, .string x.data, .int .i64 x.parent, .slice x.ea x.es.length x.ec]] W (FsPost mi mb nx (set x xs) W.heap.size W)) := Lib.hid fun W h => set_any mi mb nx xs x a c W (HN.out.below (hB30.trans (h.1.mono hB30.size)) (Nat.le_refl _)) HRI.out (by omega)
  have HE : Hid (∀ W, (Below w3.heap.size w3 W ∧ (W.cell? ⟨w.heap.size, 0, none⟩ = some (.int .i64 mi) ∧ W.cell? ⟨w.heap.size, 1, none⟩ = some (.int .i64 mb) ∧ W.cell? ⟨w.heap.size, 2, none⟩ = some (.int .i64 nx) ∧ W.cell? ⟨w.heap.size, 3, none⟩ = some (.slice a xs.length c)) ∧ (W.cell? ⟨w.heap.size + 1, 0, none⟩ = some (.int .i64 x.ino) ∧ W.cell? ⟨w.heap.size + 1, 1, none⟩ = some (.int .i64 x.kind) ∧ W.cell? ⟨w.heap.size + 1, 2, none⟩ = some (.int .i64 x.links) ∧ W.cell? ⟨w.heap.size + 1, 3, none⟩ = some (.string x.data) ∧ W.cell? ⟨w.heap.size + 1, 4, none⟩ = some (.int .i64 x.parent) ∧ W.cell? ⟨w.heap.size + 1, 5, none⟩ = some (.slice x.ea x.es.length x.ec))) → Calls Try.prog 21 #[.agg #[.int .i64 mi, .int .i64 mb, .int .i64 nx, .slice a xs.length c], .agg #[.int .i64 x.ino, .int .i64 x.kind, .int .i64 x.links, .string x.data, .int .i64 x.parent, .slice x.ea x.es.length x.ec]] W (FsPost mi mb nx (set x xs) W.heap.size W)) := Lib.hid fun W h => rset_walk mi mb nx xs x a c W (HN.out.below (hB30.trans (h.1.mono hB30.size)) (Nat.le_refl _)) (by omega)
  have HX : Hid (∀ u, Below w3.heap.size w3 u → ∀ y ∈ set x xs, NodOk u y) := Lib.hid fun u hu => HX0 u (hB30.trans (hu.mono hB30.size))
  have HT : Hid (∀ (W : World) a2 c2 a3 c3, Nods W a2 c2 (set x xs) → Nods W a3 c3 (set x xs) → Calls Try.prog 11 #[.agg #[.int .i64 mi, .int .i64 mb, .int .i64 nx, .slice a2 (set x xs).length c2], .agg #[.int .i64 mi, .int .i64 mb, .int .i64 nx, .slice a3 (set x xs).length c3]] W fun e w' => e = .returned (.bool true) ∧ Below W.heap.size W w') := Lib.hid fun W a2 c2 a3 c3 h1 h2 => by
    have := rsame_walk mi mb nx mi mb nx (set x xs) (set x xs) a2 a3 c2 c3 W h1 h2
    rw [beq_self_eq_true, beq_self_eq_true, beq_self_eq_true, likes_self] at this
    exact this
  have hBs := hB30.size
  have T0 := Lib.hid t0
  have n3 : w.heap.size + 1 < w3.heap.size := by omega
  have HNW : Hid (∀ u, Below w3.heap.size w3 u → Nods u a c xs) := Lib.hid fun u hu => HN.out.below (hB30.trans (hu.mono hB30.size)) (Nat.le_refl _)
  clear t0 t1 HF HR HX0 HN HRI hB1 hB2 hB3 hB10 hB20 hs1 hs2 hs3
  go_wp2
  go_region_held3 (fun W => Below w3.heap.size w3 W ∧ (W.cell? ⟨w.heap.size, 0, none⟩ = some (.int .i64 mi) ∧ W.cell? ⟨w.heap.size, 1, none⟩ = some (.int .i64 mb) ∧ W.cell? ⟨w.heap.size, 2, none⟩ = some (.int .i64 nx) ∧ W.cell? ⟨w.heap.size, 3, none⟩ = some (.slice a xs.length c)) ∧ (W.cell? ⟨w.heap.size + 1, 0, none⟩ = some (.int .i64 x.ino) ∧ W.cell? ⟨w.heap.size + 1, 1, none⟩ = some (.int .i64 x.kind) ∧ W.cell? ⟨w.heap.size + 1, 2, none⟩ = some (.int .i64 x.links) ∧ W.cell? ⟨w.heap.size + 1, 3, none⟩ = some (.string x.data) ∧ W.cell? ⟨w.heap.size + 1, 4, none⟩ = some (.int .i64 x.parent) ∧ W.cell? ⟨w.heap.size + 1, 5, none⟩ = some (.slice x.ea x.es.length x.ec))) ((refine HK.out _ ?_; (repeat' (first | with_reducible assumption | with_reducible exact Below.refl _ _ | with_reducible refine Below.setCell ?_ ?_ _ | with_reducible refine Below.alloc ?_ ?_ _ | with_reducible refine Below.drew ?_ | omega | (simp; done) | (simp; omega))))) (first | (go_at_call 20; refine (HD.out _ (by assumption)).mono ?_; rintro e u2 ⟨v2, rfl, own2, hBv2⟩; have hBu2 := HS.out _ _ (by assumption) hBv2; obtain ⟨a2, c2, hv2, nod2⟩ := OwnNods.parts own2 (HX.out u2 hBu2); subst hv2; have N2 := Lib.hid nod2; clear own2 nod2; unfold FsVal) | (go_at_call 21; refine (HE.out _ (by assumption)).mono ?_; rintro e u3 ⟨v3, rfl, own3, hBv3⟩; have hBu3 := HS.out _ _ (by assumption) hBv3; obtain ⟨a3, c3, hv3, nod3⟩ := OwnNods.parts own3 (HX.out u3 hBu3); subst hv3; have N3 := Lib.hid nod3; clear own3 nod3; unfold FsVal) | (go_at_call 11; refine (HT.out _ _ _ _ _ (N2.out.below (by first | with_reducible exact Below.refl _ _ | assumption) (Nat.le_refl _)) (N3.out.below (by first | with_reducible exact Below.refl _ _ | assumption) (Nat.le_refl _))).mono ?_; rintro e u4 ⟨rfl, hBv4⟩; have hBu4 := HS.out _ _ (by assumption) hBv4; clear hBv4))
  all_goals
    have tf := T0.out
    rw [← hBu4.block _ (by omega)] at tf
    obtain ⟨g0, g1, g2, g3, -⟩ := box4 tf
    clear tf
    go_wp2
    go_ret
    exact ⟨rfl, hB30.trans (hBu4.mono hBs)⟩
set_option maxHeartbeats 8000000 in
set_option maxRecDepth 100000 in
theorem sets_big (mi mb nx : Int) (xs : List Nod) (x : Nod) (a : Option Addr) (c : Nat) (w : World) (hN : Nods w a c xs) (hx : NodOk w x) (hf : few xs = true) (hR : Rises xs) (hd : ¬ 5000 < x.data.size) (he : ¬ 40 < x.es.length) (hn : ¬ nx < 0) (hm : 1152921504606846976 < nx) : Calls Try.prog 5 #[.agg #[.int .i64 mi, .int .i64 mb, .int .i64 nx, .slice a xs.length c], .agg #[.int .i64 x.ino, .int .i64 x.kind, .int .i64 x.links, .string x.data, .int .i64 x.parent, .slice x.ea x.es.length x.ec]] w fun e w' => e = .returned (.bool true) ∧ Below w.heap.size w w' := by
  have h40 := few_le hf
  have HF : Hid (∀ W, Below w.heap.size w W → Calls Try.prog 13 #[.agg #[.int .i64 mi, .int .i64 mb, .int .i64 nx, .slice a xs.length c]] W fun e w' => e = .returned (.bool true) ∧ Below W.heap.size W w') := Lib.hid fun W hW => by
    have := few_walk mi mb nx xs a c W (hN.below hW (Nat.le_refl _))
    rw [hf] at this
    exact this
  have HR : Hid (∀ W, Below w.heap.size w W → Calls Try.prog 14 #[.agg #[.int .i64 mi, .int .i64 mb, .int .i64 nx, .slice a xs.length c]] W fun e w' => e = .returned (.bool true) ∧ Below W.heap.size W w') := Lib.hid fun W hW => by
    have := rise_walk mi mb nx xs a c W (hN.below hW (Nat.le_refl _)) (by omega)
    rw [decide_eq_true hR] at this
    exact this
  have HX0 : ∀ W, Below w.heap.size w W → ∀ y ∈ set x xs, NodOk W y := fun W hW y hy => by
    rcases set_mem hy with rfl | hy
    · exact hx.below hW (Nat.le_refl _)
    · exact (hN.2 y hy).below hW (Nat.le_refl _)
  obtain ⟨t0, t1⟩ := laid1 w (.cells #[.int .i64 mi, .int .i64 mb, .int .i64 nx, .slice a xs.length c] 25) (.cells #[.int .i64 x.ino, .int .i64 x.kind, .int .i64 x.links, .string x.data, .int .i64 x.parent, .slice x.ea x.es.length x.ec] 35)
  obtain ⟨l1, l2, l3⟩ := hN.len
  obtain ⟨m1, m2, m3⟩ := Ents.len hx
  have HN := Lib.hid hN
  have HRI := Lib.hid hR
  clear hN hf hR hx
  go_enter Try.func5, Try.ntmps5
  go_wp2_with fail
  refine (awake_walk _).mono ?_
  rintro e w1 ⟨rfl, hB1⟩
  have hB10 : Below w.heap.size w w1 := (((Below.refl _ w).alloc (Nat.le_refl _) _).alloc (by simp) _).trans (hB1.mono (by simp; try omega))
  have hs1 := hB1.size
  simp only [World.size_alloc] at hs1
  rw [← hB1.block _ (by simp; try omega)] at t0 t1
  obtain ⟨f0_0, f0_1, f0_2, f0_3, -⟩ := box4 t0
  obtain ⟨f1_0, f1_1, f1_2, f1_3, f1_4, f1_5, -⟩ := box6 t1
  go_wp2_with fail
  refine (HF.out _ hB10).mono ?_
  rintro e w2 ⟨rfl, hB2⟩
  have hB20 := hB10.trans (hB2.mono hB10.size)
  have hs2 := hB2.size
  rw [← hB2.block _ (by omega)] at t0 t1
  clear f0_0 f0_1 f0_2 f0_3 f1_0 f1_1 f1_2 f1_3 f1_4 f1_5
  obtain ⟨f0_0, f0_1, f0_2, f0_3, -⟩ := box4 t0
  obtain ⟨f1_0, f1_1, f1_2, f1_3, f1_4, f1_5, -⟩ := box6 t1
  go_wp2_with fail
  refine (HR.out _ hB20).mono ?_
  rintro e w3 ⟨rfl, hB3⟩
  have hB30 := hB20.trans (hB3.mono hB20.size)
  have hs3 := hB3.size
  rw [← hB3.block _ (by omega)] at t0 t1
  clear f0_0 f0_1 f0_2 f0_3 f1_0 f1_1 f1_2 f1_3 f1_4 f1_5
  obtain ⟨f0_0, f0_1, f0_2, f0_3, -⟩ := box4 t0
  obtain ⟨f1_0, f1_1, f1_2, f1_3, f1_4, f1_5, -⟩ := box6 t1
  have HK : Hid (∀ W, Below w3.heap.size w3 W → Below w3.heap.size w3 W ∧ (W.cell? ⟨w.heap.size, 0, none⟩ = some (.int .i64 mi) ∧ W.cell? ⟨w.heap.size, 1, none⟩ = some (.int .i64 mb) ∧ W.cell? ⟨w.heap.size, 2, none⟩ = some (.int .i64 nx) ∧ W.cell? ⟨w.heap.size, 3, none⟩ = some (.slice a xs.length c)) ∧ (W.cell? ⟨w.heap.size + 1, 0, none⟩ = some (.int .i64 x.ino) ∧ W.cell? ⟨w.heap.size + 1, 1, none⟩ = some (.int .i64 x.kind) ∧ W.cell? ⟨w.heap.size + 1, 2, none⟩ = some (.int .i64 x.links) ∧ W.cell? ⟨w.heap.size + 1, 3, none⟩ = some (.string x.data) ∧ W.cell? ⟨w.heap.size + 1, 4, none⟩ = some (.int .i64 x.parent) ∧ W.cell? ⟨w.heap.size + 1, 5, none⟩ = some (.slice x.ea x.es.length x.ec))) := Lib.hid fun W hb => by
    rw [← hb.block _ (by omega)] at t0
    rw [← hb.block _ (by omega)] at t1
    obtain ⟨z0_0, z0_1, z0_2, z0_3, -⟩ := box4 t0
    obtain ⟨z1_0, z1_1, z1_2, z1_3, z1_4, z1_5, -⟩ := box6 t1
    exact ⟨hb, ⟨z0_0, z0_1, z0_2, z0_3⟩, ⟨z1_0, z1_1, z1_2, z1_3, z1_4, z1_5⟩⟩
  have HS : Hid (∀ W u, (Below w3.heap.size w3 W ∧ (W.cell? ⟨w.heap.size, 0, none⟩ = some (.int .i64 mi) ∧ W.cell? ⟨w.heap.size, 1, none⟩ = some (.int .i64 mb) ∧ W.cell? ⟨w.heap.size, 2, none⟩ = some (.int .i64 nx) ∧ W.cell? ⟨w.heap.size, 3, none⟩ = some (.slice a xs.length c)) ∧ (W.cell? ⟨w.heap.size + 1, 0, none⟩ = some (.int .i64 x.ino) ∧ W.cell? ⟨w.heap.size + 1, 1, none⟩ = some (.int .i64 x.kind) ∧ W.cell? ⟨w.heap.size + 1, 2, none⟩ = some (.int .i64 x.links) ∧ W.cell? ⟨w.heap.size + 1, 3, none⟩ = some (.string x.data) ∧ W.cell? ⟨w.heap.size + 1, 4, none⟩ = some (.int .i64 x.parent) ∧ W.cell? ⟨w.heap.size + 1, 5, none⟩ = some (.slice x.ea x.es.length x.ec))) → Below W.heap.size W u → Below w3.heap.size w3 u) := Lib.hid fun W u h hb => h.1.trans (hb.mono h.1.size)
  have HD : Hid (∀ W, (Below w3.heap.size w3 W ∧ (W.cell? ⟨w.heap.size, 0, none⟩ = some (.int .i64 mi) ∧ W.cell? ⟨w.heap.size, 1, none⟩ = some (.int .i64 mb) ∧ W.cell? ⟨w.heap.size, 2, none⟩ = some (.int .i64 nx) ∧ W.cell? ⟨w.heap.size, 3, none⟩ = some (.slice a xs.length c)) ∧ (W.cell? ⟨w.heap.size + 1, 0, none⟩ = some (.int .i64 x.ino) ∧ W.cell? ⟨w.heap.size + 1, 1, none⟩ = some (.int .i64 x.kind) ∧ W.cell? ⟨w.heap.size + 1, 2, none⟩ = some (.int .i64 x.links) ∧ W.cell? ⟨w.heap.size + 1, 3, none⟩ = some (.string x.data) ∧ W.cell? ⟨w.heap.size + 1, 4, none⟩ = some (.int .i64 x.parent) ∧ W.cell? ⟨w.heap.size + 1, 5, none⟩ = some (.slice x.ea x.es.length x.ec))) → Calls Try.prog 20 #[.agg #[.int .i64 mi, .int .i64 mb, .int .i64 nx, .slice a xs.length c], .agg #[.int .i64 x.ino, .int .i64 x.kind, .int .i64 x.links, .string x.data, .int .i64 x.parent, .slice x.ea x.es.length x.ec]] W (FsPost mi mb nx (set x xs) W.heap.size W)) := Lib.hid fun W h => set_any mi mb nx xs x a c W (HN.out.below (hB30.trans (h.1.mono hB30.size)) (Nat.le_refl _)) HRI.out (by omega)
  have HE : Hid (∀ W, (Below w3.heap.size w3 W ∧ (W.cell? ⟨w.heap.size, 0, none⟩ = some (.int .i64 mi) ∧ W.cell? ⟨w.heap.size, 1, none⟩ = some (.int .i64 mb) ∧ W.cell? ⟨w.heap.size, 2, none⟩ = some (.int .i64 nx) ∧ W.cell? ⟨w.heap.size, 3, none⟩ = some (.slice a xs.length c)) ∧ (W.cell? ⟨w.heap.size + 1, 0, none⟩ = some (.int .i64 x.ino) ∧ W.cell? ⟨w.heap.size + 1, 1, none⟩ = some (.int .i64 x.kind) ∧ W.cell? ⟨w.heap.size + 1, 2, none⟩ = some (.int .i64 x.links) ∧ W.cell? ⟨w.heap.size + 1, 3, none⟩ = some (.string x.data) ∧ W.cell? ⟨w.heap.size + 1, 4, none⟩ = some (.int .i64 x.parent) ∧ W.cell? ⟨w.heap.size + 1, 5, none⟩ = some (.slice x.ea x.es.length x.ec))) → Calls Try.prog 21 #[.agg #[.int .i64 mi, .int .i64 mb, .int .i64 nx, .slice a xs.length c], .agg #[.int .i64 x.ino, .int .i64 x.kind, .int .i64 x.links, .string x.data, .int .i64 x.parent, .slice x.ea x.es.length x.ec]] W (FsPost mi mb nx (set x xs) W.heap.size W)) := Lib.hid fun W h => rset_walk mi mb nx xs x a c W (HN.out.below (hB30.trans (h.1.mono hB30.size)) (Nat.le_refl _)) (by omega)
  have HX : Hid (∀ u, Below w3.heap.size w3 u → ∀ y ∈ set x xs, NodOk u y) := Lib.hid fun u hu => HX0 u (hB30.trans (hu.mono hB30.size))
  have HT : Hid (∀ (W : World) a2 c2 a3 c3, Nods W a2 c2 (set x xs) → Nods W a3 c3 (set x xs) → Calls Try.prog 11 #[.agg #[.int .i64 mi, .int .i64 mb, .int .i64 nx, .slice a2 (set x xs).length c2], .agg #[.int .i64 mi, .int .i64 mb, .int .i64 nx, .slice a3 (set x xs).length c3]] W fun e w' => e = .returned (.bool true) ∧ Below W.heap.size W w') := Lib.hid fun W a2 c2 a3 c3 h1 h2 => by
    have := rsame_walk mi mb nx mi mb nx (set x xs) (set x xs) a2 a3 c2 c3 W h1 h2
    rw [beq_self_eq_true, beq_self_eq_true, beq_self_eq_true, likes_self] at this
    exact this
  have hBs := hB30.size
  have T0 := Lib.hid t0
  have n3 : w.heap.size + 1 < w3.heap.size := by omega
  have HNW : Hid (∀ u, Below w3.heap.size w3 u → Nods u a c xs) := Lib.hid fun u hu => HN.out.below (hB30.trans (hu.mono hB30.size)) (Nat.le_refl _)
  clear t0 t1 HF HR HX0 HN HRI hB1 hB2 hB3 hB10 hB20 hs1 hs2 hs3
  go_wp2
  go_region_held3 (fun W => Below w3.heap.size w3 W ∧ (W.cell? ⟨w.heap.size, 0, none⟩ = some (.int .i64 mi) ∧ W.cell? ⟨w.heap.size, 1, none⟩ = some (.int .i64 mb) ∧ W.cell? ⟨w.heap.size, 2, none⟩ = some (.int .i64 nx) ∧ W.cell? ⟨w.heap.size, 3, none⟩ = some (.slice a xs.length c)) ∧ (W.cell? ⟨w.heap.size + 1, 0, none⟩ = some (.int .i64 x.ino) ∧ W.cell? ⟨w.heap.size + 1, 1, none⟩ = some (.int .i64 x.kind) ∧ W.cell? ⟨w.heap.size + 1, 2, none⟩ = some (.int .i64 x.links) ∧ W.cell? ⟨w.heap.size + 1, 3, none⟩ = some (.string x.data) ∧ W.cell? ⟨w.heap.size + 1, 4, none⟩ = some (.int .i64 x.parent) ∧ W.cell? ⟨w.heap.size + 1, 5, none⟩ = some (.slice x.ea x.es.length x.ec))) ((refine HK.out _ ?_; (repeat' (first | with_reducible assumption | with_reducible exact Below.refl _ _ | with_reducible refine Below.setCell ?_ ?_ _ | with_reducible refine Below.alloc ?_ ?_ _ | with_reducible refine Below.drew ?_ | omega | (simp; done) | (simp; omega))))) (first | (go_at_call 20; refine (HD.out _ (by assumption)).mono ?_; rintro e u2 ⟨v2, rfl, own2, hBv2⟩; have hBu2 := HS.out _ _ (by assumption) hBv2; obtain ⟨a2, c2, hv2, nod2⟩ := OwnNods.parts own2 (HX.out u2 hBu2); subst hv2; have N2 := Lib.hid nod2; clear own2 nod2; unfold FsVal) | (go_at_call 21; refine (HE.out _ (by assumption)).mono ?_; rintro e u3 ⟨v3, rfl, own3, hBv3⟩; have hBu3 := HS.out _ _ (by assumption) hBv3; obtain ⟨a3, c3, hv3, nod3⟩ := OwnNods.parts own3 (HX.out u3 hBu3); subst hv3; have N3 := Lib.hid nod3; clear own3 nod3; unfold FsVal) | (go_at_call 11; refine (HT.out _ _ _ _ _ (N2.out.below (by first | with_reducible exact Below.refl _ _ | assumption) (Nat.le_refl _)) (N3.out.below (by first | with_reducible exact Below.refl _ _ | assumption) (Nat.le_refl _))).mono ?_; rintro e u4 ⟨rfl, hBv4⟩; have hBu4 := HS.out _ _ (by assumption) hBv4; clear hBv4))
  all_goals
    have tf := T0.out
    rw [← hBu4.block _ (by omega)] at tf
    obtain ⟨g0, g1, g2, g3, -⟩ := box4 tf
    clear tf
    go_wp2
    go_ret
    exact ⟨rfl, hB30.trans (hBu4.mono hBs)⟩
set_option maxHeartbeats 8000000 in
set_option maxRecDepth 100000 in
theorem sets_ok (mi mb nx : Int) (xs : List Nod) (x : Nod) (a : Option Addr) (c : Nat) (w : World) (hN : Nods w a c xs) (hx : NodOk w x) (hf : few xs = true) (hR : Rises xs) (hd : ¬ 5000 < x.data.size) (he : ¬ 40 < x.es.length) (hn : ¬ nx < 0) (hm : ¬ 1152921504606846976 < nx) : Calls Try.prog 5 #[.agg #[.int .i64 mi, .int .i64 mb, .int .i64 nx, .slice a xs.length c], .agg #[.int .i64 x.ino, .int .i64 x.kind, .int .i64 x.links, .string x.data, .int .i64 x.parent, .slice x.ea x.es.length x.ec]] w fun e w' => e = .returned (.bool true) ∧ Below w.heap.size w w' := by
  have h40 := few_le hf
  have HF : Hid (∀ W, Below w.heap.size w W → Calls Try.prog 13 #[.agg #[.int .i64 mi, .int .i64 mb, .int .i64 nx, .slice a xs.length c]] W fun e w' => e = .returned (.bool true) ∧ Below W.heap.size W w') := Lib.hid fun W hW => by
    have := few_walk mi mb nx xs a c W (hN.below hW (Nat.le_refl _))
    rw [hf] at this
    exact this
  have HR : Hid (∀ W, Below w.heap.size w W → Calls Try.prog 14 #[.agg #[.int .i64 mi, .int .i64 mb, .int .i64 nx, .slice a xs.length c]] W fun e w' => e = .returned (.bool true) ∧ Below W.heap.size W w') := Lib.hid fun W hW => by
    have := rise_walk mi mb nx xs a c W (hN.below hW (Nat.le_refl _)) (by omega)
    rw [decide_eq_true hR] at this
    exact this
  have HX0 : ∀ W, Below w.heap.size w W → ∀ y ∈ set x xs, NodOk W y := fun W hW y hy => by
    rcases set_mem hy with rfl | hy
    · exact hx.below hW (Nat.le_refl _)
    · exact (hN.2 y hy).below hW (Nat.le_refl _)
  obtain ⟨t0, t1⟩ := laid1 w (.cells #[.int .i64 mi, .int .i64 mb, .int .i64 nx, .slice a xs.length c] 25) (.cells #[.int .i64 x.ino, .int .i64 x.kind, .int .i64 x.links, .string x.data, .int .i64 x.parent, .slice x.ea x.es.length x.ec] 35)
  obtain ⟨l1, l2, l3⟩ := hN.len
  obtain ⟨m1, m2, m3⟩ := Ents.len hx
  have HN := Lib.hid hN
  have HRI := Lib.hid hR
  clear hN hf hR hx
  go_enter Try.func5, Try.ntmps5
  go_wp2_with fail
  refine (awake_walk _).mono ?_
  rintro e w1 ⟨rfl, hB1⟩
  have hB10 : Below w.heap.size w w1 := (((Below.refl _ w).alloc (Nat.le_refl _) _).alloc (by simp) _).trans (hB1.mono (by simp; try omega))
  have hs1 := hB1.size
  simp only [World.size_alloc] at hs1
  rw [← hB1.block _ (by simp; try omega)] at t0 t1
  obtain ⟨f0_0, f0_1, f0_2, f0_3, -⟩ := box4 t0
  obtain ⟨f1_0, f1_1, f1_2, f1_3, f1_4, f1_5, -⟩ := box6 t1
  go_wp2_with fail
  refine (HF.out _ hB10).mono ?_
  rintro e w2 ⟨rfl, hB2⟩
  have hB20 := hB10.trans (hB2.mono hB10.size)
  have hs2 := hB2.size
  rw [← hB2.block _ (by omega)] at t0 t1
  clear f0_0 f0_1 f0_2 f0_3 f1_0 f1_1 f1_2 f1_3 f1_4 f1_5
  obtain ⟨f0_0, f0_1, f0_2, f0_3, -⟩ := box4 t0
  obtain ⟨f1_0, f1_1, f1_2, f1_3, f1_4, f1_5, -⟩ := box6 t1
  go_wp2_with fail
  refine (HR.out _ hB20).mono ?_
  rintro e w3 ⟨rfl, hB3⟩
  have hB30 := hB20.trans (hB3.mono hB20.size)
  have hs3 := hB3.size
  rw [← hB3.block _ (by omega)] at t0 t1
  clear f0_0 f0_1 f0_2 f0_3 f1_0 f1_1 f1_2 f1_3 f1_4 f1_5
  obtain ⟨f0_0, f0_1, f0_2, f0_3, -⟩ := box4 t0
  obtain ⟨f1_0, f1_1, f1_2, f1_3, f1_4, f1_5, -⟩ := box6 t1
  have HK : Hid (∀ W, Below w3.heap.size w3 W → Below w3.heap.size w3 W ∧ (W.cell? ⟨w.heap.size, 0, none⟩ = some (.int .i64 mi) ∧ W.cell? ⟨w.heap.size, 1, none⟩ = some (.int .i64 mb) ∧ W.cell? ⟨w.heap.size, 2, none⟩ = some (.int .i64 nx) ∧ W.cell? ⟨w.heap.size, 3, none⟩ = some (.slice a xs.length c)) ∧ (W.cell? ⟨w.heap.size + 1, 0, none⟩ = some (.int .i64 x.ino) ∧ W.cell? ⟨w.heap.size + 1, 1, none⟩ = some (.int .i64 x.kind) ∧ W.cell? ⟨w.heap.size + 1, 2, none⟩ = some (.int .i64 x.links) ∧ W.cell? ⟨w.heap.size + 1, 3, none⟩ = some (.string x.data) ∧ W.cell? ⟨w.heap.size + 1, 4, none⟩ = some (.int .i64 x.parent) ∧ W.cell? ⟨w.heap.size + 1, 5, none⟩ = some (.slice x.ea x.es.length x.ec))) := Lib.hid fun W hb => by
    rw [← hb.block _ (by omega)] at t0
    rw [← hb.block _ (by omega)] at t1
    obtain ⟨z0_0, z0_1, z0_2, z0_3, -⟩ := box4 t0
    obtain ⟨z1_0, z1_1, z1_2, z1_3, z1_4, z1_5, -⟩ := box6 t1
    exact ⟨hb, ⟨z0_0, z0_1, z0_2, z0_3⟩, ⟨z1_0, z1_1, z1_2, z1_3, z1_4, z1_5⟩⟩
  have HS : Hid (∀ W u, (Below w3.heap.size w3 W ∧ (W.cell? ⟨w.heap.size, 0, none⟩ = some (.int .i64 mi) ∧ W.cell? ⟨w.heap.size, 1, none⟩ = some (.int .i64 mb) ∧ W.cell? ⟨w.heap.size, 2, none⟩ = some (.int .i64 nx) ∧ W.cell? ⟨w.heap.size, 3, none⟩ = some (.slice a xs.length c)) ∧ (W.cell? ⟨w.heap.size + 1, 0, none⟩ = some (.int .i64 x.ino) ∧ W.cell? ⟨w.heap.size + 1, 1, none⟩ = some (.int .i64 x.kind) ∧ W.cell? ⟨w.heap.size + 1, 2, none⟩ = some (.int .i64 x.links) ∧ W.cell? ⟨w.heap.size + 1, 3, none⟩ = some (.string x.data) ∧ W.cell? ⟨w.heap.size + 1, 4, none⟩ = some (.int .i64 x.parent) ∧ W.cell? ⟨w.heap.size + 1, 5, none⟩ = some (.slice x.ea x.es.length x.ec))) → Below W.heap.size W u → Below w3.heap.size w3 u) := Lib.hid fun W u h hb => h.1.trans (hb.mono h.1.size)
  have HD : Hid (∀ W, (Below w3.heap.size w3 W ∧ (W.cell? ⟨w.heap.size, 0, none⟩ = some (.int .i64 mi) ∧ W.cell? ⟨w.heap.size, 1, none⟩ = some (.int .i64 mb) ∧ W.cell? ⟨w.heap.size, 2, none⟩ = some (.int .i64 nx) ∧ W.cell? ⟨w.heap.size, 3, none⟩ = some (.slice a xs.length c)) ∧ (W.cell? ⟨w.heap.size + 1, 0, none⟩ = some (.int .i64 x.ino) ∧ W.cell? ⟨w.heap.size + 1, 1, none⟩ = some (.int .i64 x.kind) ∧ W.cell? ⟨w.heap.size + 1, 2, none⟩ = some (.int .i64 x.links) ∧ W.cell? ⟨w.heap.size + 1, 3, none⟩ = some (.string x.data) ∧ W.cell? ⟨w.heap.size + 1, 4, none⟩ = some (.int .i64 x.parent) ∧ W.cell? ⟨w.heap.size + 1, 5, none⟩ = some (.slice x.ea x.es.length x.ec))) → Calls Try.prog 20 #[.agg #[.int .i64 mi, .int .i64 mb, .int .i64 nx, .slice a xs.length c], .agg #[.int .i64 x.ino, .int .i64 x.kind, .int .i64 x.links, .string x.data, .int .i64 x.parent, .slice x.ea x.es.length x.ec]] W (FsPost mi mb nx (set x xs) W.heap.size W)) := Lib.hid fun W h => set_any mi mb nx xs x a c W (HN.out.below (hB30.trans (h.1.mono hB30.size)) (Nat.le_refl _)) HRI.out (by omega)
  have HE : Hid (∀ W, (Below w3.heap.size w3 W ∧ (W.cell? ⟨w.heap.size, 0, none⟩ = some (.int .i64 mi) ∧ W.cell? ⟨w.heap.size, 1, none⟩ = some (.int .i64 mb) ∧ W.cell? ⟨w.heap.size, 2, none⟩ = some (.int .i64 nx) ∧ W.cell? ⟨w.heap.size, 3, none⟩ = some (.slice a xs.length c)) ∧ (W.cell? ⟨w.heap.size + 1, 0, none⟩ = some (.int .i64 x.ino) ∧ W.cell? ⟨w.heap.size + 1, 1, none⟩ = some (.int .i64 x.kind) ∧ W.cell? ⟨w.heap.size + 1, 2, none⟩ = some (.int .i64 x.links) ∧ W.cell? ⟨w.heap.size + 1, 3, none⟩ = some (.string x.data) ∧ W.cell? ⟨w.heap.size + 1, 4, none⟩ = some (.int .i64 x.parent) ∧ W.cell? ⟨w.heap.size + 1, 5, none⟩ = some (.slice x.ea x.es.length x.ec))) → Calls Try.prog 21 #[.agg #[.int .i64 mi, .int .i64 mb, .int .i64 nx, .slice a xs.length c], .agg #[.int .i64 x.ino, .int .i64 x.kind, .int .i64 x.links, .string x.data, .int .i64 x.parent, .slice x.ea x.es.length x.ec]] W (FsPost mi mb nx (set x xs) W.heap.size W)) := Lib.hid fun W h => rset_walk mi mb nx xs x a c W (HN.out.below (hB30.trans (h.1.mono hB30.size)) (Nat.le_refl _)) (by omega)
  have HX : Hid (∀ u, Below w3.heap.size w3 u → ∀ y ∈ set x xs, NodOk u y) := Lib.hid fun u hu => HX0 u (hB30.trans (hu.mono hB30.size))
  have HT : Hid (∀ (W : World) a2 c2 a3 c3, Nods W a2 c2 (set x xs) → Nods W a3 c3 (set x xs) → Calls Try.prog 11 #[.agg #[.int .i64 mi, .int .i64 mb, .int .i64 nx, .slice a2 (set x xs).length c2], .agg #[.int .i64 mi, .int .i64 mb, .int .i64 nx, .slice a3 (set x xs).length c3]] W fun e w' => e = .returned (.bool true) ∧ Below W.heap.size W w') := Lib.hid fun W a2 c2 a3 c3 h1 h2 => by
    have := rsame_walk mi mb nx mi mb nx (set x xs) (set x xs) a2 a3 c2 c3 W h1 h2
    rw [beq_self_eq_true, beq_self_eq_true, beq_self_eq_true, likes_self] at this
    exact this
  have hBs := hB30.size
  have T0 := Lib.hid t0
  have n3 : w.heap.size + 1 < w3.heap.size := by omega
  have HNW : Hid (∀ u, Below w3.heap.size w3 u → Nods u a c xs) := Lib.hid fun u hu => HN.out.below (hB30.trans (hu.mono hB30.size)) (Nat.le_refl _)
  clear t0 t1 HF HR HX0 HN HRI hB1 hB2 hB3 hB10 hB20 hs1 hs2 hs3
  go_wp2
  go_region_held3 (fun W => Below w3.heap.size w3 W ∧ (W.cell? ⟨w.heap.size, 0, none⟩ = some (.int .i64 mi) ∧ W.cell? ⟨w.heap.size, 1, none⟩ = some (.int .i64 mb) ∧ W.cell? ⟨w.heap.size, 2, none⟩ = some (.int .i64 nx) ∧ W.cell? ⟨w.heap.size, 3, none⟩ = some (.slice a xs.length c)) ∧ (W.cell? ⟨w.heap.size + 1, 0, none⟩ = some (.int .i64 x.ino) ∧ W.cell? ⟨w.heap.size + 1, 1, none⟩ = some (.int .i64 x.kind) ∧ W.cell? ⟨w.heap.size + 1, 2, none⟩ = some (.int .i64 x.links) ∧ W.cell? ⟨w.heap.size + 1, 3, none⟩ = some (.string x.data) ∧ W.cell? ⟨w.heap.size + 1, 4, none⟩ = some (.int .i64 x.parent) ∧ W.cell? ⟨w.heap.size + 1, 5, none⟩ = some (.slice x.ea x.es.length x.ec))) ((refine HK.out _ ?_; (repeat' (first | with_reducible assumption | with_reducible exact Below.refl _ _ | with_reducible refine Below.setCell ?_ ?_ _ | with_reducible refine Below.alloc ?_ ?_ _ | with_reducible refine Below.drew ?_ | omega | (simp; done) | (simp; omega))))) (first | (go_at_call 20; refine (HD.out _ (by assumption)).mono ?_; rintro e u2 ⟨v2, rfl, own2, hBv2⟩; have hBu2 := HS.out _ _ (by assumption) hBv2; obtain ⟨a2, c2, hv2, nod2⟩ := OwnNods.parts own2 (HX.out u2 hBu2); subst hv2; have N2 := Lib.hid nod2; clear own2 nod2; unfold FsVal) | (go_at_call 21; refine (HE.out _ (by assumption)).mono ?_; rintro e u3 ⟨v3, rfl, own3, hBv3⟩; have hBu3 := HS.out _ _ (by assumption) hBv3; obtain ⟨a3, c3, hv3, nod3⟩ := OwnNods.parts own3 (HX.out u3 hBu3); subst hv3; have N3 := Lib.hid nod3; clear own3 nod3; unfold FsVal) | (go_at_call 11; refine (HT.out _ _ _ _ _ (N2.out.below (by first | with_reducible exact Below.refl _ _ | assumption) (Nat.le_refl _)) (N3.out.below (by first | with_reducible exact Below.refl _ _ | assumption) (Nat.le_refl _))).mono ?_; rintro e u4 ⟨rfl, hBv4⟩; have hBu4 := HS.out _ _ (by assumption) hBv4; clear hBv4))
  all_goals
    have tf := T0.out
    rw [← hBu4.block _ (by omega)] at tf
    have hs4 := hBu4.size
    have n4 : w.heap.size < u4.heap.size := by omega
    obtain ⟨g0, g1, g2, g3, -⟩ := box4 tf
    have HTk : Hid (Calls Try.prog 22 #[.agg #[.int .i64 mi, .int .i64 mb, .int .i64 nx, .slice a xs.length c]] u4 (TakePost mi mb nx xs u4.heap.size u4)) := Lib.hid (take_walk mi mb nx xs a c u4 (HNW.out u4 hBu4) (by omega) (by omega) (by omega))
    go_wp2_with fail
    refine HTk.out.mono ?_
    rintro e u5 ⟨v5, rfl, own5, hB5⟩
    have hB50 : Below w3.heap.size w3 u5 := hBu4.trans (hB5.mono hs4)
    have nod5a := HNW.out u5 hB50
    obtain ⟨a5, c5, hv5, nod5⟩ := OwnNods.parts own5 nod5a.2
    subst hv5
    have hs5 := hB5.size
    have n5 : w.heap.size < u5.heap.size := by omega
    rw [← hB5.block _ (by omega)] at tf
    clear g0 g1 g2 g3
    obtain ⟨g0, g1, g2, g3, -⟩ := box4 tf
    unfold FsVal
    have HS5 : Hid (∀ W, Below u5.heap.size u5 W → Calls Try.prog 11 #[.agg #[.int .i64 mi, .int .i64 mb, .int .i64 (nx + 1), .slice a5 xs.length c5], .agg #[.int .i64 mi, .int .i64 mb, .int .i64 (nx + 1), .slice a xs.length c]] W fun e w' => e = .returned (.bool true) ∧ Below W.heap.size W w') := Lib.hid fun W hW => by
      have := rsame_walk mi mb (nx + 1) mi mb (nx + 1) xs xs a5 a c5 c W (nod5.below hW (Nat.le_refl _)) (nod5a.below hW (Nat.le_refl _))
      rw [beq_self_eq_true, beq_self_eq_true, beq_self_eq_true, likes_self] at this
      exact this
    have hnn : (nx == nx) = true := beq_self_eq_true _
    clear own5 nod5a nod5 tf HNW HTk
    go_wp2_with fail
    refine (HS5.out _ (by (repeat' (first | with_reducible assumption | with_reducible exact Below.refl _ _ | with_reducible refine Below.setCell ?_ ?_ _ | with_reducible refine Below.alloc ?_ ?_ _ | with_reducible refine Below.drew ?_ | omega | (simp; done) | (simp; omega))))).mono ?_
    rintro e u6 ⟨rfl, hB6⟩
    go_wp2
    go_ret
    exact ⟨rfl, (hB30.trans (hB50.mono hBs)).trans (Below.trans (a := u5) (B := w.heap.size) (by have := hB50.size; (repeat' (first | with_reducible assumption | with_reducible exact Below.refl _ _ | with_reducible refine Below.setCell ?_ ?_ _ | with_reducible refine Below.alloc ?_ ?_ _ | with_reducible refine Below.drew ?_ | omega | (simp; done) | (simp; omega)))) (hB6.mono (by have := hB50.size; simp; omega)))⟩
theorem sets_walk (mi mb nx : Int) (xs : List Nod) (x : Nod) (a : Option Addr) (c : Nat) (w : World) (hN : Nods w a c xs) (hx : NodOk w x) : Calls Try.prog 5 #[.agg #[.int .i64 mi, .int .i64 mb, .int .i64 nx, .slice a xs.length c], .agg #[.int .i64 x.ino, .int .i64 x.kind, .int .i64 x.links, .string x.data, .int .i64 x.parent, .slice x.ea x.es.length x.ec]] w fun e w' => e = .returned (.bool true) ∧ Below w.heap.size w w' := by
  cases hf : few xs with
  | false => exact sets_nofew mi mb nx xs x a c w hN hx hf
  | true =>
    by_cases hR : Rises xs
    · by_cases hd : 5000 < x.data.size
      · exact sets_data mi mb nx xs x a c w hN hx hf hR hd
      · by_cases he : 40 < x.es.length
        · exact sets_ents mi mb nx xs x a c w hN hx hf hR hd he
        · by_cases hn : nx < 0
          · exact sets_neg mi mb nx xs x a c w hN hx hf hR hd he hn
          · by_cases hm : 1152921504606846976 < nx
            · exact sets_big mi mb nx xs x a c w hN hx hf hR hd he hn hm
            · exact sets_ok mi mb nx xs x a c w hN hx hf hR hd he hn hm
    · exact sets_norise mi mb nx xs x a c w hN hx hf hR
end Go.Proofs.Yteaemnjomlcfcaa.Tab
