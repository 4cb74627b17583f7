/- The laws on tables, walked: whether two are alike; and what is got, all cases. (printed by gen_tablaw4.py) -/
import Derived.Test.YteaemnjomlcfcaaTabLaw3
set_option linter.unusedVariables false
set_option linter.unusedSimpArgs false
namespace Go.Proofs.Yteaemnjomlcfcaa.Tab
open Go.RowKit Go.Proofs.Yteaemnjomlcfcaa.Kit
theorem gets_walk (mi mb nx : Int) (xs : List Nod) (a : Option Addr) (c : Nat) (n : Int) (w : World) (hN : Nods w a c xs) : Calls Try.prog 4 #[.agg #[.int .i64 mi, .int .i64 mb, .int .i64 nx, .slice a xs.length c], .int .i64 n] w fun e w' => e = .returned (.bool true) ∧ Below w.heap.size w w' := by
  cases hf : few xs with
  | false => exact gets_nofew mi mb nx xs a c n w hN hf
  | true =>
    by_cases hR : Rises xs
    · exact gets_ok mi mb nx xs a c n w hN hf hR
    · exact gets_norise mi mb nx xs a c n w hN hf hR
set_option maxHeartbeats 8000000 in
set_option maxRecDepth 100000 in
theorem sames_no1 (mi mb nx mi2 mb2 nx2 : Int) (xs ys : List Nod) (a b : Option Addr) (c d : Nat) (w : World) (hN : Nods w a c xs) (hM : Nods w b d ys) (hf : few xs = false) : Calls Try.prog 6 #[.agg #[.int .i64 mi, .int .i64 mb, .int .i64 nx, .slice a xs.length c], .agg #[.int .i64 mi2, .int .i64 mb2, .int .i64 nx2, .slice b ys.length d]] w fun e w' => e = .returned (.bool true) ∧ Below w.heap.size w w' := by
  have HF : Hid (∀ W, Below w.heap.size w W → Calls Try.prog 13 #[.agg #[.int .i64 mi, .int .i64 mb, .int .i64 nx, .slice a xs.length c]] W fun e w' => e = .returned (.bool false) ∧ Below W.heap.size W w') := Lib.hid fun W hW => by
    have := few_walk mi mb nx xs a c W (hN.below hW (Nat.le_refl _))
    rw [hf] at this
    exact this
  obtain ⟨t0, t1⟩ := laid1 w (.cells #[.int .i64 mi, .int .i64 mb, .int .i64 nx, .slice a xs.length c] 25) (.cells #[.int .i64 mi2, .int .i64 mb2, .int .i64 nx2, .slice b ys.length d] 25)
  obtain ⟨l1, l2, l3⟩ := hN.len
  obtain ⟨m1, m2, m3⟩ := hM.len
  clear hN hM hf
  go_enter Try.func6, Try.ntmps6
  go_wp2_with fail
  refine (awake_walk _).mono ?_
  rintro e w1 ⟨rfl, hB1⟩
  have hB10 : Below w.heap.size w w1 := (((Below.refl _ w).alloc (Nat.le_refl _) _).alloc (by simp) _).trans (hB1.mono (by simp; try omega))
  have hs1 := hB1.size
  simp only [World.size_alloc] at hs1
  rw [← hB1.block _ (by simp; try omega)] at t0 t1
  obtain ⟨f0_0, f0_1, f0_2, f0_3, -⟩ := box4 t0
  obtain ⟨f1_0, f1_1, f1_2, f1_3, -⟩ := box4 t1
  go_wp2_with fail
  refine (HF.out _ hB10).mono ?_
  rintro e w2 ⟨rfl, hB2⟩
  have hB20 := hB10.trans (hB2.mono hB10.size)
  have hs2 := hB2.size
  rw [← hB2.block _ (by omega)] at t0 t1
  clear f0_0 f0_1 f0_2 f0_3 f1_0 f1_1 f1_2 f1_3
  obtain ⟨f0_0, f0_1, f0_2, f0_3, -⟩ := box4 t0
  obtain ⟨f1_0, f1_1, f1_2, f1_3, -⟩ := box4 t1
  go_wp2_with fail
  refine (awake_walk _).mono ?_
  rintro e w3 ⟨rfl, hB3⟩
  go_wp2
  go_ret
  exact ⟨rfl, hB20.trans (hB3.mono hB20.size)⟩
set_option maxHeartbeats 8000000 in
set_option maxRecDepth 100000 in
theorem sames_no2 (mi mb nx mi2 mb2 nx2 : Int) (xs ys : List Nod) (a b : Option Addr) (c d : Nat) (w : World) (hN : Nods w a c xs) (hM : Nods w b d ys) (hf : few xs = true) (hg : few ys = false) : Calls Try.prog 6 #[.agg #[.int .i64 mi, .int .i64 mb, .int .i64 nx, .slice a xs.length c], .agg #[.int .i64 mi2, .int .i64 mb2, .int .i64 nx2, .slice b ys.length d]] w fun e w' => e = .returned (.bool true) ∧ Below w.heap.size w w' := by
  have HF : Hid (∀ W, Below w.heap.size w W → Calls Try.prog 13 #[.agg #[.int .i64 mi, .int .i64 mb, .int .i64 nx, .slice a xs.length c]] W fun e w' => e = .returned (.bool true) ∧ Below W.heap.size W w') := Lib.hid fun W hW => by
    have := few_walk mi mb nx xs a c W (hN.below hW (Nat.le_refl _))
    rw [hf] at this
    exact this
  have HM : Hid (∀ W, Below w.heap.size w W → Calls Try.prog 13 #[.agg #[.int .i64 mi2, .int .i64 mb2, .int .i64 nx2, .slice b ys.length d]] W fun e w' => e = .returned (.bool false) ∧ Below W.heap.size W w') := Lib.hid fun W hW => by
    have := few_walk mi2 mb2 nx2 ys b d W (hM.below hW (Nat.le_refl _))
    rw [hg] at this
    exact this
  obtain ⟨t0, t1⟩ := laid1 w (.cells #[.int .i64 mi, .int .i64 mb, .int .i64 nx, .slice a xs.length c] 25) (.cells #[.int .i64 mi2, .int .i64 mb2, .int .i64 nx2, .slice b ys.length d] 25)
  obtain ⟨l1, l2, l3⟩ := hN.len
  obtain ⟨m1, m2, m3⟩ := hM.len
  clear hN hM hf hg
  go_enter Try.func6, Try.ntmps6
  go_wp2_with fail
  refine (awake_walk _).mono ?_
  rintro e w1 ⟨rfl, hB1⟩
  have hB10 : Below w.heap.size w w1 := (((Below.refl _ w).alloc (Nat.le_refl _) _).alloc (by simp) _).trans (hB1.mono (by simp; try omega))
  have hs1 := hB1.size
  simp only [World.size_alloc] at hs1
  rw [← hB1.block _ (by simp; try omega)] at t0 t1
  obtain ⟨f0_0, f0_1, f0_2, f0_3, -⟩ := box4 t0
  obtain ⟨f1_0, f1_1, f1_2, f1_3, -⟩ := box4 t1
  go_wp2_with fail
  refine (HF.out _ hB10).mono ?_
  rintro e w2 ⟨rfl, hB2⟩
  have hB20 := hB10.trans (hB2.mono hB10.size)
  have hs2 := hB2.size
  rw [← hB2.block _ (by omega)] at t0 t1
  clear f0_0 f0_1 f0_2 f0_3 f1_0 f1_1 f1_2 f1_3
  obtain ⟨f0_0, f0_1, f0_2, f0_3, -⟩ := box4 t0
  obtain ⟨f1_0, f1_1, f1_2, f1_3, -⟩ := box4 t1
  go_wp2_with fail
  refine (HM.out _ hB20).mono ?_
  rintro e w3 ⟨rfl, hB3⟩
  have hB30 := hB20.trans (hB3.mono hB20.size)
  have hs3 := hB3.size
  rw [← hB3.block _ (by omega)] at t0 t1
  clear f0_0 f0_1 f0_2 f0_3 f1_0 f1_1 f1_2 f1_3
  obtain ⟨f0_0, f0_1, f0_2, f0_3, -⟩ := box4 t0
  obtain ⟨f1_0, f1_1, f1_2, f1_3, -⟩ := box4 t1
  go_wp2_with fail
  refine (awake_walk _).mono ?_
  rintro e w4 ⟨rfl, hB4⟩
  go_wp2
  go_ret
  exact ⟨rfl, hB30.trans (hB4.mono hB30.size)⟩
set_option maxHeartbeats 8000000 in
set_option maxRecDepth 100000 in
theorem sames_ok (mi mb nx mi2 mb2 nx2 : Int) (xs ys : List Nod) (a b : Option Addr) (c d : Nat) (w : World) (hN : Nods w a c xs) (hM : Nods w b d ys) (hf : few xs = true) (hg : few ys = true) : Calls Try.prog 6 #[.agg #[.int .i64 mi, .int .i64 mb, .int .i64 nx, .slice a xs.length c], .agg #[.int .i64 mi2, .int .i64 mb2, .int .i64 nx2, .slice b ys.length d]] w fun e w' => e = .returned (.bool true) ∧ Below w.heap.size w w' := by
  have HF : Hid (∀ W, Below w.heap.size w W → Calls Try.prog 13 #[.agg #[.int .i64 mi, .int .i64 mb, .int .i64 nx, .slice a xs.length c]] W fun e w' => e = .returned (.bool true) ∧ Below W.heap.size W w') := Lib.hid fun W hW => by
    have := few_walk mi mb nx xs a c W (hN.below hW (Nat.le_refl _))
    rw [hf] at this
    exact this
  have HM : Hid (∀ W, Below w.heap.size w W → Calls Try.prog 13 #[.agg #[.int .i64 mi2, .int .i64 mb2, .int .i64 nx2, .slice b ys.length d]] W fun e w' => e = .returned (.bool true) ∧ Below W.heap.size W w') := Lib.hid fun W hW => by
    have := few_walk mi2 mb2 nx2 ys b d W (hM.below hW (Nat.le_refl _))
    rw [hg] at this
    exact this
  obtain ⟨r, hr⟩ : ∃ r, r = ((mi == mi2) && (mb == mb2) && (nx == nx2) && likes xs ys) := ⟨_, rfl⟩
  have HA0 : ∀ W, Below w.heap.size w W → Calls Try.prog 23 #[.agg #[.int .i64 mi, .int .i64 mb, .int .i64 nx, .slice a xs.length c], .agg #[.int .i64 mi2, .int .i64 mb2, .int .i64 nx2, .slice b ys.length d]] W fun e w' => e = .returned (.bool r) ∧ Below W.heap.size W w' := fun W hW => by
    rw [hr]; exact tsame_walk mi mb nx mi2 mb2 nx2 xs ys a b c d W (hN.below hW (Nat.le_refl _)) (hM.below hW (Nat.le_refl _))
  have HB0 : ∀ W, Below w.heap.size w W → Calls Try.prog 11 #[.agg #[.int .i64 mi, .int .i64 mb, .int .i64 nx, .slice a xs.length c], .agg #[.int .i64 mi2, .int .i64 mb2, .int .i64 nx2, .slice b ys.length d]] W fun e w' => e = .returned (.bool r) ∧ Below W.heap.size W w' := fun W hW => by
    rw [hr]; exact rsame_walk mi mb nx mi2 mb2 nx2 xs ys a b c d W (hN.below hW (Nat.le_refl _)) (hM.below hW (Nat.le_refl _))
  have HC0 : ∀ W, Below w.heap.size w W → Calls Try.prog 23 #[.agg #[.int .i64 mi, .int .i64 mb, .int .i64 nx, .slice a xs.length c], .agg #[.int .i64 mi, .int .i64 mb, .int .i64 nx, .slice a xs.length c]] W fun e w' => e = .returned (.bool true) ∧ Below W.heap.size W w' := fun W hW => by
    have := tsame_walk mi mb nx mi mb nx xs xs a a c c W (hN.below hW (Nat.le_refl _)) (hN.below hW (Nat.le_refl _))
    rw [beq_self_eq_true, beq_self_eq_true, beq_self_eq_true, likes_self] at this
    exact this
  obtain ⟨t0, t1⟩ := laid1 w (.cells #[.int .i64 mi, .int .i64 mb, .int .i64 nx, .slice a xs.length c] 25) (.cells #[.int .i64 mi2, .int .i64 mb2, .int .i64 nx2, .slice b ys.length d] 25)
  obtain ⟨l1, l2, l3⟩ := hN.len
  obtain ⟨m1, m2, m3⟩ := hM.len
  have hrr : (r == r) = true := beq_self_eq_true r
  clear hN hM hf hg hr
  go_enter Try.func6, Try.ntmps6
  go_wp2_with fail
  refine (awake_walk _).mono ?_
  rintro e w1 ⟨rfl, hB1⟩
  have hB10 : Below w.heap.size w w1 := (((Below.refl _ w).alloc (Nat.le_refl _) _).alloc (by simp) _).trans (hB1.mono (by simp; try omega))
  have hs1 := hB1.size
  simp only [World.size_alloc] at hs1
  rw [← hB1.block _ (by simp; try omega)] at t0 t1
  obtain ⟨f0_0, f0_1, f0_2, f0_3, -⟩ := box4 t0
  obtain ⟨f1_0, f1_1, f1_2, f1_3, -⟩ := box4 t1
  go_wp2_with fail
  refine (HF.out _ hB10).mono ?_
  rintro e w2 ⟨rfl, hB2⟩
  have hB20 := hB10.trans (hB2.mono hB10.size)
  have hs2 := hB2.size
  rw [← hB2.block _ (by omega)] at t0 t1
  clear f0_0 f0_1 f0_2 f0_3 f1_0 f1_1 f1_2 f1_3
  obtain ⟨f0_0, f0_1, f0_2, f0_3, -⟩ := box4 t0
  obtain ⟨f1_0, f1_1, f1_2, f1_3, -⟩ := box4 t1
  go_wp2_with fail
  refine (HM.out _ hB20).mono ?_
  rintro e w3 ⟨rfl, hB3⟩
  have hB30 := hB20.trans (hB3.mono hB20.size)
  have hs3 := hB3.size
  rw [← hB3.block _ (by omega)] at t0 t1
  clear f0_0 f0_1 f0_2 f0_3 f1_0 f1_1 f1_2 f1_3
  obtain ⟨f0_0, f0_1, f0_2, f0_3, -⟩ := box4 t0
  obtain ⟨f1_0, f1_1, f1_2, f1_3, -⟩ := box4 t1
  have HK : Hid (∀ W, Below w3.heap.size w3 W → Below w3.heap.size w3 W ∧ (W.cell? ⟨w.heap.size, 0, none⟩ = some (.int .i64 mi) ∧ W.cell? ⟨w.heap.size, 1, none⟩ = some (.int .i64 mb) ∧ W.cell? ⟨w.heap.size, 2, none⟩ = some (.int .i64 nx) ∧ W.cell? ⟨w.heap.size, 3, none⟩ = some (.slice a xs.length c)) ∧ (W.cell? ⟨w.heap.size + 1, 0, none⟩ = some (.int .i64 mi2) ∧ W.cell? ⟨w.heap.size + 1, 1, none⟩ = some (.int .i64 mb2) ∧ W.cell? ⟨w.heap.size + 1, 2, none⟩ = some (.int .i64 nx2) ∧ W.cell? ⟨w.heap.size + 1, 3, none⟩ = some (.slice b ys.length d))) := Lib.hid fun W hb => by
    rw [← hb.block _ (by omega)] at t0
    rw [← hb.block _ (by omega)] at t1
    obtain ⟨z0_0, z0_1, z0_2, z0_3, -⟩ := box4 t0
    obtain ⟨z1_0, z1_1, z1_2, z1_3, -⟩ := box4 t1
    exact ⟨hb, ⟨z0_0, z0_1, z0_2, z0_3⟩, ⟨z1_0, z1_1, z1_2, z1_3⟩⟩
  have HS : Hid (∀ W u, (Below w3.heap.size w3 W ∧ (W.cell? ⟨w.heap.size, 0, none⟩ = some (.int .i64 mi) ∧ W.cell? ⟨w.heap.size, 1, none⟩ = some (.int .i64 mb) ∧ W.cell? ⟨w.heap.size, 2, none⟩ = some (.int .i64 nx) ∧ W.cell? ⟨w.heap.size, 3, none⟩ = some (.slice a xs.length c)) ∧ (W.cell? ⟨w.heap.size + 1, 0, none⟩ = some (.int .i64 mi2) ∧ W.cell? ⟨w.heap.size + 1, 1, none⟩ = some (.int .i64 mb2) ∧ W.cell? ⟨w.heap.size + 1, 2, none⟩ = some (.int .i64 nx2) ∧ W.cell? ⟨w.heap.size + 1, 3, none⟩ = some (.slice b ys.length d))) → Below W.heap.size W u → Below w3.heap.size w3 u) := Lib.hid fun W u h hb => h.1.trans (hb.mono h.1.size)
  have HA : Hid (∀ W, (Below w3.heap.size w3 W ∧ (W.cell? ⟨w.heap.size, 0, none⟩ = some (.int .i64 mi) ∧ W.cell? ⟨w.heap.size, 1, none⟩ = some (.int .i64 mb) ∧ W.cell? ⟨w.heap.size, 2, none⟩ = some (.int .i64 nx) ∧ W.cell? ⟨w.heap.size, 3, none⟩ = some (.slice a xs.length c)) ∧ (W.cell? ⟨w.heap.size + 1, 0, none⟩ = some (.int .i64 mi2) ∧ W.cell? ⟨w.heap.size + 1, 1, none⟩ = some (.int .i64 mb2) ∧ W.cell? ⟨w.heap.size + 1, 2, none⟩ = some (.int .i64 nx2) ∧ W.cell? ⟨w.heap.size + 1, 3, none⟩ = some (.slice b ys.length d))) → Calls Try.prog 23 #[.agg #[.int .i64 mi, .int .i64 mb, .int .i64 nx, .slice a xs.length c], .agg #[.int .i64 mi2, .int .i64 mb2, .int .i64 nx2, .slice b ys.length d]] W fun e w' => e = .returned (.bool r) ∧ Below W.heap.size W w') := Lib.hid fun W h => HA0 W (hB30.trans (h.1.mono hB30.size))
  have HBB : Hid (∀ W, (Below w3.heap.size w3 W ∧ (W.cell? ⟨w.heap.size, 0, none⟩ = some (.int .i64 mi) ∧ W.cell? ⟨w.heap.size, 1, none⟩ = some (.int .i64 mb) ∧ W.cell? ⟨w.heap.size, 2, none⟩ = some (.int .i64 nx) ∧ W.cell? ⟨w.heap.size, 3, none⟩ = some (.slice a xs.length c)) ∧ (W.cell? ⟨w.heap.size + 1, 0, none⟩ = some (.int .i64 mi2) ∧ W.cell? ⟨w.heap.size + 1, 1, none⟩ = some (.int .i64 mb2) ∧ W.cell? ⟨w.heap.size + 1, 2, none⟩ = some (.int .i64 nx2) ∧ W.cell? ⟨w.heap.size + 1, 3, none⟩ = some (.slice b ys.length d))) → Calls Try.prog 11 #[.agg #[.int .i64 mi, .int .i64 mb, .int .i64 nx, .slice a xs.length c], .agg #[.int .i64 mi2, .int .i64 mb2, .int .i64 nx2, .slice b ys.length d]] W fun e w' => e = .returned (.bool r) ∧ Below W.heap.size W w') := Lib.hid fun W h => HB0 W (hB30.trans (h.1.mono hB30.size))
  have HC : Hid (∀ W, (Below w3.heap.size w3 W ∧ (W.cell? ⟨w.heap.size, 0, none⟩ = some (.int .i64 mi) ∧ W.cell? ⟨w.heap.size, 1, none⟩ = some (.int .i64 mb) ∧ W.cell? ⟨w.heap.size, 2, none⟩ = some (.int .i64 nx) ∧ W.cell? ⟨w.heap.size, 3, none⟩ = some (.slice a xs.length c)) ∧ (W.cell? ⟨w.heap.size + 1, 0, none⟩ = some (.int .i64 mi2) ∧ W.cell? ⟨w.heap.size + 1, 1, none⟩ = some (.int .i64 mb2) ∧ W.cell? ⟨w.heap.size + 1, 2, none⟩ = some (.int .i64 nx2) ∧ W.cell? ⟨w.heap.size + 1, 3, none⟩ = some (.slice b ys.length d))) → Calls Try.prog 23 #[.agg #[.int .i64 mi, .int .i64 mb, .int .i64 nx, .slice a xs.length c], .agg #[.int .i64 mi, .int .i64 mb, .int .i64 nx, .slice a xs.length c]] W fun e w' => e = .returned (.bool true) ∧ Below W.heap.size W w') := Lib.hid fun W h => HC0 W (hB30.trans (h.1.mono hB30.size))
  have hBs := hB30.size
  clear t0 t1 HF HM HA0 HB0 HC0 hB1 hB2 hB3 hB10 hB20 hs1 hs2 hs3
  go_wp2
  go_region_held3 (fun W => Below w3.heap.size w3 W ∧ (W.cell? ⟨w.heap.size, 0, none⟩ = some (.int .i64 mi) ∧ W.cell? ⟨w.heap.size, 1, none⟩ = some (.int .i64 mb) ∧ W.cell? ⟨w.heap.size, 2, none⟩ = some (.int .i64 nx) ∧ W.cell? ⟨w.heap.size, 3, none⟩ = some (.slice a xs.length c)) ∧ (W.cell? ⟨w.heap.size + 1, 0, none⟩ = some (.int .i64 mi2) ∧ W.cell? ⟨w.heap.size + 1, 1, none⟩ = some (.int .i64 mb2) ∧ W.cell? ⟨w.heap.size + 1, 2, none⟩ = some (.int .i64 nx2) ∧ W.cell? ⟨w.heap.size + 1, 3, none⟩ = some (.slice b ys.length d))) ((refine HK.out _ ?_; (repeat' (first | with_reducible assumption | with_reducible exact Below.refl _ _ | with_reducible refine Below.setCell ?_ ?_ _ | with_reducible refine Below.alloc ?_ ?_ _ | with_reducible refine Below.drew ?_ | omega | (simp; done) | (simp; omega))))) (first | (go_at_call_of 23 (Value.slice b ys.length d); refine (HA.out _ (by assumption)).mono ?_; rintro e u1 ⟨rfl, hBv1⟩; have hBu1 := HS.out _ _ (by assumption) hBv1; clear hBv1) | (go_at_call 11; refine (HBB.out _ (by assumption)).mono ?_; rintro e u2 ⟨rfl, hBv2⟩; have hBu2 := HS.out _ _ (by assumption) hBv2; clear hBv2) | (go_at_call 23; refine (HC.out _ (by assumption)).mono ?_; rintro e u3 ⟨rfl, hBv3⟩; have hBu3 := HS.out _ _ (by assumption) hBv3; clear hBv3))
  all_goals
    go_wp2
    go_ret
    exact ⟨rfl, hB30.trans (hBu3.mono hBs)⟩
theorem sames_walk (mi mb nx mi2 mb2 nx2 : Int) (xs ys : List Nod) (a b : Option Addr) (c d : Nat) (w : World) (hN : Nods w a c xs) (hM : Nods w b d ys) : Calls Try.prog 6 #[.agg #[.int .i64 mi, .int .i64 mb, .int .i64 nx, .slice a xs.length c], .agg #[.int .i64 mi2, .int .i64 mb2, .int .i64 nx2, .slice b ys.length d]] w fun e w' => e = .returned (.bool true) ∧ Below w.heap.size w w' := by
  cases hf : few xs with
  | false => exact sames_no1 mi mb nx mi2 mb2 nx2 xs ys a b c d w hN hM hf
  | true =>
    cases hg : few ys with
    | false => exact sames_no2 mi mb nx mi2 mb2 nx2 xs ys a b c d w hN hM hf hg
    | true => exact sames_ok mi mb nx mi2 mb2 nx2 xs ys a b c d w hN hM hf hg
end Go.Proofs.Yteaemnjomlcfcaa.Tab
