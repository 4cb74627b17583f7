/- The laws on tables, walked: of counts. (printed by gen_tablaw1.py) -/
import Derived.Test.YteaemnjomlcfcaaTabAwake
set_option linter.unusedVariables false
set_option linter.unusedSimpArgs false
namespace Go.Proofs.Yteaemnjomlcfcaa.Tab
open Go.RowKit Go.Proofs.Yteaemnjomlcfcaa.Kit
set_option maxHeartbeats 8000000 in
set_option maxRecDepth 100000 in
theorem news_bad (i b : Int) (w : World) (h : ¬ (1 ≤ i ∧ i ≤ 1073741824 ∧ 0 ≤ b ∧ b ≤ 1073741824)) : Calls Try.prog 3 #[.int .i64 i, .int .i64 b] w fun e w' => e = .returned (.bool true) ∧ Below w.heap.size w w' := by
  have HN := Lib.hid (fun W => new_bad i b W h)
  have HS := Lib.hid (fun W => (rsame_walk 0 0 0 0 0 0 [] [] none none 0 0 W (Nods.nil _ _ _ (by decide)) (Nods.nil _ _ _ (by decide)) : Calls Try.prog 11 #[.agg #[.int .i64 0, .int .i64 0, .int .i64 0, .slice none 0 0], .agg #[.int .i64 0, .int .i64 0, .int .i64 0, .slice none 0 0]] W fun e w' => e = .returned (.bool true) ∧ Below W.heap.size W w'))
  by_cases h1 : i < 1
  · clear h
    go_enter Try.func3, Try.ntmps3
    go_wp2_with fail
    refine (awake_walk _).mono ?_
    rintro e w1 ⟨rfl, hB1⟩
    go_wp2_with fail
    refine (HN.out _).mono ?_
    rintro e w2 ⟨rfl, hB2⟩
    have hB20 : Below w.heap.size w w2 := hB1.trans (hB2.mono hB1.size)
    unfold FsVal
    go_wp2_with fail
    refine (HS.out _).mono ?_
    rintro e w3 ⟨rfl, hB3⟩
    go_wp2
    go_ret
    exact ⟨rfl, (hB20.alloc hB20.size _).trans (hB3.mono (by have := hB20.size; simp; omega))⟩
  · by_cases h2 : 1073741824 < i
    · clear h
      go_enter Try.func3, Try.ntmps3
      go_wp2_with fail
      refine (awake_walk _).mono ?_
      rintro e w1 ⟨rfl, hB1⟩
      go_wp2_with fail
      refine (HN.out _).mono ?_
      rintro e w2 ⟨rfl, hB2⟩
      have hB20 : Below w.heap.size w w2 := hB1.trans (hB2.mono hB1.size)
      unfold FsVal
      go_wp2_with fail
      refine (HS.out _).mono ?_
      rintro e w3 ⟨rfl, hB3⟩
      go_wp2
      go_ret
      exact ⟨rfl, (hB20.alloc hB20.size _).trans (hB3.mono (by have := hB20.size; simp; omega))⟩
    · by_cases h3 : b < 0
      · clear h
        go_enter Try.func3, Try.ntmps3
        go_wp2_with fail
        refine (awake_walk _).mono ?_
        rintro e w1 ⟨rfl, hB1⟩
        go_wp2_with fail
        refine (HN.out _).mono ?_
        rintro e w2 ⟨rfl, hB2⟩
        have hB20 : Below w.heap.size w w2 := hB1.trans (hB2.mono hB1.size)
        unfold FsVal
        go_wp2_with fail
        refine (HS.out _).mono ?_
        rintro e w3 ⟨rfl, hB3⟩
        go_wp2
        go_ret
        exact ⟨rfl, (hB20.alloc hB20.size _).trans (hB3.mono (by have := hB20.size; simp; omega))⟩
      · have h4 : 1073741824 < b := by omega
        clear h
        go_enter Try.func3, Try.ntmps3
        go_wp2_with fail
        refine (awake_walk _).mono ?_
        rintro e w1 ⟨rfl, hB1⟩
        go_wp2_with fail
        refine (HN.out _).mono ?_
        rintro e w2 ⟨rfl, hB2⟩
        have hB20 : Below w.heap.size w w2 := hB1.trans (hB2.mono hB1.size)
        unfold FsVal
        go_wp2_with fail
        refine (HS.out _).mono ?_
        rintro e w3 ⟨rfl, hB3⟩
        go_wp2
        go_ret
        exact ⟨rfl, (hB20.alloc hB20.size _).trans (hB3.mono (by have := hB20.size; simp; omega))⟩
set_option maxHeartbeats 8000000 in
set_option maxRecDepth 100000 in
theorem news_ok (i b : Int) (w : World) (h1 : 1 ≤ i) (h2 : i ≤ 1073741824) (h3 : 0 ≤ b) (h4 : b ≤ 1073741824) : Calls Try.prog 3 #[.int .i64 i, .int .i64 b] w fun e w' => e = .returned (.bool true) ∧ Below w.heap.size w w' := by
  have HN := Lib.hid (fun W => new_walk i b W h1 h2 h3 h4)
  have HR := Lib.hid (fun W => rnew_walk i b W)
  have hw1 : ¬ i < 1 := by omega
  have hw2 : ¬ 1073741824 < i := by omega
  have hw3 : ¬ b < 0 := by omega
  have hw4 : ¬ 1073741824 < b := by omega
  go_enter Try.func3, Try.ntmps3
  go_wp2_with fail
  refine (awake_walk _).mono ?_
  rintro e w1 ⟨rfl, hB1⟩
  go_wp2_with fail
  refine (HN.out _).mono ?_
  rintro e w2 ⟨v, rfl, own, hB2⟩
  have hB20 : Below w.heap.size w w2 := hB1.trans (hB2.mono hB1.size)
  obtain ⟨a, c, hv⟩ : ∃ a c, v = .slice a 1 c := own.slice
  subst hv
  have nod := Nods.bare w2 a c [Nod.root] (v := .slice a 1 c) own (by simp [Nod.root]) (by simp [Nod.root])
  unfold FsVal
  have t0 := laid0 w2 (.cells #[.int .i64 i, .int .i64 b, .int .i64 2, .slice a 1 c] 25)
  obtain ⟨W0, hW0⟩ : ∃ W0, W0 = w2.alloc (.cells #[.int .i64 i, .int .i64 b, .int .i64 2, .slice a 1 c] 25) := ⟨_, rfl⟩
  rw [← hW0] at t0
  have hs0 : W0.heap.size = w2.heap.size + 1 := by rw [hW0]; simp
  have b20 : Below w2.heap.size w2 W0 := by rw [hW0]; (repeat' (first | with_reducible assumption | with_reducible exact Below.refl _ _ | with_reducible refine Below.setCell ?_ ?_ _ | with_reducible refine Below.alloc ?_ ?_ _ | with_reducible refine Below.drew ?_ | omega | (simp; done) | (simp; omega)))
  have nod0 := nod.below b20 (Nat.le_refl _)
  have HK : Hid (∀ W, Below W0.heap.size W0 W → Below W0.heap.size W0 W ∧ (W.cell? ⟨w2.heap.size, 0, none⟩ = some (.int .i64 i) ∧ W.cell? ⟨w2.heap.size, 1, none⟩ = some (.int .i64 b) ∧ W.cell? ⟨w2.heap.size, 2, none⟩ = some (.int .i64 2) ∧ W.cell? ⟨w2.heap.size, 3, none⟩ = some (.slice a 1 c))) := Lib.hid fun W hb => by
    rw [← hb.block _ (by omega)] at t0
    obtain ⟨z0_0, z0_1, z0_2, z0_3, -⟩ := box4 t0
    exact ⟨hb, ⟨z0_0, z0_1, z0_2, z0_3⟩⟩
  have HS : Hid (∀ W u, (Below W0.heap.size W0 W ∧ (W.cell? ⟨w2.heap.size, 0, none⟩ = some (.int .i64 i) ∧ W.cell? ⟨w2.heap.size, 1, none⟩ = some (.int .i64 b) ∧ W.cell? ⟨w2.heap.size, 2, none⟩ = some (.int .i64 2) ∧ W.cell? ⟨w2.heap.size, 3, none⟩ = some (.slice a 1 c))) → Below W.heap.size W u → Below W0.heap.size W0 u) := Lib.hid fun W u h hb => h.1.trans (hb.mono h.1.size)
  have H2 : Hid (∀ W b' d, Nods W b' d [Nod.root] → (Below W0.heap.size W0 W ∧ (W.cell? ⟨w2.heap.size, 0, none⟩ = some (.int .i64 i) ∧ W.cell? ⟨w2.heap.size, 1, none⟩ = some (.int .i64 b) ∧ W.cell? ⟨w2.heap.size, 2, none⟩ = some (.int .i64 2) ∧ W.cell? ⟨w2.heap.size, 3, none⟩ = some (.slice a 1 c))) → Calls Try.prog 11 #[.agg #[.int .i64 i, .int .i64 b, .int .i64 2, .slice a 1 c], .agg #[.int .i64 i, .int .i64 b, .int .i64 2, .slice b' 1 d]] W fun e w' => e = .returned (.bool true) ∧ Below W.heap.size W w') := Lib.hid fun W b' d h5 h6 => by
    have := rsame_walk i b 2 i b 2 [Nod.root] [Nod.root] a b' c d W (nod0.below h6.1 (Nat.le_refl _)) h5
    rw [beq_self_eq_true, beq_self_eq_true, likes_self] at this
    exact this
  have hb0 : Below w.heap.size w W0 := hB20.trans (b20.mono hB20.size)
  have hBs := hb0.size
  have HW := Lib.hid hW0
  clear hW0 t0 own nod nod0 b20 hB1 hB2 hB20 hs0
  go_wp2
  rw [← HW.out]
  go_region_held3 (fun W => Below W0.heap.size W0 W ∧ (W.cell? ⟨w2.heap.size, 0, none⟩ = some (.int .i64 i) ∧ W.cell? ⟨w2.heap.size, 1, none⟩ = some (.int .i64 b) ∧ W.cell? ⟨w2.heap.size, 2, none⟩ = some (.int .i64 2) ∧ W.cell? ⟨w2.heap.size, 3, none⟩ = some (.slice a 1 c))) ((refine HK.out _ ?_; (repeat' (first | with_reducible assumption | with_reducible exact Below.refl _ _ | with_reducible refine Below.setCell ?_ ?_ _ | with_reducible refine Below.alloc ?_ ?_ _ | with_reducible refine Below.drew ?_ | omega | (simp; done) | (simp; omega))))) (first | (go_at_call 12; refine (HR.out _).mono ?_; rintro e u1 ⟨vr, rfl, ownr, hBv1⟩; have hBu1 := HS.out _ _ (by assumption) hBv1; clear hBv1; obtain ⟨ar, cr, hvr⟩ : ∃ a c, vr = .slice a 1 c := ownr.slice; subst hvr; have nodr := Lib.hid (Nods.bare u1 ar cr [Nod.root] (v := .slice ar 1 cr) ownr (by simp [Nod.root]) (by simp [Nod.root])); clear ownr; unfold FsVal) | (go_at_call 11; refine (H2.out _ _ _ nodr.out (by assumption)).mono ?_; rintro e u2 ⟨rfl, hBv2⟩; have hBu2 := HS.out _ _ (by assumption) hBv2; clear hBv2))
  go_wp2
  go_ret
  exact ⟨rfl, hb0.trans (hBu2.mono hBs)⟩
theorem news_walk (i b : Int) (w : World) : Calls Try.prog 3 #[.int .i64 i, .int .i64 b] w fun e w' => e = .returned (.bool true) ∧ Below w.heap.size w w' := by
  by_cases h : 1 ≤ i ∧ i ≤ 1073741824 ∧ 0 ≤ b ∧ b ≤ 1073741824
  · exact news_ok i b w h.1 h.2.1 h.2.2.1 h.2.2.2
  · exact news_bad i b w h
end Go.Proofs.Yteaemnjomlcfcaa.Tab
