/- Walks of layer 1's first laws, and of the answers that keep them awake: each answers true. Condition: lengths that Go knows. -/
import Derived.Test.YtgdkeolmgpimaaaQuoteWalk8
import Derived.Test.YtgdkeolmgpimaaaR01Same
import Derived.Test.YtgdkeolmgpimaaaR01Few
namespace Go.Proofs.Ytgdkeolmgpimaaa
open Go.RowKit
namespace QuoteLaws
open Kit QuotePlain QuoteWalk
theorem split_walk (s : ByteArray) (w : World) (hs : s.size ≤ 549755813888) : Calls Try.prog 16 #[.string s] w (SplitPost (splitW (toL s)) w.heap.size w) := by
  by_cases h : s.size = 0
  · exact split_nil s w h
  · have h0 : splitW (toL s) = split1 (toL s) := by
      rw [splitW, if_neg]; intro e; rw [← size_toL, e] at h; exact h rfl
    rw [h0]; exact split_some s w hs (by omega)
theorem refSplit_walk (s : ByteArray) (w : World) (hs : s.size ≤ 274877906944) : Calls Try.prog 17 #[.string s] w (SplitPost (splitW (toL s)) w.heap.size w) := by
  by_cases h : s.size = 0
  · exact refSplit_nil s w h
  · have h0 : splitW (toL s) = cut (toL s) [] false := by
      rw [cut_eq, splitW, if_neg]; intro e; rw [← size_toL, e] at h; exact h rfl
    rw [h0]; exact refSplit_some s w hs (by omega)
def blank : ByteArray := ⟨#[32]⟩
theorem joinQ_walk (xs : List ByteArray) (v : Value) (w : World) (hS : Strs w v xs) (hN : xs.length ≤ 140737488355328) (hlen : (join blank xs).size ≤ 140737488355328) :
    Calls Try.prog 20 #[v] w fun e w' => e = .returned (.string (join blank xs)) ∧ Below w.heap.size w w' := by
  have hj : Calls Try.prog 27 #[v, .string blank] w fun e w' => e = .returned (.string (join blank xs)) ∧ Below w.heap.size w w' := by
    obtain ⟨a, cap, rfl, h1, h2, h3⟩ := hS
    rcases h3 with rfl | ⟨b, o, rfl, hb, hc⟩
    · exact (Try.strings_Join_none a cap blank w).mono fun e w' ⟨h1, h2⟩ => ⟨h1, h2 ▸ Below.refl _ _⟩
    · exact (Try.strings_Join b o cap xs blank w (fun j x hj => by
        have hl : j < xs.length := by
          rcases Nat.lt_or_ge j xs.length with h | h
          · exact h
          · simp [List.getElem?_eq_none h] at hj
        rw [hc j hl, List.getD_eq_getElem?_getD, hj]; rfl) hb hN h1 (by rw [← size_toL, join, toL] at hlen; simpa using hlen)).mono fun e w' h => h
  go_enter Try.func20, Try.ntmps20
  go_wp2_with (go_at_call 27; refine hj.mono ?_; rintro e w' ⟨rfl, hb⟩)
  go_ret
  exact ⟨rfl, hb⟩
theorem strs_two {w : World} {v : Value} {x y : ByteArray} (h : Strs w v [x, y]) : ∃ b o cap, v = .slice (some ⟨b, o, none⟩) 2 cap := by
  obtain ⟨a, cap, rfl, h1, h2, h3⟩ := h
  rcases h3 with h3 | ⟨b, o, rfl, h4, h5⟩
  · cases h3
  · exact ⟨b, o, cap, rfl⟩
theorem strs_cells {w : World} {b o cap : Nat} {x y : ByteArray} (h : Strs w (.slice (some ⟨b, o, none⟩) 2 cap) [x, y]) : w.cell? ⟨b, o, none⟩ = some (.string x) ∧ w.cell? ⟨b, o + 1, none⟩ = some (.string y) := by
  obtain ⟨a, cap', e, h1, h2, h3⟩ := h
  rcases h3 with h3 | ⟨b', o', e', h4, h5⟩
  · cases h3
  · simp only [Value.slice.injEq] at e
    obtain ⟨e1, _, _⟩ := e
    rw [e'] at e1
    simp only [Option.some.injEq, Addr.mk.injEq, and_true] at e1
    obtain ⟨rfl, rfl⟩ := e1
    exact ⟨h5 0 (Nat.succ_pos _), h5 1 (Nat.lt_succ_self _)⟩
theorem strs_nil {w : World} {v : Value} (h : Strs w v []) : ∃ a cap, v = .slice a 0 cap := by
  obtain ⟨a, cap, rfl, _⟩ := h; exact ⟨a, cap, rfl⟩
set_option maxRecDepth 100000 in
set_option maxHeartbeats 2000000 in
theorem awake_walk (w : World) : Calls Try.prog 9 #[] w fun e w' => e = .returned (.bool true) ∧ Below w.heap.size w w' := by
  go_enter Try.func9, Try.ntmps9
  go_wp2_with fail
  refine (unquote_walk _ _ (by decide)).mono ?_
  rintro e w1 ⟨rfl, b1⟩
  rw [show unq (toL ⟨#[34, 97, 32, 98, 92, 120, 48, 97, 34]⟩) = some [97, 32, 98, 10] from by kernel_rfl]
  simp only [uTxt, Option.isSome]
  rw [show ofL [97, 32, 98, 10] = ⟨#[97, 32, 98, 10]⟩ from rfl]
  go_wp2_with fail
  refine (unquote_walk _ _ (by decide)).mono ?_
  rintro e w2 ⟨rfl, b2⟩
  rw [show unq (toL ⟨#[34, 92, 120, 52, 49, 34]⟩) = none from by kernel_rfl]
  simp only [uTxt, Option.isSome]
  go_wp2_with fail
  refine (unquote_walk _ _ (by decide)).mono ?_
  rintro e w3 ⟨rfl, b3⟩
  rw [show unq (toL ⟨#[97]⟩) = none from by kernel_rfl]
  simp only [uTxt, Option.isSome]
  go_wp2_with fail
  refine (split_walk _ _ (by decide)).mono ?_
  rintro e w4 ⟨v4, rfl, s4, b4⟩
  have h4 : splitW (toL ⟨#[109, 107, 100, 105, 114, 32, 34, 47, 97, 32, 98, 34]⟩) = some [[109, 107, 100, 105, 114], [34, 47, 97, 32, 98, 34]] := by kernel_rfl
  rw [h4] at s4 ⊢
  have s4 : Strs w4 v4 [⟨#[109, 107, 100, 105, 114]⟩, ⟨#[34, 47, 97, 32, 98, 34]⟩] := s4
  obtain ⟨bb, oo, cap, rfl⟩ := strs_two s4
  have s4' := Lib.hid s4
  clear s4 h4
  simp only [Option.isSome]
  go_wp2_with fail
  refine (split_walk _ _ (by decide)).mono ?_
  rintro e w5 ⟨v5, rfl, s5, b5⟩
  have h5 : splitW (toL ⟨#[97, 32, 32, 98]⟩) = none := by kernel_rfl
  rw [h5] at s5 ⊢
  clear h5 s5
  simp only [Option.isSome]
  go_wp2_with fail
  refine (split_walk _ _ (by decide)).mono ?_
  rintro e w6 ⟨v6, rfl, s6, b6⟩
  have h6 : splitW (toL ⟨#[]⟩) = some [] := by kernel_rfl
  rw [h6] at s6 ⊢
  obtain ⟨a6, cap6, rfl⟩ := strs_nil s6
  clear h6 s6
  simp only [Option.isSome]
  go_wp2_with fail
  refine (quote_walk _ _ (by decide)).mono ?_
  rintro e w7 ⟨rfl, b7⟩
  rw [show ofL (quoteL (toL ⟨#[97, 32, 98, 10]⟩)) = ⟨#[34, 97, 32, 98, 92, 120, 48, 97, 34]⟩ from by kernel_rfl]
  have e14 : Below w.heap.size w w4 := ((b1.trans (b2.mono b1.size)).trans (b3.mono (b1.trans (b2.mono b1.size)).size)).trans (b4.mono ((b1.trans (b2.mono b1.size)).trans (b3.mono (b1.trans (b2.mono b1.size)).size)).size)
  have e47 : Below w4.heap.size w4 w7 := (b5.trans (b6.mono b5.size)).trans (b7.mono (b5.trans (b6.mono b5.size)).size)
  have s7 := Lib.hid (Strs.below s4'.out e47 (Nat.le_refl _))
  have c7 := strs_cells s7.out
  obtain ⟨c70, c71⟩ := c7
  have e17 : Below w.heap.size w w7 := e14.trans (e47.mono e14.size)
  clear b1 b2 b3 b4 b5 b6 b7 e14 e47 s4'
  go_wp2_with fail
  refine (joinQ_walk [⟨#[109, 107, 100, 105, 114]⟩, ⟨#[34, 47, 97, 32, 98, 34]⟩] _ _ s7.out (by decide) (by decide)).mono ?_
  rintro e w8 ⟨rfl, b8⟩
  rw [show join blank [⟨#[109, 107, 100, 105, 114]⟩, ⟨#[34, 47, 97, 32, 98, 34]⟩] = ⟨#[109, 107, 100, 105, 114, 32, 34, 47, 97, 32, 98, 34]⟩ from by kernel_rfl]
  go_wp2_with fail
  refine (plain_walk _ _ (by decide)).mono ?_
  rintro e w' ⟨rfl, rfl⟩
  rw [show plainL (toL ⟨#[97, 92]⟩) = true from by kernel_rfl]
  go_wp2_with fail
  refine (plain_walk _ _ (by decide)).mono ?_
  rintro e w' ⟨rfl, rfl⟩
  rw [show plainL (toL ⟨#[]⟩) = false from by kernel_rfl]
  go_wp2_with fail
  refine (plain_walk _ _ (by decide)).mono ?_
  rintro e w' ⟨rfl, rfl⟩
  rw [show plainL (toL ⟨#[97, 32, 98]⟩) = false from by kernel_rfl]
  go_wp2
  go_ret
  exact ⟨rfl, e17.trans (b8.mono e17.size)⟩
theorem puts_walk (s : ByteArray) (w : World) : Calls Try.prog 3 #[.string s] w fun e w' => e = .returned (.bool true) ∧ Below w.heap.size w w' := by
  by_cases h : s.size ≤ 1000
  · have hi : ¬ (1000 : Int) < (s.size : Int) := by omega
    go_enter Try.func3, Try.ntmps3
    go_wp2_with fail
    refine (awake_walk _).mono ?_
    rintro e w1 ⟨rfl, b1⟩
    go_wp2_with fail
    refine (quote_walk s _ (by omega)).mono ?_
    rintro e w2 ⟨rfl, b2⟩
    go_wp2_with fail
    refine (refQuote_walk s _ (by omega)).mono ?_
    rintro e w3 ⟨rfl, b3⟩
    have hq := seq_true (rfl : ofL (quoteL (toL s)) = ofL (quoteL (toL s)))
    generalize ofL (quoteL (toL s)) = q at *
    go_wp2_with fail
    refine (plain_walk s _ (by omega)).mono ?_
    rintro e w' ⟨rfl, rfl⟩
    go_wp2_with fail
    refine (refPlain_walk s _ (by omega)).mono ?_
    rintro e w' ⟨rfl, rfl⟩
    generalize plainL (toL s) = p
    go_wp2
    go_ret
    exact ⟨ret_bool (by simp), (b1.trans (b2.mono b1.size)).trans (b3.mono (b1.trans (b2.mono b1.size)).size)⟩
  · have hi : (1000 : Int) < (s.size : Int) := by omega
    go_enter Try.func3, Try.ntmps3
    go_wp2_with fail
    refine (awake_walk _).mono ?_
    rintro e w1 ⟨rfl, b1⟩
    go_wp2_with fail
    refine (awake_walk _).mono ?_
    rintro e w2 ⟨rfl, b2⟩
    go_wp2
    go_ret
    exact ⟨rfl, b1.trans (b2.mono b1.size)⟩
theorem reads_walk (s : ByteArray) (w : World) : Calls Try.prog 4 #[.string s] w fun e w' => e = .returned (.bool true) ∧ Below w.heap.size w w' := by
  by_cases h : s.size ≤ 1000
  · have hi : ¬ (1000 : Int) < (s.size : Int) := by omega
    go_enter Try.func4, Try.ntmps4
    go_wp2_with fail
    refine (awake_walk _).mono ?_
    rintro e w1 ⟨rfl, b1⟩
    go_wp2_with fail
    refine (unquote_walk s _ (by omega)).mono ?_
    rintro e w2 ⟨rfl, b2⟩
    have hu := seq_true (rfl : uTxt (unq (toL s)) = uTxt (unq (toL s)))
    go_wp2_with fail
    refine (refUnquote_walk s _ (by omega)).mono ?_
    rintro e w3 ⟨rfl, b3⟩
    rw [runq_eq]
    generalize uTxt (unq (toL s)) = q at *
    generalize (unq (toL s)).isSome = p
    go_wp2
    go_ret
    exact ⟨ret_bool (by simp), (b1.trans (b2.mono b1.size)).trans (b3.mono (b1.trans (b2.mono b1.size)).size)⟩
  · have hi : (1000 : Int) < (s.size : Int) := by omega
    go_enter Try.func4, Try.ntmps4
    go_wp2_with fail
    refine (awake_walk _).mono ?_
    rintro e w1 ⟨rfl, b1⟩
    go_wp2_with fail
    refine (awake_walk _).mono ?_
    rintro e w2 ⟨rfl, b2⟩
    go_wp2
    go_ret
    exact ⟨rfl, b1.trans (b2.mono b1.size)⟩
theorem splits_walk (s : ByteArray) (w : World) : Calls Try.prog 5 #[.string s] w fun e w' => e = .returned (.bool true) ∧ Below w.heap.size w w' := by
  by_cases h : s.size ≤ 1000
  · have hi : ¬ (1000 : Int) < (s.size : Int) := by omega
    go_enter Try.func5, Try.ntmps5
    go_wp2_with fail
    refine (awake_walk _).mono ?_
    rintro e w1 ⟨rfl, b1⟩
    go_wp2_with fail
    refine (split_walk s _ (by omega)).mono ?_
    rintro e w2 ⟨v2, rfl, s2, b2⟩
    have s2' := Lib.hid s2
    clear s2
    go_wp2_with fail
    refine (refSplit_walk s _ (by omega)).mono ?_
    rintro e w3 ⟨v3, rfl, s3, b3⟩
    have s3' := Lib.hid s3
    clear s3
    go_wp2_with fail
    refine (R01Same.same_walk _ _ _ _ _ (Strs.below s2'.out b3 (Nat.le_refl _)) s3'.out).mono ?_
    rintro e w4 ⟨rfl, b4⟩
    rw [show decide (List.map ofL ((splitW (toL s)).getD []) = List.map ofL ((splitW (toL s)).getD [])) = true from decide_eq_true rfl]
    generalize (splitW (toL s)).isSome = p
    have e13 := (b1.trans (b2.mono b1.size)).trans (b3.mono (b1.trans (b2.mono b1.size)).size)
    go_wp2
    go_ret
    exact ⟨ret_bool (by simp), e13.trans (b4.mono e13.size)⟩
  · have hi : (1000 : Int) < (s.size : Int) := by omega
    go_enter Try.func5, Try.ntmps5
    go_wp2_with fail
    refine (awake_walk _).mono ?_
    rintro e w1 ⟨rfl, b1⟩
    go_wp2_with fail
    refine (awake_walk _).mono ?_
    rintro e w2 ⟨rfl, b2⟩
    go_wp2
    go_ret
    exact ⟨rfl, b1.trans (b2.mono b1.size)⟩
end QuoteLaws
end Go.Proofs.Ytgdkeolmgpimaaa
