/- Walks of layer 1's last three laws: what is quoted comes back, lines come back, and a line with one blank more is none. Condition: lengths that Go knows. -/
import Derived.Test.YtgdkeolmgpimaaaQuoteLaws
import Derived.Test.YtgdkeolmgpimaaaQuotePlain3
namespace Go.Proofs.Ytgdkeolmgpimaaa
open Go.RowKit
namespace QuoteLaws
open Kit QuotePlain QuoteWalk R01Few
theorem back_no (s t : ByteArray) (w : World) (h : ¬ (s.size ≤ 1000 ∧ t.size ≤ 1000)) : Calls Try.prog 6 #[.string s, .string t] w fun e w' => e = .returned (.bool true) ∧ Below w.heap.size w w' := by
  by_cases hs : s.size ≤ 1000
  · have h1 : ¬ (1000 : Int) < (s.size : Int) := by omega
    have h2 : (1000 : Int) < (t.size : Int) := by omega
    clear h
    go_enter Try.func6, Try.ntmps6
    go_wp2_with fail
    refine (awake_walk _).mono ?_
    rintro e w1 ⟨rfl, b1⟩
    go_wp2_with fail
    refine (awake_walk _).mono ?_
    rintro e w2 ⟨rfl, b2⟩
    go_wp2
    go_ret
    exact ⟨rfl, b1.trans (b2.mono b1.size)⟩
  · have h1 : (1000 : Int) < (s.size : Int) := by omega
    clear h
    go_enter Try.func6, Try.ntmps6
    go_wp2_with fail
    refine (awake_walk _).mono ?_
    rintro e w1 ⟨rfl, b1⟩
    go_wp2_with fail
    refine (awake_walk _).mono ?_
    rintro e w2 ⟨rfl, b2⟩
    go_wp2
    go_ret
    exact ⟨rfl, b1.trans (b2.mono b1.size)⟩
theorem quote_size (s : ByteArray) (h : s.size ≤ 1000) : (ofL (quoteL (toL s))).size ≤ 4002 := by
  have := mid_len (toL s)
  rw [size_toL] at this
  rw [size_ofL, quoteL]
  simp only [List.length_cons, List.length_append, List.length_nil]; omega
set_option maxHeartbeats 1000000 in
theorem back_yes (s t : ByteArray) (w : World) (h : s.size ≤ 1000) (h2 : t.size ≤ 1000) : Calls Try.prog 6 #[.string s, .string t] w fun e w' => e = .returned (.bool true) ∧ Below w.heap.size w w' := by
  have hi : ¬ (1000 : Int) < (s.size : Int) := by omega
  have hi2 : ¬ (1000 : Int) < (t.size : Int) := by omega
  have hqs := quote_size s h
  have hu : unq (toL (ofL (quoteL (toL s)))) = some (toL s) := by rw [toL_ofL]; exact (unq_iff _ _).2 rfl
  have hsig := Lib.hid (quoteL_signs (toL s))
  have hqq : ((ofL (quoteL (toL s))).toList == (ofL (quoteL (toL t))).toList) = (s.toList == t.toList) := by
    rw [seq_dec, seq_dec]
    apply decide_eq_decide.2
    constructor
    · intro e; exact toL_inj (quoteL_inj (by rw [← toL_ofL (quoteL (toL s)), e, toL_ofL]))
    · rintro rfl; rfl
  have hqq' := Lib.hid hqq
  have hqu := unquote_walk (ofL (quoteL (toL s)))
  rw [hu] at hqu
  have hqu' := Lib.hid hqu
  have hat : ∀ k (hk : k < (ofL (quoteL (toL s))).size), (ofL (quoteL (toL s)))[k] ∈ quoteL (toL s) := by
    intro k hk
    have h1 := toL_get (ofL (quoteL (toL s))) k hk
    rw [toL_ofL] at h1
    exact List.mem_of_getElem? h1
  have hat' := Lib.hid hat
  have hss := seq_true (rfl : s = s)
  clear hu hqu hat hqq
  go_enter Try.func6, Try.ntmps6
  go_wp2_with fail
  refine (awake_walk _).mono ?_
  rintro e w1 ⟨rfl, b1⟩
  go_wp2_with fail
  refine (quote_walk s _ (by omega)).mono ?_
  rintro e w2 ⟨rfl, b2⟩
  go_wp2_with fail
  refine (hqu'.out _ (by omega)).mono ?_
  rintro e w3 ⟨rfl, b3⟩
  simp only [uTxt, Option.isSome]
  rw [ofL_toL]
  go_wp2_with fail
  refine (quote_walk t _ (by omega)).mono ?_
  rintro e w4 ⟨rfl, b4⟩
  have e12 := b1.trans (b2.mono b1.size)
  have e13 := e12.trans (b3.mono e12.size)
  have e14 := e13.trans (b4.mono e13.size)
  clear b1 b2 b3 b4 e12 e13
  generalize hq : ofL (quoteL (toL s)) = q at *
  generalize ofL (quoteL (toL t)) = r at *
  have hq' := Lib.hid hq
  have hqq := hqq'.out
  clear hq hqu' hqq'
  go_wp2
  go_loop [8] (fun i => ∃ k : Nat, k ≤ q.size ∧ i = .int .i64 k) (fun i => q.size - (intOf i).toNat)
  case atStart => exact ⟨0, by omega, rfl⟩
  case round =>
    obtain ⟨k, hk, rfl⟩ := hrel
    by_cases hlt : k < q.size
    · obtain ⟨c, hc⟩ : ∃ c, q[k]'hlt = c := ⟨_, rfl⟩
      obtain ⟨g1, g2⟩ := hsig.out c (by rw [← hc]; exact hat'.out k hlt)
      have g1' : ¬ (c.toNat : Int) < 32 := by omega
      have g2' : ¬ 126 < (c.toNat : Int) := by omega
      go_wp2
      go_round
      case rel => exact ⟨k + 1, by omega, by go_num⟩
      case measure => simp [intOf]; omega
    · have hlt' : ¬ (k : Int) < (q.size : Int) := by omega
      clear hqq
      go_wp2_with fail
      refine (unquote_walk t _ (by omega)).mono ?_
      rintro e w5 ⟨rfl, b5⟩
      have e15 := e14.trans (b5.mono e14.size)
      cases hut : unq (toL t) with
      | none =>
        simp only [uTxt, Option.isSome]
        go_wp2
        go_ret
        exact ⟨rfl, e15⟩
      | some x =>
        have hx := (unq_iff _ _).1 hut
        have hxl : (ofL x).size ≤ 1000 := by
          have h3 := congrArg List.length hx
          rw [size_toL, quoteL] at h3
          simp only [List.length_cons, List.length_append, List.length_nil] at h3
          have h4 : x.length ≤ (mid x).length := by
            clear hut hx h3
            induction x with
            | nil => simp
            | cons c x ih =>
              have := qb_pos c
              simp only [mid, List.flatMap_cons, List.length_append, List.length_cons] at ih ⊢; omega
          rw [size_ofL]; omega
        have hx' := Lib.hid hx
        clear hut hx
        simp only [uTxt, Option.isSome]
        go_wp2_with fail
        refine (quote_walk (ofL x) _ (by omega)).mono ?_
        rintro e w6 ⟨rfl, b6⟩
        rw [toL_ofL, ← hx'.out, ofL_toL]
        go_wp2
        go_ret
        exact ⟨ret_bool (by simp), e15.trans (b6.mono e15.size)⟩
theorem back_walk (s t : ByteArray) (w : World) : Calls Try.prog 6 #[.string s, .string t] w fun e w' => e = .returned (.bool true) ∧ Below w.heap.size w w' := by
  by_cases h : s.size ≤ 1000 ∧ t.size ≤ 1000
  · exact back_yes s t w h.1 h.2
  · exact back_no s t w h
end QuoteLaws
end Go.Proofs.Ytgdkeolmgpimaaa
