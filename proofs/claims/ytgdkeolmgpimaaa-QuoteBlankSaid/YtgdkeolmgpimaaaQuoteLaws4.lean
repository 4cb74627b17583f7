/- The walk of QuoteBlank: with one blank more, between, ahead or behind, a line is none. Condition: the slice reads as texts. -/
import Derived.Test.YtgdkeolmgpimaaaQuoteLaws3
namespace Go.Proofs.Ytgdkeolmgpimaaa
open Go.RowKit
namespace QuoteLaws
open Kit QuotePlain QuoteWalk R01Few
theorem blank_nofew (xs : List ByteArray) (v : Value) (a : Int) (w : World) (hS : Strs w v xs) (hF : few xs = false) : Calls Try.prog 8 #[v, .int .u8 a] w fun e w' => e = .returned (.bool true) ∧ Below w.heap.size w w' := by
  have hS' := Lib.hid hS
  have hF' := Lib.hid hF
  clear hS hF
  go_enter Try.func8, Try.ntmps8
  go_wp2_with fail
  refine (awake_walk _).mono ?_
  rintro e w1 ⟨rfl, b1⟩
  go_wp2_with fail
  refine (few_walk xs _ _ (Strs.below hS'.out b1 (Nat.le_refl _))).mono ?_
  rintro e w' ⟨rfl, rfl⟩
  rw [hF'.out]
  go_wp2_with fail
  refine (awake_walk _).mono ?_
  rintro e w2 ⟨rfl, b2⟩
  go_wp2
  go_ret
  exact ⟨rfl, b1.trans (b2.mono b1.size)⟩
theorem blank_empty (v : Value) (a : Int) (w : World) (hS : Strs w v []) : Calls Try.prog 8 #[v, .int .u8 a] w fun e w' => e = .returned (.bool true) ∧ Below w.heap.size w w' := by
  have hS' := Lib.hid hS
  obtain ⟨ad, cap, rfl⟩ := strs_nil hS
  clear hS
  go_enter Try.func8, Try.ntmps8
  go_wp2_with fail
  refine (awake_walk _).mono ?_
  rintro e w1 ⟨rfl, b1⟩
  go_wp2_with fail
  refine (few_walk [] _ _ (Strs.below hS'.out b1 (Nat.le_refl _))).mono ?_
  rintro e w' ⟨rfl, rfl⟩
  rw [show few [] = true from by decide]
  go_wp2_with fail
  refine (awake_walk _).mono ?_
  rintro e w2 ⟨rfl, b2⟩
  go_wp2
  go_ret
  exact ⟨rfl, b1.trans (b2.mono b1.size)⟩
def QQ (xs : List ByteArray) : List Bs := (xs.map toL).map quoteL
theorem QQ_length (xs : List ByteArray) : (QQ xs).length = xs.length := by simp [QQ]
theorem QQ_getD (xs : List ByteArray) (k : Nat) (h : k < xs.length) : (QQ xs).getD k [] = quoteL (toL (xs.getD k ⟨#[]⟩)) := by
  have h1 : k < (QQ xs).length := by rw [QQ_length]; exact h
  rw [List.getD_eq_getElem?_getD, List.getElem?_eq_getElem h1, List.getD_eq_getElem?_getD, List.getElem?_eq_getElem h]
  simp [QQ]
theorem bl_size (xs : List ByteArray) (hx : ∀ x ∈ xs, x.size ≤ 300) (n : Nat) : ∀ k, k ≤ xs.length → (bl (QQ xs) n k).length ≤ k * 1204
  | 0, _ => by simp [bl]
  | k + 1, h => by
    have ih := bl_size xs hx n k (by omega)
    have h1 := getD_size xs hx k (by omega)
    have h2 := quote_len (toL (xs.getD k ⟨#[]⟩)) (by rw [size_toL]; exact h1)
    rw [bl, QQ_getD xs k (by omega)]
    simp only [List.length_append]
    have h3 : (if k = n then ([32] : Bs) else []).length ≤ 1 := by split <;> simp
    have h4 : (if k + 1 < (QQ xs).length ∨ n = (QQ xs).length then ([32] : Bs) else []).length ≤ 1 := by split <;> simp
    omega
theorem bl_succ (xs : List ByteArray) (n k : Nat) (h : k < xs.length) (A B : Bs) (hA : (if k = n then ([32] : Bs) else []) = A) (hB : (if k + 1 < xs.length ∨ n = xs.length then ([32] : Bs) else []) = B) :
    bl (QQ xs) n (k + 1) = ((bl (QQ xs) n k ++ A) ++ quoteL (toL (xs.getD k ⟨#[]⟩))) ++ B := by
  rw [bl, QQ_getD xs k h, QQ_length, hA, hB]
set_option maxRecDepth 100000 in
set_option maxHeartbeats 4000000 in
theorem blank_yes (xs : List ByteArray) (v : Value) (a : Nat) (ha : a ≤ 255) (w : World) (hS : Strs w v xs) (hF : few xs = true) (h0 : xs ≠ []) : Calls Try.prog 8 #[v, .int .u8 (a : Int)] w fun e w' => e = .returned (.bool true) ∧ Below w.heap.size w w' := by
  have hx := Lib.hid (few_size hF)
  have hN := few_len hF
  have hF' := Lib.hid hF
  have hS' := Lib.hid hS
  have hpos : 0 < xs.length := List.length_pos_iff.2 h0
  obtain ⟨ad, cap, rfl, hl1, hl2, hl3⟩ := hS
  have hE := Lib.hid hl3
  have hne : ((xs.length : Int) == 0) = false := by rw [beq_eq_false_iff_ne]; omega
  obtain ⟨n, hn⟩ : ∃ n, a % (xs.length + 1) = n := ⟨_, rfl⟩
  have hnle : n ≤ xs.length := by have := Nat.mod_lt a (show 0 < xs.length + 1 by omega); omega
  have hn1 : (a : Int) % ((xs.length : Int) + 1) = (n : Int) := by rw [← hn]; rfl
  have hn2 : (a : Int).tmod ((xs.length : Int) + 1) = (n : Int) := by rw [Int.tmod_eq_emod_of_nonneg (by omega)]; exact hn1
  have hlast := Lib.hid (show splitW (bl (QQ xs) n xs.length) = none by
    have h1 := bl_split (xs.map toL) n (by rw [List.length_map]; exact hnle) (by simpa using h0)
    have h2 := bl_ne (xs.map toL) n (by simpa using h0)
    rw [List.length_map] at h1 h2
    show (if bl ((xs.map toL).map quoteL) n xs.length = [] then some [] else split1 (bl ((xs.map toL).map quoteL) n xs.length)) = none
    rw [if_neg h2]; exact h1)
  clear hF hl1 hl2 hl3 h0 hn
  go_enter Try.func8, Try.ntmps8
  go_wp2_with fail
  refine (awake_walk _).mono ?_
  rintro e w1 ⟨rfl, b1⟩
  go_wp2_with fail
  refine (few_walk xs _ _ (Strs.below hS'.out b1 (Nat.le_refl _))).mono ?_
  rintro e w' ⟨rfl, rfl⟩
  rw [hF'.out]
  clear hS'
  go_wp2
  clear hn1 hn2
  go_loopw [6, 7] (fun s i wr => ∃ k : Nat, k ≤ xs.length ∧ i = .int .i64 k ∧ s = .string (ofL (bl (QQ xs) n k)) ∧ Below w.heap.size w wr) (fun _ i _ => xs.length - (intOf i).toNat)
  case atStart => exact ⟨0, by omega, rfl, rfl, b1⟩
  case round =>
    obtain ⟨k, hk, rfl, rfl, hB⟩ := hrel
    clear b1
    have hsz := bl_size xs hx.out n k hk
    have hsz' : (ofL (bl (QQ xs) n k)).size ≤ 48160 := by rw [size_ofL]; omega
    by_cases hlt : k < xs.length
    · rcases hE.out with he | ⟨b, o, rfl, hbs, hc⟩
      · subst he; simp at hlt
      have hck := hc k hlt
      rw [← hB.cell (p := ⟨b, o + k, none⟩) hbs] at hck
      have hxk := getD_size xs hx.out k hlt
      have hql := quote_len (toL (xs.getD k ⟨#[]⟩)) (by rw [size_toL]; exact hxk)
      have hqs : (ofL (quoteL (toL (xs.getD k ⟨#[]⟩)))).size ≤ 1202 := by rw [size_ofL]; exact hql
      have hbs := bl_succ xs n k hlt
      have hbs' := Lib.hid hbs
      have h1s : (ofL [32] : ByteArray).size ≤ 1 := by rw [size_ofL]; exact Nat.le_refl _
      clear hc hbs hsz hql
      generalize hxx : xs.getD k ⟨#[]⟩ = x at *
      clear hxx
      generalize hs0 : bl (QQ xs) n k = s0 at *
      clear hs0
      by_cases h1 : k = n
      · have g1 : ((k : Int) == (n : Int)) = true := by rw [beq_iff_eq]; omega
        by_cases h2 : k + 1 < xs.length ∨ n = xs.length
        · have hb := Lib.hid (hbs'.out [32] [32] (if_pos h1) (if_pos h2))
          have g2 : (k : Int) + 1 < (xs.length : Int) := by omega
          clear h1 h2 hbs'
          generalize hS0 : ofL s0 = S0 at *
          have hS0' := Lib.hid hS0
          clear hS0
          go_wp2_with fail
          refine (quote_walk x _ (by omega)).mono ?_
          rintro e w2 ⟨rfl, b2⟩
          generalize hq : ofL (quoteL (toL x)) = q at *
          have hq' := Lib.hid hq
          clear hq
          go_wp2
          go_roundw
          case rel => exact ⟨k + 1, by omega, by go_num, by rw [hb.out, ← ofL_append, ← ofL_append, ← ofL_append, hS0'.out, hq'.out]; rfl, hB.trans (b2.mono hB.size)⟩
          case measure => simp [intOf]; omega
        · have hb := Lib.hid (hbs'.out [32] [] (if_pos h1) (if_neg h2))
          have g2 : ¬ (k : Int) + 1 < (xs.length : Int) := by omega
          have g3 : ((n : Int) == (xs.length : Int)) = false := by rw [beq_eq_false_iff_ne]; omega
          clear h1 h2 hbs'
          generalize hS0 : ofL s0 = S0 at *
          have hS0' := Lib.hid hS0
          clear hS0
          go_wp2_with fail
          refine (quote_walk x _ (by omega)).mono ?_
          rintro e w2 ⟨rfl, b2⟩
          generalize hq : ofL (quoteL (toL x)) = q at *
          have hq' := Lib.hid hq
          clear hq
          go_wp2
          go_roundw
          case rel => exact ⟨k + 1, by omega, by go_num, by rw [hb.out, List.append_nil, ← ofL_append, ← ofL_append, hS0'.out, hq'.out]; rfl, hB.trans (b2.mono hB.size)⟩
          case measure => simp [intOf]; omega
      · have g1 : ((k : Int) == (n : Int)) = false := by rw [beq_eq_false_iff_ne]; omega
        by_cases h2 : k + 1 < xs.length ∨ n = xs.length
        · have hb := Lib.hid (hbs'.out [] [32] (if_neg h1) (if_pos h2))
          by_cases h3 : k + 1 < xs.length
          · have g2 : (k : Int) + 1 < (xs.length : Int) := by omega
            clear h1 h2 h3 hbs'
            generalize hS0 : ofL s0 = S0 at *
            have hS0' := Lib.hid hS0
            clear hS0
            go_wp2_with fail
            refine (quote_walk x _ (by omega)).mono ?_
            rintro e w2 ⟨rfl, b2⟩
            generalize hq : ofL (quoteL (toL x)) = q at *
            have hq' := Lib.hid hq
            clear hq
            go_wp2
            go_roundw
            case rel => exact ⟨k + 1, by omega, by go_num, by rw [hb.out, List.append_nil, ← ofL_append, ← ofL_append, hS0'.out, hq'.out]; rfl, hB.trans (b2.mono hB.size)⟩
            case measure => simp [intOf]; omega
          · have g2 : ¬ (k : Int) + 1 < (xs.length : Int) := by omega
            have g3 : ((n : Int) == (xs.length : Int)) = true := by rw [beq_iff_eq]; omega
            clear h1 h2 h3 hbs'
            generalize hS0 : ofL s0 = S0 at *
            have hS0' := Lib.hid hS0
            clear hS0
            go_wp2_with fail
            refine (quote_walk x _ (by omega)).mono ?_
            rintro e w2 ⟨rfl, b2⟩
            generalize hq : ofL (quoteL (toL x)) = q at *
            have hq' := Lib.hid hq
            clear hq
            go_wp2
            go_roundw
            case rel => exact ⟨k + 1, by omega, by go_num, by rw [hb.out, List.append_nil, ← ofL_append, ← ofL_append, hS0'.out, hq'.out]; rfl, hB.trans (b2.mono hB.size)⟩
            case measure => simp [intOf]; omega
        · have hb := Lib.hid (hbs'.out [] [] (if_neg h1) (if_neg h2))
          have g2 : ¬ (k : Int) + 1 < (xs.length : Int) := by omega
          have g3 : ((n : Int) == (xs.length : Int)) = false := by rw [beq_eq_false_iff_ne]; omega
          clear h1 h2 hbs'
          generalize hS0 : ofL s0 = S0 at *
          have hS0' := Lib.hid hS0
          clear hS0
          go_wp2_with fail
          refine (quote_walk x _ (by omega)).mono ?_
          rintro e w2 ⟨rfl, b2⟩
          generalize hq : ofL (quoteL (toL x)) = q at *
          have hq' := Lib.hid hq
          clear hq
          go_wp2
          go_roundw
          case rel => exact ⟨k + 1, by omega, by go_num, by rw [hb.out, List.append_nil, List.append_nil, ← ofL_append, hS0'.out, hq'.out], hB.trans (b2.mono hB.size)⟩
          case measure => simp [intOf]; omega
    · obtain rfl : k = xs.length := by omega
      have hlti : ¬ (xs.length : Int) < (xs.length : Int) := by omega
      have hsp := split_walk (ofL (bl (QQ xs) n xs.length))
      rw [toL_ofL, hlast.out] at hsp
      generalize ofL (bl (QQ xs) n xs.length) = S0 at *
      have hsp' := Lib.hid hsp
      clear hsp hlast hlt hE
      go_wp2_with fail
      refine (hsp'.out _ (by omega)).mono ?_
      rintro e w2 ⟨v2, rfl, s2, b2⟩
      obtain ⟨a2, cap2, rfl⟩ := strs_nil (show Strs w2 v2 [] from s2)
      simp only [Option.isSome]
      clear s2
      go_wp2
      go_ret
      exact ⟨rfl, hB.trans (b2.mono hB.size)⟩
theorem blank_walk (xs : List ByteArray) (v : Value) (a : Int) (w : World) (hS : Strs w v xs) (ha : (Lit.int .u8 a).wf = true) : Calls Try.prog 8 #[v, .int .u8 a] w fun e w' => e = .returned (.bool true) ∧ Below w.heap.size w w' := by
  cases h : few xs with
  | false => exact blank_nofew xs v a w hS h
  | true =>
    by_cases h0 : xs = []
    · subst h0; exact blank_empty v a w hS
    · have hb : 0 ≤ a ∧ a ≤ 255 := by
        simp [Lit.wf, IntKind.min, IntKind.max, IntKind.signed, IntKind.bits] at ha
        omega
      obtain ⟨n, rfl⟩ := Int.eq_ofNat_of_zero_le hb.1
      exact blank_yes xs v n (by omega) w hS h h0
end QuoteLaws
end Go.Proofs.Ytgdkeolmgpimaaa
