/- Walks of layer 1's laws on lines: words that are joined are split as they were, and a line with one blank more is none. Condition: the slice reads as texts; lengths that Go knows. -/
import Derived.Test.YtgdkeolmgpimaaaQuoteLaws2
namespace Go.Proofs.Ytgdkeolmgpimaaa
open Go.RowKit
namespace QuoteLaws
open Kit QuotePlain QuoteWalk R01Few
theorem join_blanks (ws : List Bs) : join blank (ws.map ofL) = ofL (blanks ws) := by
  have h1 : (ws.map ofL).map (fun x => x.data.toList) = ws := by
    rw [List.map_map]
    have : (fun x => x.data.toList) ∘ ofL = id := by funext l; exact toL_ofL l
    rw [this, List.map_id]
  show ofL (Lib.join ((ws.map ofL).map (fun x => x.data.toList)) [32]) = _
  rw [h1]; rfl
theorem lines_nofew (xs : List ByteArray) (v : Value) (s : ByteArray) (w : World) (hS : Strs w v xs) (hF : few xs = false) : Calls Try.prog 7 #[v, .string s] w fun e w' => e = .returned (.bool true) ∧ Below w.heap.size w w' := by
  have hS' := Lib.hid hS
  have hF' := Lib.hid hF
  clear hS hF
  go_enter Try.func7, Try.ntmps7
  go_wp2_with fail
  refine (awake_walk _).mono ?_
  rintro e w1 ⟨rfl, b1⟩
  go_wp2_with fail
  refine (few_walk xs _ _ (Strs.below hS'.out b1 (Nat.le_refl _))).mono ?_
  rintro e w' ⟨rfl, rfl⟩
  rw [hF'.out]
  go_wp2_with fail
  refine (awake_walk _).mono ?_
  rintro e w2 ⟨rfl, b2⟩
  go_wp2
  go_ret
  exact ⟨rfl, b1.trans (b2.mono b1.size)⟩
theorem lines_long (xs : List ByteArray) (v : Value) (s : ByteArray) (w : World) (hS : Strs w v xs) (hF : few xs = true) (h : 1000 < s.size) : Calls Try.prog 7 #[v, .string s] w fun e w' => e = .returned (.bool true) ∧ Below w.heap.size w w' := by
  have hS' := Lib.hid hS
  have hF' := Lib.hid hF
  have hi : (1000 : Int) < (s.size : Int) := by omega
  clear hS hF
  go_enter Try.func7, Try.ntmps7
  go_wp2_with fail
  refine (awake_walk _).mono ?_
  rintro e w1 ⟨rfl, b1⟩
  go_wp2_with fail
  refine (few_walk xs _ _ (Strs.below hS'.out b1 (Nat.le_refl _))).mono ?_
  rintro e w' ⟨rfl, rfl⟩
  rw [hF'.out]
  go_wp2_with fail
  refine (awake_walk _).mono ?_
  rintro e w2 ⟨rfl, b2⟩
  go_wp2
  go_ret
  exact ⟨rfl, b1.trans (b2.mono b1.size)⟩
theorem toL_getD (xs : List ByteArray) (k : Nat) : (xs.map toL).getD k [] = toL (xs.getD k ⟨#[]⟩) := by
  rw [List.getD_eq_getElem?_getD, List.getD_eq_getElem?_getD, List.getElem?_map]
  cases xs[k]? <;> rfl
theorem getD_size (xs : List ByteArray) (hx : ∀ x ∈ xs, x.size ≤ 300) (k : Nat) (h : k < xs.length) : (xs.getD k ⟨#[]⟩).size ≤ 300 := by
  rw [List.getD_eq_getElem?_getD, List.getElem?_eq_getElem h]
  exact hx _ (List.getElem_mem _)
theorem quote_len (l : Bs) (h : l.length ≤ 300) : (quoteL l).length ≤ 1202 := by
  have := mid_len l
  rw [quoteL]
  simp only [List.length_cons, List.length_append, List.length_nil]; omega
theorem words_size (xs : List ByteArray) (hx : ∀ x ∈ xs, x.size ≤ 300) : ∀ z ∈ (wordsTo (xs.map toL) xs.length).map ofL, z.size ≤ 1202 := by
  intro z hz
  obtain ⟨l, hl, rfl⟩ := List.mem_map.1 hz
  obtain ⟨i, hi, rfl⟩ := List.mem_map.1 hl
  have hi' : i < xs.length := List.mem_range.1 hi
  have h1 := getD_size xs hx i hi'
  rw [size_ofL, wordAt, toL_getD]
  have h2 : (toL (xs.getD i ⟨#[]⟩)).length ≤ 300 := by rw [size_toL]; exact h1
  split
  · exact quote_len _ h2
  · omega
theorem words_join (xs : List ByteArray) (hx : ∀ x ∈ xs, x.size ≤ 300) (hN : xs.length ≤ 40) : (join blank ((wordsTo (xs.map toL) xs.length).map ofL)).size ≤ 48120 := by
  have h1 := join_size blank 1202 _ (words_size xs hx)
  rw [List.length_map, wordsTo_length] at h1
  have h3 : blank.size = 1 := rfl
  rw [h3] at h1
  have := Nat.mul_le_mul_right 1203 hN
  omega
theorem back_join (s : ByteArray) (ws : List Bs) (h : splitW (toL s) = some ws) : join blank (ws.map ofL) = s := by
  rw [join_blanks, (splitW_back _ _ h).1, ofL_toL]
set_option maxRecDepth 100000 in
set_option maxHeartbeats 4000000 in
theorem lines_yes (xs : List ByteArray) (v : Value) (s : ByteArray) (w : World) (hS : Strs w v xs) (hF : few xs = true) (h : s.size ≤ 1000) : Calls Try.prog 7 #[v, .string s] w fun e w' => e = .returned (.bool true) ∧ Below w.heap.size w w' := by
  have hx := Lib.hid (few_size hF)
  have hN := few_len hF
  have hi : ¬ (1000 : Int) < (s.size : Int) := by omega
  have hF' := Lib.hid hF
  have hS' := Lib.hid hS
  obtain ⟨a, cap, rfl, hl1, hl2, hl3⟩ := hS
  have hE := Lib.hid hl3
  obtain ⟨i0, hi, hz0, hz1, hz2⟩ := info_parts infoS
  have hi' := Lib.hid hi
  have hz0' := Lib.hid hz0
  have hz1' := Lib.hid hz1
  have hz2' := Lib.hid hz2
  clear hi hz0 hz1 hz2 hF hl1 hl2 hl3
  go_enter Try.func7, Try.ntmps7
  go_wp2_with fail
  refine (awake_walk _).mono ?_
  rintro e w1 ⟨rfl, b1⟩
  go_wp2_with fail
  refine (few_walk xs _ _ (Strs.below hS'.out b1 (Nat.le_refl _))).mono ?_
  rintro e w' ⟨rfl, rfl⟩
  rw [hF'.out]
  go_wp2
  go_loopw [5, 6] (fun u i wr => ∃ k : Nat, k ≤ xs.length ∧ i = .int .i64 k ∧ OwnS w.heap.size u (wordsTo (xs.map toL) k) wr ∧ Below w.heap.size w wr) (fun _ i _ => xs.length - (intOf i).toNat)
  case atStart => exact ⟨0, by omega, rfl, World.ownsRow_nil _ _ _ _, b1⟩
  case round =>
    obtain ⟨k, hk, rfl, hown, hB⟩ := hrel
    clear b1
    by_cases hlt : k < xs.length
    · rcases hE.out with he | ⟨b, o, rfl, hbs, hc⟩
      · subst he; simp at hlt
      have hck := hc k hlt
      rw [← hB.cell (p := ⟨b, o + k, none⟩) hbs] at hck
      have hxk := getD_size xs hx.out k hlt
      have hwa : wordAt (xs.map toL) k = if k % 2 = 0 ∨ plainL (toL (xs.getD k ⟨#[]⟩)) = false then quoteL (toL (xs.getD k ⟨#[]⟩)) else toL (xs.getD k ⟨#[]⟩) := by rw [wordAt, toL_getD]
      have hwl := wordsTo_length (xs.map toL) k
      have hwl' := Lib.hid hwl
      have hkl : (wordsTo (xs.map toL) k).length ≤ 40 := by omega
      clear hc hwl
      generalize hxx : xs.getD k ⟨#[]⟩ = x at *
      have hwa' := Lib.hid hwa
      clear hxx hwa
      by_cases hm : k % 2 = 0
      · have hm1 : (((k : Int) % 2) == 0) = true := by rw [beq_iff_eq]; omega
        have hwq := Lib.hid (show wordAt (xs.map toL) k = quoteL (toL x) by rw [hwa'.out, if_pos (.inl hm)])
        clear hm
        go_wp2_with fail
        refine (quote_walk x _ (by omega)).mono ?_
        rintro e w2 ⟨rfl, b2⟩
        have hown1 := ownsRow_below hown b2 (Nat.le_refl _)
        have hB1 := hB.trans (b2.mono hB.size)
        have hBs := hB1.size
        clear hown hB b2
        go_wp2_with (at_builtin; refine wpList_append_own _ rfl _ _ 27 rfl w.heap.size 9 i0 (.string ⟨#[]⟩) 1 16 Try.underlying27 hi'.out hz0'.out hz1'.out hz2'.out rfl (by decide) _ _ _ rfl (hown1.alloc _) ⟨w2.heap.size, 0, none⟩ 1 1 [.string (ofL (quoteL (toL x)))] rfl rfl (cell_one_new _ _ _) (by intro u hu; simp at hu; subst hu; rfl) (by unfold maxLen; omega) (by omega) (by simp; omega) ?_; intro v' w3 hown' hgrow _; have hB3 : Below w.heap.size w w3 := (hB1.alloc hB1.size _).grown hgrow (by simp; omega) (fun j e => (hown1.lt j e).1); clear hgrow hown1 hB1)
        go_roundw
        case rel => exact ⟨k + 1, by omega, by go_num, (by
          rw [OwnS, wordsTo_succ, List.length_append, List.map_append, wordsTo_length]
          rw [wordsTo_length] at hown'
          rw [List.map_cons, List.map_nil, hwq.out]
          exact hown'), hB3⟩
        case measure => simp [intOf]; omega
      · have hm1 : (((k : Int) % 2) == 0) = false := by rw [beq_eq_false_iff_ne]; omega
        cases hp : plainL (toL x) with
        | false =>
          have hwq := Lib.hid (show wordAt (xs.map toL) k = quoteL (toL x) by rw [hwa'.out, if_pos (.inr hp)])
          have hp' := Lib.hid hp
          clear hm hp
          go_wp2_with fail
          refine (plain_walk x _ (by omega)).mono ?_
          rintro e w' ⟨rfl, rfl⟩
          rw [hp'.out]
          go_wp2_with fail
          refine (quote_walk x _ (by omega)).mono ?_
          rintro e w2 ⟨rfl, b2⟩
          have hown1 := ownsRow_below hown b2 (Nat.le_refl _)
          have hB1 := hB.trans (b2.mono hB.size)
          have hBs := hB1.size
          clear hown hB b2
          go_wp2_with (at_builtin; refine wpList_append_own _ rfl _ _ 27 rfl w.heap.size 9 i0 (.string ⟨#[]⟩) 1 16 Try.underlying27 hi'.out hz0'.out hz1'.out hz2'.out rfl (by decide) _ _ _ rfl (hown1.alloc _) ⟨w2.heap.size, 0, none⟩ 1 1 [.string (ofL (quoteL (toL x)))] rfl rfl (cell_one_new _ _ _) (by intro u hu; simp at hu; subst hu; rfl) (by unfold maxLen; omega) (by omega) (by simp; omega) ?_; intro v' w3 hown' hgrow _; have hB3 : Below w.heap.size w w3 := (hB1.alloc hB1.size _).grown hgrow (by simp; omega) (fun j e => (hown1.lt j e).1); clear hgrow hown1 hB1)
          go_roundw
          case rel => exact ⟨k + 1, by omega, by go_num, (by
            rw [OwnS, wordsTo_succ, List.length_append, List.map_append, wordsTo_length]
            rw [wordsTo_length] at hown'
            rw [List.map_cons, List.map_nil, hwq.out]
            exact hown'), hB3⟩
          case measure => simp [intOf]; omega
        | true =>
          have hwq := Lib.hid (show wordAt (xs.map toL) k = toL x by rw [hwa'.out, if_neg (by rw [hp]; simp [hm])])
          have hp' := Lib.hid hp
          clear hm hp
          go_wp2_with fail
          refine (plain_walk x _ (by omega)).mono ?_
          rintro e w2 ⟨rfl, rfl⟩
          rw [hp'.out]
          obtain ⟨w2, hw2, hown1, hB1, hck2⟩ : ∃ w2 : World, w2 = wr ∧ w2.ownsRow w.heap.size 9 1 u5 (wordsTo (xs.map toL) k).length ((wordsTo (xs.map toL) k).map fun l => Value.string (ofL l)) ∧ Below w.heap.size w w2 ∧ w2.cell? ⟨b, o + k, none⟩ = some (.string x) := ⟨_, rfl, hown, hB, hck⟩
          rw [← hw2]
          have hBs := hB1.size
          clear hown hB hck hw2
          go_wp2_with (at_builtin; refine wpList_append_own _ rfl _ _ 27 rfl w.heap.size 9 i0 (.string ⟨#[]⟩) 1 16 Try.underlying27 hi'.out hz0'.out hz1'.out hz2'.out rfl (by decide) _ _ _ rfl (hown1.alloc _) ⟨w2.heap.size, 0, none⟩ 1 1 [.string x] rfl rfl (cell_one_new _ _ _) (by intro u hu; simp at hu; subst hu; rfl) (by unfold maxLen; omega) (by omega) (by simp; omega) ?_; intro v' w3 hown' hgrow _; have hB3 : Below w.heap.size w w3 := (hB1.alloc hB1.size _).grown hgrow (by simp; omega) (fun j e => (hown1.lt j e).1); clear hgrow hown1 hB1)
          go_roundw
          case rel => exact ⟨k + 1, by omega, by go_num, (by
            rw [OwnS, wordsTo_succ, List.length_append, List.map_append, wordsTo_length]
            rw [wordsTo_length] at hown'
            rw [List.map_cons, List.map_nil, hwq.out, ofL_toL]
            exact hown'), hB3⟩
          case measure => simp [intOf]; omega
    · obtain rfl : k = xs.length := by omega
      have hlti : ¬ (xs.length : Int) < (xs.length : Int) := by omega
      have hst := OwnS.strs hown
      have hws := words_size xs hx.out
      have hwj := words_join xs hx.out hN
      have hsp := wordsTo_split (xs.map toL) xs.length
      have hln : ((wordsTo (xs.map toL) xs.length).map ofL).length ≤ 40 := by rw [List.length_map, wordsTo_length]; exact hN
      have hjb := join_blanks (wordsTo (xs.map toL) xs.length)
      generalize wordsTo (xs.map toL) xs.length = W at *
      have hst' := Lib.hid hst
      have hjb' := Lib.hid hjb
      have hsp' := Lib.hid hsp
      clear hst hws hsp hjb hown hE hS' hlt
      go_wp2_with fail
      refine (joinQ_walk (W.map ofL) _ _ hst'.out (by omega) (by omega)).mono ?_
      rintro e w2 ⟨rfl, b2⟩
      rw [hjb'.out]
      rw [hjb'.out] at hwj
      go_wp2_with fail
      refine (split_walk (ofL (blanks W)) _ (by omega)).mono ?_
      rintro e w3 ⟨v3, rfl, s3, b3⟩
      rw [toL_ofL, hsp'.out] at s3 ⊢
      have s3 : Strs w3 v3 (W.map ofL) := s3
      have s3' := Lib.hid s3
      clear s3
      simp only [Option.isSome]
      go_wp2_with fail
      refine (split_walk s _ (by omega)).mono ?_
      rintro e w4 ⟨v4, rfl, s4, b4⟩
      have s4' := Lib.hid s4
      have e2 := hB.trans (b2.mono hB.size)
      have e3 := e2.trans (b3.mono e2.size)
      have e4 := e3.trans (b4.mono e3.size)
      have q2 := Strs.below hst'.out b2 (Nat.le_refl _)
      have q3 := Strs.below q2 b3 (Nat.le_refl _)
      have q4 := Lib.hid (Strs.below q3 b4 (Nat.le_refl _))
      have r4 := Lib.hid (Strs.below s3'.out b4 (Nat.le_refl _))
      clear s4 b2 b3 b4 e2 e3 hB q2 q3 s3' hst'
      go_wp2_with fail
      refine (R01Same.same_walk _ _ _ _ _ r4.out q4.out).mono ?_
      rintro e w5 ⟨rfl, b5⟩
      rw [show decide (W.map ofL = W.map ofL) = true from decide_eq_true rfl]
      have e5 := e4.trans (b5.mono e4.size)
      have s5 := Lib.hid (Strs.below s4'.out b5 (Nat.le_refl _))
      clear s4' q4 r4 b5 e4
      cases hss : splitW (toL s) with
      | none =>
        simp only [Option.isSome]
        go_wp2
        go_ret
        exact ⟨rfl, e5⟩
      | some ws =>
        have hbj := back_join s ws hss
        have hbl := (splitW_back _ _ hss).2
        rw [size_toL] at hbl
        have s5b : Strs w5 v4 (ws.map ofL) := by have := s5.out; rw [hss] at this; exact this
        have hbj' := Lib.hid hbj
        have s5b' := Lib.hid s5b
        have hwm : (ws.map ofL).length ≤ 1000 := by rw [List.length_map]; omega
        have hjs : (join blank (ws.map ofL)).size ≤ 1000 := by rw [hbj]; exact h
        clear hbj hss s5 s5b
        simp only [Option.isSome]
        go_wp2_with fail
        refine (joinQ_walk (ws.map ofL) _ _ s5b'.out (by omega) (by omega)).mono ?_
        rintro e w6 ⟨rfl, b6⟩
        rw [hbj'.out]
        go_wp2
        go_ret
        exact ⟨ret_bool (by simp), e5.trans (b6.mono e5.size)⟩
theorem lines_walk (xs : List ByteArray) (v : Value) (s : ByteArray) (w : World) (hS : Strs w v xs) : Calls Try.prog 7 #[v, .string s] w fun e w' => e = .returned (.bool true) ∧ Below w.heap.size w w' := by
  cases h : few xs with
  | false => exact lines_nofew xs v s w hS h
  | true =>
    by_cases h2 : s.size ≤ 1000
    · exact lines_yes xs v s w hS h h2
    · exact lines_long xs v s w hS h (by omega)
end QuoteLaws
end Go.Proofs.Ytgdkeolmgpimaaa
