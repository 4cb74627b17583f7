/- The walk of quote.quoted: a quoted text at the beginning of a text, and how many bytes it has. Condition: the text is at most 2^40 bytes long. -/
import Derived.Test.YtgdkeolmgpimaaaQuoteWalk3
namespace Go.Proofs.Ytgdkeolmgpimaaa
open Go.RowKit
namespace QuoteWalk
open Kit QuotePlain
/-- what is answered of a reading: the text, how far it goes, whether there is one -/
def rTxt : Option (Bs × Nat) → ByteArray | some (t, _) => ofL t | none => ⟨#[]⟩
def rLen : Option (Bs × Nat) → Nat | some (_, n) => n | none => 0
def rOk : Option (Bs × Nat) → Bool | some _ => true | none => false
def QuotedPost (r : Option (Bs × Nat)) (B : Nat) (w : World) (e : Ending) (w' : World) : Prop := e = .returned (.tuple #[.string (rTxt r), .int .i64 (rLen r : Int), .bool (rOk r)]) ∧ Below B w w'
/-- bytes that the call itself put together -/
def Own8 (B : Nat) (v : Value) (l : Bs) (w : World) : Prop := w.ownsRow B 5 1 v l.length (Lib.byteCells l)
theorem Own8.drewN {B : Nat} {v : Value} {l : Bs} {w : World} (h : Own8 B v l w) (n : Nat) : Own8 B v l (w.drewN n) := h
theorem conv_own {B : Nat} {v : Value} {l : Bs} {w : World} (h : Own8 B v l w) : (convert 37 9 v).run Try.prog w = .ok (.string (ofL l)) w := by
  rcases h.2 with ⟨rfl, h0⟩ | ⟨g, cap, cur, rfl, hb, hg, hn, hm, hs, ht⟩
  · have : l = [] := List.length_eq_zero_iff.1 h0
    subst this
    exact run_convert_bytes_nil w 37 5 Try.underlying37 Try.underlying5 0 0 9 Try.underlying9
  · have hb : Lib.Bytes w g 0 (ofL l) := by
      intro i hi
      rw [size_ofL] at hi
      simp only [World.cell?, hg]
      show cur[0 + i]? = _
      rw [Nat.zero_add]
      have h1 : (cur.toList.take (l.length * 1))[i]? = (Lib.byteCells l)[i]? := by rw [ht]
      rw [List.getElem?_take, if_pos (by omega), Array.getElem?_toList] at h1
      rw [h1, Lib.byteCells, List.getElem?_map, List.getElem?_eq_getElem hi]
      rfl
    have := Lib.run_convert_whole (P := Try.prog) w 37 5 9 Try.underlying37 Try.underlying5 Try.underlying9 g 0 (ofL l) hb cap
    rw [size_ofL] at this
    exact this
theorem info8 : (Try.prog.info? 5).map (fun i => (i.zero, i.size, i.bytes)) = some (some (.int .u8 0), 1, 1) := by kernel_rfl
theorem drop_at (s : ByteArray) (k : Nat) (h : k < s.size) : (toL s).drop k = s[k] :: (toL s).drop (k + 1) := by
  rw [List.drop_eq_getElem_cons (by rw [size_toL]; exact h)]; rfl
theorem toL_from (s : ByteArray) (k : Nat) : toL (s.extract k s.size) = (toL s).drop k := by
  rw [toL, Lib.extract_data, List.take_of_length_le]
  · rfl
  · rw [List.length_drop]
    have : s.data.toList.length = s.size := Array.length_toList
    omega
theorem size_from (s : ByteArray) (k : Nat) : (s.extract k s.size).size = s.size - k := by
  rw [← size_toL, toL_from, List.length_drop, size_toL]
theorem quoted_none (s : ByteArray) (w : World) (h : s.size = 0) : Calls Try.prog 26 #[.string s] w (QuotedPost (qtd (toL s)) w.heap.size w) := by
  have hl : toL s = [] := List.length_eq_zero_iff.1 (by rw [size_toL]; exact h)
  obtain rfl : s = ⟨#[]⟩ := by rw [← ofL_toL s, hl]; rfl
  go_enter Try.func26, Try.ntmps26
  go_wp2
  go_ret3
  exact ⟨rfl, Below.refl _ _⟩
theorem quoted_nomark (s : ByteArray) (w : World) (h : 0 < s.size) (c : UInt8) (hc : s[0] = c) (h34 : c ≠ 34) : Calls Try.prog 26 #[.string s] w (QuotedPost (qtd (toL s)) w.heap.size w) := by
  have hq : qtd (toL s) = none := by
    have := drop_at s 0 h
    rw [List.drop_zero] at this
    rw [this, qtd_cons, if_neg (by rw [hc]; exact h34)]
  have hq' := Lib.hid hq
  have hne := isEmpty_false (show s ≠ ⟨#[]⟩ by rintro rfl; exact absurd h (by decide))
  have hn : ((c.toNat : Int) != 34) = true := by
    rw [bne_iff_ne]; intro e; apply h34; apply UInt8.toNat_inj.1; show c.toNat = 34; omega
  clear hq h34
  go_enter Try.func26, Try.ntmps26
  go_wp2
  go_ret3
  rw [hq'.out]
  exact ⟨rfl, Below.refl _ _⟩
theorem quoted_mark (s : ByteArray) (w : World) (hs : s.size ≤ 1099511627776) (h : 0 < s.size) (hc : s[0] = 34) : Calls Try.prog 26 #[.string s] w (QuotedPost (qtd (toL s)) w.heap.size w) := by
  have hq : qtd (toL s) = (body ((toL s).drop 1)).map fun x => (x.1, x.2 + 1) := by
    have := drop_at s 0 h
    rw [List.drop_zero] at this
    conv => lhs; rw [this, qtd_cons, if_pos hc]
  have hne := isEmpty_false (show s ≠ ⟨#[]⟩ by rintro rfl; exact absurd h (by decide))
  obtain ⟨i0, hi, hz0, hz1, hz2⟩ := info_parts info8
  have hi' := Lib.hid hi
  have hz0' := Lib.hid hz0
  have hz1' := Lib.hid hz1
  have hz2' := Lib.hid hz2
  have hq' := Lib.hid hq
  clear hq hi hz0 hz1 hz2
  go_enter Try.func26, Try.ntmps26
  go_wp2
  go_loopw [5, 6] (fun v i wr => ∃ (k : Nat) (o : Bs), 1 ≤ k ∧ k ≤ s.size ∧ o.length ≤ k ∧ i = .int .i64 k ∧ Own8 w.heap.size v o wr ∧ Below w.heap.size w wr ∧
      Hid ((body ((toL s).drop k)).map (fun x => (o ++ x.1, k + x.2)) = qtd (toL s))) (fun _ i _ => s.size - (intOf i).toNat)
  case atStart =>
    refine ⟨1, [], by omega, h, by simp, rfl, World.ownsRow_nil _ _ _ _, Below.refl _ _, Lib.hid ?_⟩
    rw [hq'.out]
    congr 1
    funext x; simp; omega
  case round =>
    obtain ⟨k, o, hk1, hk, hol, rfl, hown, hB, hR⟩ := hrel
    clear hc
    by_cases hlt : k < s.size
    · obtain ⟨c, hc⟩ : ∃ c, s[k] = c := ⟨_, rfl⟩
      have hd := drop_at s k hlt
      rw [hc] at hd
      by_cases h34 : c = 34
      · subst h34
        have hr : qtd (toL s) = some (o, k + 1) := by
          rw [← hR.out, hd, body_mark]; simp
        have hr' := Lib.hid hr
        have hcv := conv_own hown
        have hd' := Lib.hid hd
        clear hr hd
        go_wp2
        go_ret3
        rw [hr'.out]
        exact ⟨rfl, hB⟩
      · have hn : ((c.toNat : Int) == 34) = false := by
          rw [beq_eq_false_iff_ne]; intro e; apply h34; apply UInt8.toNat_inj.1; show c.toNat = 34; omega
        have hsz := size_from s k
        have ht := taken_walk (s.extract k s.size) wr (by omega)
        rw [toL_from, hd] at ht
        have hx : ∀ y n, taken (c :: (toL s).drop (k + 1)) = (y, n) → n ≠ 0 → (body ((toL s).drop (k + n))).map (fun x => ((o ++ [y]) ++ x.1, k + n + x.2)) = qtd (toL s) := by
          intro y n hyn hn0
          rw [← hR.out, hd, body_step c _ h34 (by rw [hyn]; exact hn0), hyn]
          rw [← hd, List.drop_drop, Option.map_map]
          congr 1
          funext x; simp; omega
        have hz : ∀ y, taken (c :: (toL s).drop (k + 1)) = (y, 0) → qtd (toL s) = none := by
          intro y hyn
          rw [← hR.out, hd, body_stop c _ h34 (by rw [hyn])]; rfl
        have hx' := Lib.hid hx
        have hz' := Lib.hid hz
        have hT : ∃ r, taken (c :: (toL s).drop (k + 1)) = r ∧ (r.2 ≤ s.size - k) := by
          refine ⟨_, rfl, ?_⟩
          by_cases h0 : (taken (c :: (toL s).drop (k + 1))).2 = 0
          · omega
          · have h1 := taken_of (l := c :: (toL s).drop (k + 1)) (c := (taken (c :: (toL s).drop (k + 1))).1) (n := (taken (c :: (toL s).drop (k + 1))).2) rfl h0
            have h2 := congrArg List.length h1.1
            rw [List.length_append] at h2
            have h3 : (c :: (toL s).drop (k + 1)).length = s.size - k := by rw [← hd, List.length_drop, size_toL]
            have h4 := h1.2
            omega
        obtain ⟨⟨y, n⟩, hyn, hnle⟩ := hT
        have hyn' := Lib.hid hyn
        simp only at hnle
        clear hx hz hd h34 hR hyn hq'
        go_wp2_with fail
        refine ht.mono ?_
        rintro e w1 ⟨rfl, q, rfl⟩
        clear ht
        rw [hyn'.out]
        by_cases hn0 : n = 0
        · subst hn0
          have hr := Lib.hid (hz'.out y hyn'.out)
          go_wp2
          go_ret3
          rw [hr.out]
          exact ⟨rfl, bdrewN hB q⟩
        · have hn1 : ((n : Int) == 0) = false := by rw [beq_eq_false_iff_ne]; omega
          have hnew := Lib.hid (hx'.out y n hyn'.out hn0)
          obtain ⟨w2, hown1, hB1, hw2⟩ : ∃ w2 : World, w2.ownsRow w.heap.size 5 1 u5 o.length (Lib.byteCells o) ∧ Below w.heap.size w w2 ∧ w2 = wr.drewN q := ⟨_, hown.drewN q, bdrewN hB q, rfl⟩
          rw [← hw2]
          have hol' : (o.length : Int) ≤ 1099511627776 := by omega
          have hBs := hB1.size
          clear hx' hz' hyn' hown hB hw2
          go_wp2_with (at_builtin; refine wpList_append_own _ rfl _ _ 37 rfl w.heap.size 5 i0 (.int .u8 0) 1 1 Try.underlying37 hi'.out hz0'.out hz1'.out hz2'.out rfl (by decide) _ _ _ rfl (hown1.alloc _) ⟨w2.heap.size, 0, none⟩ 1 1 [.int .u8 y.toNat] rfl rfl (cell_one_new _ _ _) (by intro u hu; simp at hu; subst hu; rfl) (by unfold maxLen; omega) (by omega) (by simp; omega) ?_; intro v' w3 hown' hgrow _; have hB3 : Below w.heap.size w w3 := (hB1.alloc hB1.size _).grown hgrow (by simp; omega) (fun j e => (hown1.lt j e).1); clear hgrow hown1 hB1)
          go_roundw
          case rel => exact ⟨k + n, o ++ [y], by omega, by omega, by simp; omega, by go_num, by rw [Own8, Lib.byteCells_append, List.length_append]; exact hown', hB3, hnew⟩
          case measure => simp [intOf]; omega
    · have hr : qtd (toL s) = none := by
        rw [← hR.out, List.drop_eq_nil_of_le (by rw [size_toL]; omega), body_nil]; rfl
      have hr' := Lib.hid hr
      clear hr hq' hR
      go_wp2
      go_ret3
      rw [hr'.out]
      exact ⟨rfl, hB⟩
theorem quoted_walk (s : ByteArray) (w : World) (hs : s.size ≤ 1099511627776) : Calls Try.prog 26 #[.string s] w (QuotedPost (qtd (toL s)) w.heap.size w) := by
  by_cases h : 0 < s.size
  · by_cases hc : s[0] = 34
    · exact quoted_mark s w hs h hc
    · exact quoted_nomark s w h _ rfl hc
  · exact quoted_none s w (by omega)
end QuoteWalk
end Go.Proofs.Ytgdkeolmgpimaaa
