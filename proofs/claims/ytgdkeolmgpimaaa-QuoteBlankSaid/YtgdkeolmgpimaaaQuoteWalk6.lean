/- The walk of the reference's Unquote: what a quoted text stands for. Condition: the text is at most 2^39 bytes long. -/
import Derived.Test.YtgdkeolmgpimaaaQuoteWalk5
namespace Go.Proofs.Ytgdkeolmgpimaaa
open Go.RowKit
namespace QuoteWalk
open Kit QuotePlain
theorem hexi64 (n : Nat) (h : n < 16) (w : World) : (Instr.index 9 (.string ⟨#[48, 49, 50, 51, 52, 53, 54, 55, 56, 57, 97, 98, 99, 100, 101, 102]⟩) (.int .i64 (n : Int))).run Try.prog w = .ok (.int .u8 ((hexd n).toNat : Int)) w := by
  rcases (by omega : n = 0 ∨ n = 1 ∨ n = 2 ∨ n = 3 ∨ n = 4 ∨ n = 5 ∨ n = 6 ∨ n = 7 ∨ n = 8 ∨ n = 9 ∨ n = 10 ∨ n = 11 ∨ n = 12 ∨ n = 13 ∨ n = 14 ∨ n = 15) with rfl | rfl | rfl | rfl | rfl | rfl | rfl | rfl | rfl | rfl | rfl | rfl | rfl | rfl | rfl | rfl
  all_goals kernel_rfl
def nn (s : ByteArray) (k : Nat) : Nat → Nat
  | 0 => 0
  | j + 1 => 16 * nn s k j + hexv ((toL s).getD (k + 2 + j) 0)
theorem nn_le1 (s : ByteArray) (k : Nat) : nn s k 1 ≤ 16 := by
  have := hexv_le ((toL s).getD (k + 2 + 0) 0)
  simp only [nn]; omega
theorem nn_two (s : ByteArray) (k : Nat) : UInt8.ofNat (nn s k 2) = UInt8.ofNat (hexv (((toL s).drop k).getD 2 0) * 16 + hexv (((toL s).drop k).getD 3 0)) := by
  have e1 : ((toL s).drop k).getD 2 0 = (toL s).getD (k + 2 + 0) 0 := by simp [List.getD_eq_getElem?_getD]
  have e2 : ((toL s).drop k).getD 3 0 = (toL s).getD (k + 2 + 1) 0 := by simp [List.getD_eq_getElem?_getD]
  rw [e1, e2]
  simp only [nn, Nat.mul_zero, Nat.zero_add]
  rw [Nat.mul_comm]
theorem getD_at (s : ByteArray) (k : Nat) (h : k < s.size) : (toL s).getD k 0 = s[k] := by
  rw [List.getD_eq_getElem?_getD, toL_get s k h]; rfl
set_option maxHeartbeats 4000000 in
theorem refUnquote_walk (s : ByteArray) (w : World) (hs : s.size ≤ 549755813888) : Calls Try.prog 15 #[.string s] w (UnqPost (runq (toL s)) w.heap.size w) := by
  obtain ⟨i0, hi, hz0, hz1, hz2⟩ := info_parts info8
  have hi' := Lib.hid hi
  have hz0' := Lib.hid hz0
  have hz1' := Lib.hid hz1
  have hz2' := Lib.hid hz2
  clear hi hz0 hz1 hz2
  go_enter Try.func15, Try.ntmps15
  go_wp2
  go_loopw [4, 5] (fun v i wr => ∃ (k : Nat) (o : Bs), 1 ≤ k ∧ k ≤ s.size + 1 ∧ o.length ≤ k ∧ i = .int .i64 k ∧ Own8 w.heap.size v o wr ∧ Below w.heap.size w wr ∧
      Hid (o ++ rread ((toL s).drop k) = rread ((toL s).drop 1))) (fun _ i _ => s.size + 1 - (intOf i).toNat)
  case atStart => exact ⟨1, [], by omega, by omega, by simp, rfl, World.ownsRow_nil _ _ _ _, Below.refl _ _, Lib.hid rfl⟩
  case round =>
    obtain ⟨k, o, hk1, hk, hol, rfl, hown, hB, hR⟩ := hrel
    by_cases hlt : k + 1 < s.size
    · obtain ⟨c, hc⟩ : ∃ c, s[k] = c := ⟨_, rfl⟩
      have hlen : ((toL s).drop k).length = s.size - k := by rw [List.length_drop, size_toL]
      have hd0 : ((toL s).drop k).getD 0 0 = c := by rw [← hc, ← getD_at s k (by omega)]; simp [List.getD_eq_getElem?_getD]
      by_cases he : c = 92 ∧ k + 3 < s.size
      · obtain ⟨rfl, h3⟩ := he
        have hR2 : (o ++ [UInt8.ofNat (nn s k 2)]) ++ rread ((toL s).drop (k + 4)) = rread ((toL s).drop 1) := by
          rw [← hR.out, rread_esc _ (by omega) hd0, nn_two, List.drop_drop]; simp
        have hR2' := Lib.hid hR2
        clear hR hR2 hd0 hlen
        go_wp2
        go_loopw [6, 7, 8] (fun n i d wq => ∃ (j : Nat) (q : Nat), j ≤ 2 ∧ i = .int .i64 ((k + 2 + j : Nat) : Int) ∧ n = .int .i64 (nn s k j) ∧ wq = wr.drewN q) (fun _ i _ _ => k + 4 - (intOf i).toNat)
        case atStart => exact ⟨0, 0, by omega, rfl, rfl, rfl⟩
        case round =>
          obtain ⟨j, q, hj, rfl, rfl, rfl⟩ := hrel
          by_cases hj2 : j < 2
          · obtain ⟨m, hm⟩ : ∃ m, k + 2 + j = m := ⟨_, rfl⟩
            have hms : m < s.size := by omega
            have hm4 : (m : Int) < (k : Int) + 4 := by omega
            obtain ⟨c2, hc2⟩ : ∃ c2, s[m] = c2 := ⟨_, rfl⟩
            have hnn : nn s k (j + 1) = 16 * nn s k j + hexv c2 := by
              rw [nn, ← hc2, ← getD_at s m hms, ← hm]
            have hn16 : nn s k j ≤ 16 := by
              rcases (by omega : j = 0 ∨ j = 1) with rfl | rfl
              · simp [nn]
              · exact nn_le1 s k
            rw [hm]
            have hm' := Lib.hid hm
            have hnn' := Lib.hid hnn
            clear hm hnn
            generalize nn s k j = nj at *
            go_wp2
            go_loopw [8] (fun d wq => ∃ (e : Nat) (q2 : Nat), e ≤ 16 ∧ d = .int .i64 (e : Int) ∧ wq = wr.drewN q2 ∧ Hid (∀ j, j < e → hexd j ≠ c2)) (fun d _ => 16 - (intOf d).toNat)
            case atStart => exact ⟨0, _, by omega, rfl, rfl, Lib.hid fun j h => by omega⟩
            case round =>
              obtain ⟨e, q2, he, rfl, rfl, hno⟩ := hrel
              by_cases hee : e < 16
              · have hg : decide ((e : Int) < 16) = true := by simp; omega
                have hx := hexi64 e hee
                by_cases hec : hexd e = c2
                · have hv := Lib.hid (show hexv c2 = e by rw [← hec]; exact hexv_hexd e hee)
                  have hne : (((hexd e).toNat : Int) != (c2.toNat : Int)) = false := by rw [hec]; simp
                  clear hec
                  go_wp2
                  go_quiet (fail)
                  go_wp2
                  go_roundw
                  case rel => exact ⟨j + 1, _, by omega, by rw [← hm'.out]; go_num, by rw [hnn'.out, hv.out]; go_num, rfl⟩
                  case measure => have := hm'.out; simp [intOf]; omega
                · have hne : (((hexd e).toNat : Int) != (c2.toNat : Int)) = true := by
                    rw [bne_iff_ne]; intro x; apply hec; apply UInt8.toNat_inj.1; omega
                  have hec' := Lib.hid hec
                  clear hec
                  go_wp2
                  go_quiet (fail)
                  go_wp2
                  go_roundw
                  case rel => exact ⟨e + 1, _, by omega, by go_num, rfl, Lib.hid fun i hi => by
                    by_cases h : i = e
                    · subst h; exact hec'.out
                    · exact hno.out i (by omega)⟩
                  case measure => simp [intOf]; omega
              · obtain rfl : e = 16 := by omega
                have hv := Lib.hid (hexv_none c2 hno.out)
                have hg : decide ((16 : Int) < 16) = false := by decide
                clear hno
                go_wp2
                go_quiet (fail)
                go_wp2
                go_roundw
                case rel => exact ⟨j + 1, _, by omega, by rw [← hm'.out]; go_num, by rw [hnn'.out, hv.out]; go_num, rfl⟩
                case measure => have := hm'.out; simp [intOf]; omega
          · obtain rfl : j = 2 := by omega
            have e4 : ((k + 2 + 2 : Nat) : Int) = (k : Int) + 4 := by omega
            rw [e4]
            clear e4 hj hj2
            generalize nn s k 2 = nv at *
            have hy : ((UInt8.ofNat nv).toNat : Int) = (nv : Int) % 256 := by rw [UInt8.toNat_ofNat']; omega
            have hy' := Lib.hid hy
            obtain ⟨w2, hown1, hB1, hw2⟩ : ∃ w2 : World, w2.ownsRow w.heap.size 5 1 u4 o.length (Lib.byteCells o) ∧ Below w.heap.size w w2 ∧ w2 = wr.drewN q := ⟨_, hown.drewN q, bdrewN hB q, rfl⟩
            rw [← hw2]
            have hBs := hB1.size
            clear hy hown hB hw2
            go_wp2_with (at_builtin; refine wpList_append_own _ rfl _ _ 37 rfl w.heap.size 5 i0 (.int .u8 0) 1 1 Try.underlying37 hi'.out hz0'.out hz1'.out hz2'.out rfl (by decide) _ _ _ rfl (hown1.alloc _) ⟨w2.heap.size, 0, none⟩ 1 1 [.int .u8 ((nv : Int) % 256)] rfl rfl (cell_one_new _ _ _) (by intro u hu; simp at hu; subst hu; rfl) (by unfold maxLen; omega) (by omega) (by simp; omega) ?_; intro v' w3 hown' hgrow _; have hB3 : Below w.heap.size w w3 := (hB1.alloc hB1.size _).grown hgrow (by simp; omega) (fun j e => (hown1.lt j e).1); clear hgrow hown1 hB1)
            go_roundw
            case rel => exact ⟨k + 4, o ++ [UInt8.ofNat nv], by omega, by omega, by simp; omega, by go_num, by rw [Own8, Lib.byteCells_append, List.length_append]; rw [← hy'.out] at hown'; exact hown', hB3, hR2'⟩
            case measure => simp [intOf]; omega
      · have hR2 : (o ++ [c]) ++ rread ((toL s).drop (k + 1)) = rread ((toL s).drop 1) := by
          rw [← hR.out, rread_one ((toL s).drop k) (by omega) (by rw [hd0, hlen]; exact fun x => he ⟨x.1, by omega⟩), hd0, List.drop_drop]; simp
        have hR2' := Lib.hid hR2
        obtain ⟨w2, hown1, hB1, hw2⟩ : ∃ w2 : World, w2.ownsRow w.heap.size 5 1 u4 o.length (Lib.byteCells o) ∧ Below w.heap.size w w2 ∧ w2 = wr := ⟨_, hown, hB, rfl⟩
        rw [← hw2]
        have hBs := hB1.size
        clear hR hR2 hd0 hlen hown hB hw2
        by_cases h92 : c = 92
        · have hn : ((c.toNat : Int) == 92) = true := by rw [h92]; rfl
          have hk3 : ¬ (k : Int) + 3 < s.size := fun x => he ⟨h92, by omega⟩
          clear he h92
          go_wp2_with (at_builtin; refine wpList_append_own _ rfl _ _ 37 rfl w.heap.size 5 i0 (.int .u8 0) 1 1 Try.underlying37 hi'.out hz0'.out hz1'.out hz2'.out rfl (by decide) _ _ _ rfl (hown1.alloc _) ⟨w2.heap.size, 0, none⟩ 1 1 [.int .u8 (c.toNat : Int)] rfl rfl (cell_one_new _ _ _) (by intro u hu; simp at hu; subst hu; rfl) (by unfold maxLen; omega) (by omega) (by simp; omega) ?_; intro v' w3 hown' hgrow _; have hB3 : Below w.heap.size w w3 := (hB1.alloc hB1.size _).grown hgrow (by simp; omega) (fun j e => (hown1.lt j e).1); clear hgrow hown1 hB1)
          go_roundw
          case rel => exact ⟨k + 1, o ++ [c], by omega, by omega, by simp; omega, by go_num, by rw [Own8, Lib.byteCells_append, List.length_append]; exact hown', hB3, hR2'⟩
          case measure => simp [intOf]; omega
        · have hn : ((c.toNat : Int) == 92) = false := by
            rw [beq_eq_false_iff_ne]; intro x; apply h92; apply UInt8.toNat_inj.1; show c.toNat = 92; omega
          clear he h92
          go_wp2_with (at_builtin; refine wpList_append_own _ rfl _ _ 37 rfl w.heap.size 5 i0 (.int .u8 0) 1 1 Try.underlying37 hi'.out hz0'.out hz1'.out hz2'.out rfl (by decide) _ _ _ rfl (hown1.alloc _) ⟨w2.heap.size, 0, none⟩ 1 1 [.int .u8 (c.toNat : Int)] rfl rfl (cell_one_new _ _ _) (by intro u hu; simp at hu; subst hu; rfl) (by unfold maxLen; omega) (by omega) (by simp; omega) ?_; intro v' w3 hown' hgrow _; have hB3 : Below w.heap.size w w3 := (hB1.alloc hB1.size _).grown hgrow (by simp; omega) (fun j e => (hown1.lt j e).1); clear hgrow hown1 hB1)
          go_roundw
          case rel => exact ⟨k + 1, o ++ [c], by omega, by omega, by simp; omega, by go_num, by rw [Own8, Lib.byteCells_append, List.length_append]; exact hown', hB3, hR2'⟩
          case measure => simp [intOf]; omega
    · have ho : rread ((toL s).drop 1) = o := by
        rw [← hR.out, rread_short _ (by rw [List.length_drop, size_toL]; omega), List.append_nil]
      have hcv := conv_own hown
      have hlt' : ¬ (k : Int) + 1 < s.size := by omega
      have hos : (ofL o).size ≤ 1099511627776 := by rw [size_ofL]; omega
      have hru : runq (toL s) = if quoteL o = toL s then some o else none := by rw [runq, ho]
      have hown' := Lib.hid hown
      have hruh := Lib.hid hru
      clear hR hown hru ho
      go_wp2_with fail
      refine (refQuote_walk (ofL o) _ hos).mono ?_
      rintro e w1 ⟨rfl, hb1⟩
      rw [toL_ofL]
      have hBB := hB.trans (hb1.mono hB.size)
      by_cases hqe : quoteL o = toL s
      · have hru' := Lib.hid (show runq (toL s) = some o by rw [hruh.out, if_pos hqe])
        have hsb : ((ofL (quoteL o)).toList == s.toList) = true := seq_true (by rw [hqe, ofL_toL])
        have hcv1 := conv_own (ownsRow_below hown'.out hb1 (Nat.le_refl _))
        clear hqe hcv
        generalize ofL (quoteL o) = qs at *
        generalize hoo : ofL o = oo at *
        have hoo' := Lib.hid hoo
        clear hoo
        go_wp2
        go_ret2
        rw [hru'.out]
        exact ⟨by rw [uTxt, hoo'.out]; rfl, hBB⟩
      · have hru' := Lib.hid (show runq (toL s) = none by rw [hruh.out, if_neg hqe])
        have hsb : ((ofL (quoteL o)).toList == s.toList) = false := seq_false (fun x => hqe (by rw [← toL_ofL (quoteL o), x]))
        clear hqe
        generalize ofL (quoteL o) = qs at *
        go_wp2
        go_ret2
        rw [hru'.out]
        exact ⟨rfl, hBB⟩
end QuoteWalk
end Go.Proofs.Ytgdkeolmgpimaaa
