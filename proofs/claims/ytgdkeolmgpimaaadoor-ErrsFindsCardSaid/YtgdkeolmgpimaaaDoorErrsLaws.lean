/- Walks of layer 2's four laws: each answers true. Condition: the table of messages stands as the program's text lays it; for ErrsLines: the slice reads as texts. -/
import Derived.Test.YtgdkeolmgpimaaaDoorErrsWalk
import Derived.Test.YtgdkeolmgpimaaaDoorErrsLines
import Derived.Test.YtgdkeolmgpimaaaDoorR01Few
namespace Go.Proofs.YtgdkeolmgpimaaaDoor
open Go.RowKit
namespace ErrsLaws
open Kit ErrsPlain ErrsWalk ErrsLines R01Few
def Tab (w : World) : Prop := ∃ t fr, w.heap[0]? = some (.cells cellsTab t fr)
theorem Tab.laid {w : World} (h : Tab w) : Laid w := fun i hi => by
  obtain ⟨t, fr, h⟩ := h
  simp only [World.cell?, h]
  show cellsTab[i]? = _
  simp only [cellsTab, List.getElem?_toArray, List.getElem?_map]
  have : i < tab.length := hi
  rw [List.getElem?_eq_getElem this, at14, List.getD_eq_getElem?_getD, List.getElem?_eq_getElem this]; rfl
theorem Tab.below {w w' : World} (h : Tab w) (hb : Below w.heap.size w w') : Tab w' := by
  obtain ⟨t, fr, h⟩ := h
  exact ⟨t, fr, by rw [hb.block _ (Array.getElem?_eq_some_iff.1 h).1]; exact h⟩
theorem awake_join : join colon [⟨#[99, 112]⟩, ⟨#[97]⟩, ⟨#[98]⟩] = ⟨#[99, 112, 58, 32, 97, 58, 32, 98]⟩ := by decide
theorem awake_walk (w : World) (hT : Tab w) : Calls Tryd.prog 7 #[] w fun e w' => e = .returned (.bool true) ∧ Below w.heap.size w w' := by
  have hT' := Lib.hid hT
  clear hT
  go_enter Tryd.func7, Tryd.ntmps7
  go_wp2_with fail
  refine (find_walk _ _ hT'.out).mono ?_
  rintro e w' ⟨rfl, rfl⟩
  have e1 : findNo ⟨#[70, 105, 108, 101, 32, 101, 120, 105, 115, 116, 115]⟩ = 2 := by decide
  have e2 : findOk ⟨#[70, 105, 108, 101, 32, 101, 120, 105, 115, 116, 115]⟩ = true := by decide
  rw [e1, e2]
  clear e1 e2
  go_wp2_with fail
  refine (find_walk _ _ hT'.out).mono ?_
  rintro e w' ⟨rfl, rfl⟩
  have e1 : findNo ⟨#[102, 105, 108, 101, 32, 101, 120, 105, 115, 116, 115]⟩ = 0 := by decide
  have e2 : findOk ⟨#[102, 105, 108, 101, 32, 101, 120, 105, 115, 116, 115]⟩ = false := by decide
  rw [e1, e2]
  clear e1 e2
  go_wp2_with fail
  refine (message 1 _ hT'.out.laid).mono ?_
  rintro e w' ⟨rfl, rfl⟩
  rw [show msg 1 = ⟨#[78, 111, 32, 115, 117, 99, 104, 32, 102, 105, 108, 101, 32, 111, 114, 32, 100, 105, 114, 101, 99, 116, 111, 114, 121]⟩ from by decide]
  go_wp2_with fail
  refine (message 99 _ hT'.out.laid).mono ?_
  rintro e w' ⟨rfl, rfl⟩
  rw [show msg 99 = ⟨#[85, 110, 107, 110, 111, 119, 110, 32, 101, 114, 114, 111, 114]⟩ from by decide]
  go_wp2_with fail
  refine (line_walk [⟨#[99, 112]⟩, ⟨#[97]⟩, ⟨#[98]⟩] _ _ (Strs.new _ _ _ _ _ rfl rfl (by decide) _) (by decide) (by decide)).mono ?_
  rintro e w1 ⟨rfl, hb1⟩
  rw [awake_join]
  go_wp2_with fail
  refine (line_walk [] _ _ (Strs.nil _ _ _ (by decide)) (by decide) (by decide)).mono ?_
  rintro e w2 ⟨rfl, hb2⟩
  rw [show join colon [] = ⟨#[]⟩ from rfl]
  go_wp2
  go_ret
  refine ⟨rfl, (((Below.refl _ _).alloc (Nat.le_refl _) _).trans (hb1.mono (by simp))).trans (hb2.mono ?_)⟩
  have := hb1.size
  simp at this; omega
theorem messages_walk (n : Int) (w : World) (hT : Tab w) : Calls Tryd.prog 3 #[.int .i64 n] w fun e w' => e = .returned (.bool true) ∧ Below w.heap.size w w' := by
  have hT' := Lib.hid hT
  clear hT
  go_enter Tryd.func3, Tryd.ntmps3
  go_wp2_with fail
  refine (awake_walk _ hT'.out).mono ?_
  rintro e w1 ⟨rfl, hb1⟩
  have hT1 := Lib.hid (Tab.below hT'.out hb1)
  go_wp2_with fail
  refine (message n _ hT1.out.laid).mono ?_
  rintro e w' ⟨rfl, rfl⟩
  go_wp2_with fail
  refine (refMessage n _).mono ?_
  rintro e w' ⟨rfl, rfl⟩
  go_wp2
  go_ret
  exact ⟨ret_bool (by simp), hb1⟩
theorem finds_some (s : ByteArray) (j : Nat) (w : World) (hT : Tab w) (hf : find s = some j) : Calls Tryd.prog 4 #[.string s] w fun e w' => e = .returned (.bool true) ∧ Below w.heap.size w w' := by
  obtain ⟨_, hj, hs, hno⟩ := seek_some s 14 0 j hf
  have hT' := Lib.hid hT
  have hn := Lib.hid hno
  have hs' := Lib.hid hs
  have h1 : findNo s = j := by simp [findNo, hf]
  have h2 : findOk s = true := by simp [findOk, hf]
  have h1' := Lib.hid h1
  have h2' := Lib.hid h2
  clear hT hno hf h1 h2 hs
  go_enter Tryd.func4, Tryd.ntmps4
  go_wp2_with fail
  refine (awake_walk _ hT'.out).mono ?_
  rintro e w1 ⟨rfl, hb1⟩
  have hT1 := Lib.hid (Tab.below hT'.out hb1)
  go_wp2_with fail
  refine (find_walk s _ hT1.out).mono ?_
  rintro e w' ⟨rfl, rfl⟩
  rw [h1'.out, h2'.out]
  go_wp2
  go_loop [5] (fun i => ∃ k : Nat, k ≤ j ∧ i = .int .i64 k) (fun i => 14 - (intOf i).toNat)
  case atStart => exact ⟨0, by omega, rfl⟩
  case round =>
    obtain ⟨k, hk, rfl⟩ := hrel
    have hk13 : (k : Int) ≤ 13 := by omega
    go_wp2_with fail
    refine (refMessage k _).mono ?_
    rintro e w' ⟨rfl, rfl⟩
    have hm : msg (k : Int) = at14 k := by rw [msg, if_pos (by omega)]; rfl
    rw [hm]
    clear hm
    by_cases hkj : k = j
    · subst hkj
      have hb := seq_true hs'.out
      go_wp2
      go_ret
      exact ⟨rfl, hb1⟩
    · have hb := seq_false (hn.out k (by omega) (by omega))
      go_wp2
      go_round
      case rel => exact ⟨k + 1, by omega, by go_num⟩
      case measure => simp [intOf]; omega
theorem finds_none (s : ByteArray) (w : World) (hT : Tab w) (hf : find s = none) : Calls Tryd.prog 4 #[.string s] w fun e w' => e = .returned (.bool true) ∧ Below w.heap.size w w' := by
  have hT' := Lib.hid hT
  have hn := Lib.hid (seek_none s 14 0 hf)
  have h1 : findNo s = 0 := by simp [findNo, hf]
  have h2 : findOk s = false := by simp [findOk, hf]
  have h1' := Lib.hid h1
  have h2' := Lib.hid h2
  clear hT hf h1 h2
  go_enter Tryd.func4, Tryd.ntmps4
  go_wp2_with fail
  refine (awake_walk _ hT'.out).mono ?_
  rintro e w1 ⟨rfl, hb1⟩
  have hT1 := Lib.hid (Tab.below hT'.out hb1)
  go_wp2_with fail
  refine (find_walk s _ hT1.out).mono ?_
  rintro e w' ⟨rfl, rfl⟩
  rw [h1'.out, h2'.out]
  go_wp2
  go_loop [5] (fun i => ∃ k : Nat, k ≤ 14 ∧ i = .int .i64 k) (fun i => 14 - (intOf i).toNat)
  case atStart => exact ⟨0, by omega, rfl⟩
  case round =>
    obtain ⟨k, hk, rfl⟩ := hrel
    by_cases hk14 : k < 14
    · have hk13 : (k : Int) ≤ 13 := by omega
      go_wp2_with fail
      refine (refMessage k _).mono ?_
      rintro e w' ⟨rfl, rfl⟩
      have hm : msg (k : Int) = at14 k := by rw [msg, if_pos (by omega)]; rfl
      rw [hm]
      clear hm
      have hb := seq_false (hn.out k (by omega) (by omega))
      go_wp2
      go_round
      case rel => exact ⟨k + 1, by omega, by go_num⟩
      case measure => simp [intOf]; omega
    · have hk13 : ¬ (k : Int) ≤ 13 := by omega
      go_wp2
      go_ret
      exact ⟨rfl, hb1⟩
theorem finds_walk (s : ByteArray) (w : World) (hT : Tab w) : Calls Tryd.prog 4 #[.string s] w fun e w' => e = .returned (.bool true) ∧ Below w.heap.size w w' := by
  cases h : find s with
  | none => exact finds_none s w hT h
  | some j => exact finds_some s j w hT h
theorem msg_in {n : Int} (h0 : 0 ≤ n) (h1 : n ≤ 13) : ∃ k : Nat, k < 14 ∧ n = k ∧ msg n = at14 k := by
  obtain ⟨k, rfl⟩ := Int.eq_ofNat_of_zero_le h0
  exact ⟨k, by omega, rfl, by rw [msg, if_pos ⟨h0, h1⟩]; rfl⟩
theorem msg_no {n : Int} (h : ¬ (0 ≤ n ∧ n ≤ 13)) : msg n = unknown := by rw [msg, if_neg h]
theorem apart_out (n f : Int) (w : World) (hT : Tab w) (hn : ¬ (0 ≤ n ∧ n ≤ 13)) : Calls Tryd.prog 5 #[.int .i64 n, .int .i64 f] w fun e w' => e = .returned (.bool true) ∧ Below w.heap.size w w' := by
  have hT' := Lib.hid hT
  clear hT
  have hm := Lib.hid (msg_no hn)
  have g1 : findNo unknown = 0 := by simp [findNo, find_unknown]
  have g2 : findOk unknown = false := by simp [findOk, find_unknown]
  have g1' := Lib.hid g1
  have g2' := Lib.hid g2
  have hb := isEmpty_false (show unknown ≠ ⟨#[]⟩ by decide)
  clear g1 g2
  go_enter Tryd.func5, Tryd.ntmps5
  go_wp2_with fail
  refine (awake_walk _ hT'.out).mono ?_
  rintro e w1 ⟨rfl, hb1⟩
  have hT1 := Lib.hid (Tab.below hT'.out hb1)
  go_wp2_with fail
  refine (message n _ hT1.out.laid).mono ?_
  rintro e w' ⟨rfl, rfl⟩
  rw [hm.out]
  go_wp2_with fail
  refine (find_walk unknown _ hT1.out).mono ?_
  rintro e w' ⟨rfl, rfl⟩
  rw [g1'.out, g2'.out]
  generalize hu : unknown = u at *
  have hu' := Lib.hid hu
  clear hu
  by_cases h0 : 0 ≤ n
  · have h1 : ¬ n ≤ 13 := by omega
    clear hn
    go_wp2
    go_ret
    exact ⟨rfl, hb1⟩
  · clear hn
    go_wp2
    go_ret
    exact ⟨rfl, hb1⟩
theorem apart_in (k : Nat) (f : Int) (w : World) (hT : Tab w) (hk : k < 14) : Calls Tryd.prog 5 #[.int .i64 k, .int .i64 f] w fun e w' => e = .returned (.bool true) ∧ Below w.heap.size w w' := by
  have hT' := Lib.hid hT
  clear hT
  have hm : msg (k : Int) = at14 k := by rw [msg, if_pos (by omega)]; rfl
  have hm' := Lib.hid hm
  have g1 : findNo (at14 k) = k := by simp [findNo, find_at k hk]
  have g2 : findOk (at14 k) = true := by simp [findOk, find_at k hk]
  have g1' := Lib.hid g1
  have g2' := Lib.hid g2
  have hb := isEmpty_false (ne_empty_aux k hk)
  have hk13 : (k : Int) ≤ 13 := by omega
  have hk0 : (0 : Int) ≤ (k : Int) := by omega
  clear g1 g2 hm
  go_enter Tryd.func5, Tryd.ntmps5
  go_wp2_with fail
  refine (awake_walk _ hT'.out).mono ?_
  rintro e w1 ⟨rfl, hb1⟩
  have hT1 := Lib.hid (Tab.below hT'.out hb1)
  go_wp2_with fail
  refine (message k _ hT1.out.laid).mono ?_
  rintro e w' ⟨rfl, rfl⟩
  rw [hm'.out]
  go_wp2_with fail
  refine (find_walk (at14 k) _ hT1.out).mono ?_
  rintro e w' ⟨rfl, rfl⟩
  rw [g1'.out, g2'.out]
  by_cases hf : 0 ≤ f ∧ f ≤ 13
  · obtain ⟨j, hj, rfl, hmj⟩ := msg_in hf.1 hf.2
    have hmj' := Lib.hid hmj
    obtain ⟨hf0, hf1⟩ := hf
    clear hmj
    go_wp2_with fail
    refine (message j _ hT1.out.laid).mono ?_
    rintro e w' ⟨rfl, rfl⟩
    rw [hmj'.out]
    by_cases hkj : k = j
    · subst hkj
      have hs := seq_true (rfl : at14 k = at14 k)
      have hs2 : ((k : Int) == (k : Int)) = true := by simp
      go_wp2
      go_ret
      exact ⟨ret_bool (by simp), hb1⟩
    · have hs := seq_false (show at14 k ≠ at14 j from fun e => hkj (apart_aux k hk j hj e))
      have hs2 : ((k : Int) == (j : Int)) = false := by simp; omega
      go_wp2
      go_ret
      exact ⟨ret_bool (by simp), hb1⟩
  · by_cases h0 : f < 0
    · go_wp2
      go_ret
      exact ⟨rfl, hb1⟩
    · have h13 : 13 < f := by omega
      clear hf
      go_wp2
      go_ret
      exact ⟨rfl, hb1⟩
theorem apart_walk (n f : Int) (w : World) (hT : Tab w) : Calls Tryd.prog 5 #[.int .i64 n, .int .i64 f] w fun e w' => e = .returned (.bool true) ∧ Below w.heap.size w w' := by
  by_cases h : 0 ≤ n ∧ n ≤ 13
  · obtain ⟨k, hk, rfl, _⟩ := msg_in h.1 h.2
    exact apart_in k f w hT hk
  · exact apart_out n f w hT h
theorem lines_yes (xs : List ByteArray) (v : Value) (w : World) (hT : Tab w) (hS : Strs w v xs) (hF : few xs = true) : Calls Tryd.prog 6 #[v] w fun e w' => e = .returned (.bool true) ∧ Below w.heap.size w w' := by
  have hT' := Lib.hid hT
  have hS' := Lib.hid hS
  have hF' := Lib.hid hF
  have hx := few_size hF
  have hl := few_len hF
  have hj : (join colon xs).size ≤ 12080 := by have := bound xs hx hl xs.length; rwa [List.take_length] at this
  have hx' := Lib.hid hx
  clear hT hS hF hx
  go_enter Tryd.func6, Tryd.ntmps6
  go_wp2_with fail
  refine (awake_walk _ hT'.out).mono ?_
  rintro e w1 ⟨rfl, hb1⟩
  have hS1 := Lib.hid (Strs.below hS'.out hb1 (Nat.le_refl _))
  go_wp2_with fail
  refine (few_walk xs _ _ hS1.out).mono ?_
  rintro e w' ⟨rfl, rfl⟩
  rw [hF'.out]
  go_wp2_with fail
  refine (line_walk xs _ _ hS1.out (by omega) (by omega)).mono ?_
  rintro e w2 ⟨rfl, hb2⟩
  have hS2 := Lib.hid (Strs.below hS1.out hb2 (Nat.le_refl _))
  go_wp2_with fail
  refine (refLine_walk xs _ _ hS2.out hx'.out hl).mono ?_
  rintro e w' ⟨rfl, rfl⟩
  go_wp2
  go_ret
  exact ⟨ret_bool (by simp), hb1.trans (hb2.mono hb1.size)⟩
theorem lines_no (xs : List ByteArray) (v : Value) (w : World) (hT : Tab w) (hS : Strs w v xs) (hF : few xs = false) : Calls Tryd.prog 6 #[v] w fun e w' => e = .returned (.bool true) ∧ Below w.heap.size w w' := by
  have hT' := Lib.hid hT
  have hS' := Lib.hid hS
  have hF' := Lib.hid hF
  clear hT hS hF
  go_enter Tryd.func6, Tryd.ntmps6
  go_wp2_with fail
  refine (awake_walk _ hT'.out).mono ?_
  rintro e w1 ⟨rfl, hb1⟩
  have hS1 := Lib.hid (Strs.below hS'.out hb1 (Nat.le_refl _))
  have hT1 := Lib.hid (Tab.below hT'.out hb1)
  go_wp2_with fail
  refine (few_walk xs _ _ hS1.out).mono ?_
  rintro e w' ⟨rfl, rfl⟩
  rw [hF'.out]
  go_wp2_with fail
  refine (awake_walk _ hT1.out).mono ?_
  rintro e w2 ⟨rfl, hb2⟩
  go_wp2
  go_ret
  exact ⟨rfl, hb1.trans (hb2.mono hb1.size)⟩
theorem lines_walk (xs : List ByteArray) (v : Value) (w : World) (hT : Tab w) (hS : Strs w v xs) : Calls Tryd.prog 6 #[v] w fun e w' => e = .returned (.bool true) ∧ Below w.heap.size w w' := by
  cases h : few xs with
  | true => exact lines_yes xs v w hT hS h
  | false => exact lines_no xs v w hT hS h
end ErrsLaws
end Go.Proofs.YtgdkeolmgpimaaaDoor
