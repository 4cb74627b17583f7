/- The walk of the reference's Split: a line's words. Condition: the text is at most 2^38 bytes long. -/
import Derived.Test.YtgdkeolmgpimaaaQuoteWalk7
namespace Go.Proofs.Ytgdkeolmgpimaaa
open Go.RowKit
namespace QuoteWalk
open Kit QuotePlain
theorem cut_nil (w : Bs) (i : Bool) : cut [] w i = if okw w then some [w] else none := rfl
theorem cut_cons (c : UInt8) (r w : Bs) (i : Bool) : cut (c :: r) w i = if c = 32 ∧ i = false then (if okw w then (cut r [] i).map (w :: ·) else none) else cut r (w ++ [c]) (if c = 34 then !i else i) := rfl
theorem refSplit_nil (s : ByteArray) (w : World) (h : s.size = 0) : Calls Try.prog 17 #[.string s] w (SplitPost (splitW (toL s)) w.heap.size w) := by
  have hl : toL s = [] := List.length_eq_zero_iff.1 (by rw [size_toL]; exact h)
  have hsp := Lib.hid (show splitW (toL s) = some [] by rw [hl]; rfl)
  obtain rfl : s = ⟨#[]⟩ := by rw [← ofL_toL s, hl]; rfl
  clear hl
  go_enter Try.func17, Try.ntmps17
  go_wp2
  go_ret2
  rw [hsp.out]
  exact ⟨_, rfl, Strs.nil _ _ _ (by decide), Below.refl _ _⟩
def RelR (s : ByteArray) (k : Nat) (ws : List Bs) (wl : Bs) (ins : Bool) : Prop := k ≤ s.size ∧ Hid ((cut ((toL s).drop k) wl ins).map (ws ++ ·) = cut (toL s) [] false) ∨ k = s.size + 1 ∧ Hid (cut (toL s) [] false = some ws)
set_option maxRecDepth 100000 in
set_option maxHeartbeats 4000000 in
theorem refSplit_some (s : ByteArray) (w : World) (hs : s.size ≤ 274877906944) (h0 : 0 < s.size) : Calls Try.prog 17 #[.string s] w (SplitPost (cut (toL s) [] false) w.heap.size w) := by
  have hne := isEmpty_false (show s ≠ ⟨#[]⟩ by rintro rfl; exact absurd h0 (by decide))
  obtain ⟨i0, hi, hz0, hz1, hz2⟩ := info_parts infoS
  have hi' := Lib.hid hi
  have hz0' := Lib.hid hz0
  have hz1' := Lib.hid hz1
  have hz2' := Lib.hid hz2
  clear hi hz0 hz1 hz2
  go_enter Try.func17, Try.ntmps17
  go_wp2
  go_loopw [4, 5, 6, 7] (fun v x b i wr => ∃ (k : Nat) (ws : List Bs) (wl : Bs) (ins : Bool), ws.length ≤ k ∧ wl.length ≤ k ∧ k ≤ s.size + 1 ∧ i = .int .i64 k ∧ x = .string (ofL wl) ∧ b = .bool ins ∧ OwnS w.heap.size v ws wr ∧ Below w.heap.size w wr ∧ RelR s k ws wl ins) (fun _ _ _ i _ => s.size + 1 - (intOf i).toNat)
  case atStart => exact ⟨0, [], [], false, by simp, by simp, by omega, rfl, rfl, rfl, World.ownsRow_nil _ _ _ _, Below.refl _ _, .inl ⟨by omega, Lib.hid (by simp)⟩⟩
  case round =>
    obtain ⟨k, ws, wl, ins, hwsl, hwll, hk1, rfl, rfl, rfl, hown, hB, hR⟩ := hrel
    rcases hR with ⟨hk, hR⟩ | ⟨hk, hR⟩
    · by_cases hlt : k < s.size
      · have hkne : ((k : Int) == (s.size : Int)) = false := by rw [beq_eq_false_iff_ne]; omega
        obtain ⟨c, hc⟩ : ∃ c, s[k]'hlt = c := ⟨_, rfl⟩
        have hd := drop_at s k hlt
        rw [hc] at hd
        by_cases h32 : c = 32 ∧ ins = false
        · obtain ⟨h32, rfl⟩ := h32
          have hn32 : ((c.toNat : Int) == 32) = true := by rw [h32]; rfl
          have hcut : cut ((toL s).drop k) wl false = if okw wl then (cut ((toL s).drop (k + 1)) [] false).map (wl :: ·) else none := by
            rw [hd, cut_cons, if_pos ⟨h32, rfl⟩]
          have hcut' := Lib.hid hcut
          clear hcut hd h32
          have hu := refUnquote_walk (ofL wl) wr (by rw [size_ofL]; omega)
          rw [toL_ofL, runq_eq] at hu
          cases hok : unq wl with
          | some t =>
            have hw : okw wl = true := by rw [okw, hok]; rfl
            rw [hok] at hu
            have hw' := Lib.hid hw
            clear hok hw
            go_wp2_with fail
            refine hu.mono ?_
            rintro e w1 ⟨rfl, hb1⟩
            have hown1 := ownsRow_below hown hb1 (Nat.le_refl _)
            have hB1 := hB.trans (hb1.mono hB.size)
            have hBs := hB1.size
            rw [show (some t).isSome = true from rfl]
            clear hu hown hB hb1
            generalize uTxt (some t) = ut
            go_wp2_with (at_builtin; refine wpList_append_own _ rfl _ _ 27 rfl w.heap.size 9 i0 (.string ⟨#[]⟩) 1 16 Try.underlying27 hi'.out hz0'.out hz1'.out hz2'.out rfl (by decide) _ _ _ rfl (hown1.alloc _) ⟨w1.heap.size, 0, none⟩ 1 1 [.string (ofL wl)] rfl rfl (cell_one_new _ _ _) (by intro u hu; simp at hu; subst hu; rfl) (by unfold maxLen; omega) (by omega) (by simp; omega) ?_; intro v' w3 hown' hgrow _; have hB3 : Below w.heap.size w w3 := (hB1.alloc hB1.size _).grown hgrow (by simp; omega) (fun j e => (hown1.lt j e).1); clear hgrow hown1 hB1)
            go_roundw
            case rel => exact ⟨k + 1, ws ++ [wl], [], false, by simp; omega, by simp, by omega, by go_num, rfl, rfl, by rw [OwnS, List.length_append, List.map_append]; exact hown', hB3, .inl ⟨by omega, Lib.hid (by
                rw [← hR.out, hcut'.out, hw'.out, if_pos rfl, Option.map_map]; congr 1; funext x; simp)⟩⟩
            case measure => simp [intOf]; omega
          | none =>
            rw [hok] at hu
            have hp := fun w1 => refPlain_walk (ofL wl) w1 (by rw [size_ofL]; omega)
            rw [toL_ofL] at hp
            cases hpl : plainL wl with
            | true =>
              have hw : okw wl = true := by rw [okw, hok, hpl]; rfl
              have hw' := Lib.hid hw
              have hpl' := Lib.hid hpl
              have hp' := Lib.hid hp
              clear hok hw hpl hp
              go_wp2_with fail
              refine hu.mono ?_
              rintro e w1 ⟨rfl, hb1⟩
              have hown1 := ownsRow_below hown hb1 (Nat.le_refl _)
              have hB1 := hB.trans (hb1.mono hB.size)
              have hBs := hB1.size
              rw [show (none : Option Bs).isSome = false from rfl]
              clear hu hown hB hb1
              generalize uTxt none = ut
              go_wp2_with fail
              refine (hp'.out _).mono ?_
              rintro e w' ⟨rfl, rfl⟩
              rw [hpl'.out]
              clear hp'
              go_wp2_with (at_builtin; refine wpList_append_own _ rfl _ _ 27 rfl w.heap.size 9 i0 (.string ⟨#[]⟩) 1 16 Try.underlying27 hi'.out hz0'.out hz1'.out hz2'.out rfl (by decide) _ _ _ rfl (hown1.alloc _) ⟨w1.heap.size, 0, none⟩ 1 1 [.string (ofL wl)] rfl rfl (cell_one_new _ _ _) (by intro u hu; simp at hu; subst hu; rfl) (by unfold maxLen; omega) (by omega) (by simp; omega) ?_; intro v' w3 hown' hgrow _; have hB3 : Below w.heap.size w w3 := (hB1.alloc hB1.size _).grown hgrow (by simp; omega) (fun j e => (hown1.lt j e).1); clear hgrow hown1 hB1)
              go_roundw
              case rel => exact ⟨k + 1, ws ++ [wl], [], false, by simp; omega, by simp, by omega, by go_num, rfl, rfl, by rw [OwnS, List.length_append, List.map_append]; exact hown', hB3, .inl ⟨by omega, Lib.hid (by
                rw [← hR.out, hcut'.out, hw'.out, if_pos rfl, Option.map_map]; congr 1; funext x; simp)⟩⟩
              case measure => simp [intOf]; omega
            | false =>
              have hw : okw wl = false := by rw [okw, hok, hpl]; rfl
              have hn : cut (toL s) [] false = none := by rw [← hR.out, hcut'.out, hw]; rfl
              have hn' := Lib.hid hn
              have hpl' := Lib.hid hpl
              have hp' := Lib.hid hp
              clear hok hw hpl hp hn
              go_wp2_with fail
              refine hu.mono ?_
              rintro e w1 ⟨rfl, hb1⟩
              have hB1 := hB.trans (hb1.mono hB.size)
              rw [show (none : Option Bs).isSome = false from rfl]
              clear hu hown hB hb1
              generalize uTxt none = ut
              go_wp2_with fail
              refine (hp'.out _).mono ?_
              rintro e w' ⟨rfl, rfl⟩
              rw [hpl'.out]
              clear hp'
              go_wp2
              go_ret2
              rw [hn'.out]
              exact splitPost_none hB1

        · have hcut : cut ((toL s).drop k) wl ins = cut ((toL s).drop (k + 1)) (wl ++ [c]) (if c = 34 then !ins else ins) := by
            rw [hd, cut_cons, if_neg h32]
          have hnew : (cut ((toL s).drop (k + 1)) (wl ++ [c]) (if c = 34 then !ins else ins)).map (ws ++ ·) = cut (toL s) [] false := by rw [← hcut]; exact hR.out
          have hnew' := Lib.hid hnew
          have hx : s.extract k (k + 1) = ofL [c] := toL_inj (by
            rw [toL_slice, Nat.add_sub_cancel_left, toL_ofL, hd]; rfl)
          have hcat : ofL wl ++ ofL [c] = ofL (wl ++ [c]) := ofL_append _ _
          have hcat' := Lib.hid hcat
          have hsz1 : (ofL wl).size ≤ k := by rw [size_ofL]; exact hwll
          have hsz2 : (ofL [c]).size = 1 := by rw [size_ofL]; rfl
          have hsz2' : (ofL [c]).size ≤ 1 := by omega
          have h32' := Lib.hid h32
          clear hcut hnew hd hcat hR h32 hsz2
          generalize hA : ofL [c] = A1 at *
          generalize hW : ofL wl = W1 at *
          have hA' := Lib.hid hA
          have hW' := Lib.hid hW
          clear hA hW
          cases ins with
          | true =>
            by_cases h34 : c = 34
            · have hn34 : ((c.toNat : Int) == 34) = true := by rw [h34]; rfl
              rw [if_pos h34] at hnew'
              clear h34
              by_cases g32 : c = 32
              · have hn32 : ((c.toNat : Int) == 32) = true := by rw [g32]; rfl
                clear g32
                go_wp2
                go_roundw
                case rel => exact ⟨k + 1, ws, wl ++ [c], false, by omega, by simp; omega, by omega, by go_num, by rw [hcat'.out], rfl, hown, hB, .inl ⟨by omega, hnew'⟩⟩
                case measure => simp [intOf]; omega
              · have hn32 : ((c.toNat : Int) == 32) = false := by
                  rw [beq_eq_false_iff_ne]; intro x; apply g32; apply UInt8.toNat_inj.1; show c.toNat = 32; omega
                clear g32
                go_wp2
                go_roundw
                case rel => exact ⟨k + 1, ws, wl ++ [c], false, by omega, by simp; omega, by omega, by go_num, by rw [hcat'.out], rfl, hown, hB, .inl ⟨by omega, hnew'⟩⟩
                case measure => simp [intOf]; omega
            · have hn34 : ((c.toNat : Int) == 34) = false := by
                rw [beq_eq_false_iff_ne]; intro x; apply h34; apply UInt8.toNat_inj.1; show c.toNat = 34; omega
              rw [if_neg h34] at hnew'
              clear h34
              by_cases g32 : c = 32
              · have hn32 : ((c.toNat : Int) == 32) = true := by rw [g32]; rfl
                clear g32
                go_wp2
                go_roundw
                case rel => exact ⟨k + 1, ws, wl ++ [c], true, by omega, by simp; omega, by omega, by go_num, by rw [hcat'.out], rfl, hown, hB, .inl ⟨by omega, hnew'⟩⟩
                case measure => simp [intOf]; omega
              · have hn32 : ((c.toNat : Int) == 32) = false := by
                  rw [beq_eq_false_iff_ne]; intro x; apply g32; apply UInt8.toNat_inj.1; show c.toNat = 32; omega
                clear g32
                go_wp2
                go_roundw
                case rel => exact ⟨k + 1, ws, wl ++ [c], true, by omega, by simp; omega, by omega, by go_num, by rw [hcat'.out], rfl, hown, hB, .inl ⟨by omega, hnew'⟩⟩
                case measure => simp [intOf]; omega
          | false =>
            have hn32 : ((c.toNat : Int) == 32) = false := by
              rw [beq_eq_false_iff_ne]; intro x; apply h32'.out; refine ⟨?_, rfl⟩; apply UInt8.toNat_inj.1; show c.toNat = 32; omega
            by_cases h34 : c = 34
            · have hn34 : ((c.toNat : Int) == 34) = true := by rw [h34]; rfl
              rw [if_pos h34] at hnew'
              clear h34
              go_wp2
              go_roundw
              case rel => exact ⟨k + 1, ws, wl ++ [c], true, by omega, by simp; omega, by omega, by go_num, by rw [hcat'.out], rfl, hown, hB, .inl ⟨by omega, hnew'⟩⟩
              case measure => simp [intOf]; omega
            · have hn34 : ((c.toNat : Int) == 34) = false := by
                rw [beq_eq_false_iff_ne]; intro x; apply h34; apply UInt8.toNat_inj.1; show c.toNat = 34; omega
              rw [if_neg h34] at hnew'
              clear h34
              go_wp2
              go_roundw
              case rel => exact ⟨k + 1, ws, wl ++ [c], false, by omega, by simp; omega, by omega, by go_num, by rw [hcat'.out], rfl, hown, hB, .inl ⟨by omega, hnew'⟩⟩
              case measure => simp [intOf]; omega
      · obtain rfl : k = s.size := by omega
        have hd : (toL s).drop s.size = [] := List.drop_eq_nil_of_le (by rw [size_toL]; omega)
        have hcut : cut ((toL s).drop s.size) wl ins = if okw wl then some [wl] else none := by rw [hd, cut_nil]
        have hcut' := Lib.hid hcut
        clear hcut hd
        have hu := refUnquote_walk (ofL wl) wr (by rw [size_ofL]; omega)
        rw [toL_ofL, runq_eq] at hu
        cases hok : unq wl with
        | some t =>
          have hw : okw wl = true := by rw [okw, hok]; rfl
          rw [hok] at hu
          have hw' := Lib.hid hw
          clear hok hw
          go_wp2_with fail
          refine hu.mono ?_
          rintro e w1 ⟨rfl, hb1⟩
          have hown1 := ownsRow_below hown hb1 (Nat.le_refl _)
          have hB1 := hB.trans (hb1.mono hB.size)
          have hBs := hB1.size
          rw [show (some t).isSome = true from rfl]
          clear hu hown hB hb1
          generalize uTxt (some t) = ut
          go_wp2_with (at_builtin; refine wpList_append_own _ rfl _ _ 27 rfl w.heap.size 9 i0 (.string ⟨#[]⟩) 1 16 Try.underlying27 hi'.out hz0'.out hz1'.out hz2'.out rfl (by decide) _ _ _ rfl (hown1.alloc _) ⟨w1.heap.size, 0, none⟩ 1 1 [.string (ofL wl)] rfl rfl (cell_one_new _ _ _) (by intro u hu; simp at hu; subst hu; rfl) (by unfold maxLen; omega) (by omega) (by simp; omega) ?_; intro v' w3 hown' hgrow _; have hB3 : Below w.heap.size w w3 := (hB1.alloc hB1.size _).grown hgrow (by simp; omega) (fun j e => (hown1.lt j e).1); clear hgrow hown1 hB1)
          go_roundw
          case rel => exact ⟨s.size + 1, ws ++ [wl], [], ins, by simp only [List.length_append, List.length_cons, List.length_nil]; omega, by simp, by omega, by go_num, rfl, rfl, by rw [OwnS, List.length_append, List.map_append]; exact hown', hB3, .inr ⟨rfl, Lib.hid (by
            rw [← hR.out, hcut'.out, hw'.out, if_pos rfl]; rfl)⟩⟩
          case measure => simp [intOf]
        | none =>
          rw [hok] at hu
          have hp := fun w1 => refPlain_walk (ofL wl) w1 (by rw [size_ofL]; omega)
          rw [toL_ofL] at hp
          cases hpl : plainL wl with
          | true =>
            have hw : okw wl = true := by rw [okw, hok, hpl]; rfl
            have hw' := Lib.hid hw
            have hpl' := Lib.hid hpl
            have hp' := Lib.hid hp
            clear hok hw hpl hp
            go_wp2_with fail
            refine hu.mono ?_
            rintro e w1 ⟨rfl, hb1⟩
            have hown1 := ownsRow_below hown hb1 (Nat.le_refl _)
            have hB1 := hB.trans (hb1.mono hB.size)
            have hBs := hB1.size
            rw [show (none : Option Bs).isSome = false from rfl]
            clear hu hown hB hb1
            generalize uTxt none = ut
            go_wp2_with fail
            refine (hp'.out _).mono ?_
            rintro e w' ⟨rfl, rfl⟩
            rw [hpl'.out]
            clear hp'
            go_wp2_with (at_builtin; refine wpList_append_own _ rfl _ _ 27 rfl w.heap.size 9 i0 (.string ⟨#[]⟩) 1 16 Try.underlying27 hi'.out hz0'.out hz1'.out hz2'.out rfl (by decide) _ _ _ rfl (hown1.alloc _) ⟨w1.heap.size, 0, none⟩ 1 1 [.string (ofL wl)] rfl rfl (cell_one_new _ _ _) (by intro u hu; simp at hu; subst hu; rfl) (by unfold maxLen; omega) (by omega) (by simp; omega) ?_; intro v' w3 hown' hgrow _; have hB3 : Below w.heap.size w w3 := (hB1.alloc hB1.size _).grown hgrow (by simp; omega) (fun j e => (hown1.lt j e).1); clear hgrow hown1 hB1)
            go_roundw
            case rel => exact ⟨s.size + 1, ws ++ [wl], [], ins, by simp only [List.length_append, List.length_cons, List.length_nil]; omega, by simp, by omega, by go_num, rfl, rfl, by rw [OwnS, List.length_append, List.map_append]; exact hown', hB3, .inr ⟨rfl, Lib.hid (by
            rw [← hR.out, hcut'.out, hw'.out, if_pos rfl]; rfl)⟩⟩
            case measure => simp [intOf]
          | false =>
            have hw : okw wl = false := by rw [okw, hok, hpl]; rfl
            have hn : cut (toL s) [] false = none := by rw [← hR.out, hcut'.out, hw]; rfl
            have hn' := Lib.hid hn
            have hpl' := Lib.hid hpl
            have hp' := Lib.hid hp
            clear hok hw hpl hp hn
            go_wp2_with fail
            refine hu.mono ?_
            rintro e w1 ⟨rfl, hb1⟩
            have hB1 := hB.trans (hb1.mono hB.size)
            rw [show (none : Option Bs).isSome = false from rfl]
            clear hu hown hB hb1
            generalize uTxt none = ut
            go_wp2_with fail
            refine (hp'.out _).mono ?_
            rintro e w' ⟨rfl, rfl⟩
            rw [hpl'.out]
            clear hp'
            go_wp2
            go_ret2
            rw [hn'.out]
            exact splitPost_none hB1

    · have hk' : ¬ (k : Int) ≤ (s.size : Int) := by omega
      clear hk
      go_wp2
      go_ret2
      rw [hR.out]
      exact splitPost_some hown hB
end QuoteWalk
end Go.Proofs.Ytgdkeolmgpimaaa
