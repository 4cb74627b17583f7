/- The walk of quote.Split: a line's words. Condition: the text is at most 2^39 bytes long. -/
import Derived.Test.YtgdkeolmgpimaaaQuoteWalk6
namespace Go.Proofs.Ytgdkeolmgpimaaa
open Go.RowKit
namespace QuoteWalk
open Kit QuotePlain
/-- texts that the call itself put together -/
def OwnS (B : Nat) (v : Value) (ws : List Bs) (w : World) : Prop := w.ownsRow B 9 1 v ws.length (ws.map fun l => Value.string (ofL l))
theorem OwnS.strs {B : Nat} {v : Value} {ws : List Bs} {w : World} (h : OwnS B v ws w) : Strs w v (ws.map ofL) := by
  rcases h.2 with ⟨rfl, h0⟩ | ⟨g, cap, cur, rfl, hb, hg, hn, hm, hs, ht⟩
  · have : ws = [] := List.length_eq_zero_iff.1 h0
    subst this
    exact Strs.nil _ _ _ (by decide)
  · refine ⟨some ⟨g, 0, none⟩, cap, by rw [List.length_map], by rw [List.length_map]; exact hn, by unfold maxLen at hm; omega, .inr ⟨g, 0, rfl, (Array.getElem?_eq_some_iff.1 hg).1, fun j hj => ?_⟩⟩
    rw [List.length_map] at hj
    simp only [World.cell?, hg]
    show cur[0 + j]? = _
    rw [Nat.zero_add]
    have h1 : (cur.toList.take (ws.length * 1))[j]? = (ws.map fun l => Value.string (ofL l))[j]? := by rw [ht]
    rw [List.getElem?_take, if_pos (by omega), Array.getElem?_toList] at h1
    rw [h1, List.getElem?_map, List.getElem?_eq_getElem hj, List.getD_eq_getElem?_getD, List.getElem?_map, List.getElem?_eq_getElem hj]
    rfl
theorem infoS : (Try.prog.info? 9).map (fun i => (i.zero, i.size, i.bytes)) = some (some (.string ⟨#[]⟩), 1, 16) := by kernel_rfl
def SplitPost (r : Option (List Bs)) (B : Nat) (w : World) (e : Ending) (w' : World) : Prop := ∃ v, e = .returned (.tuple #[v, .bool r.isSome]) ∧ Strs w' v ((r.getD []).map ofL) ∧ Below B w w'
theorem splitPost_none {B : Nat} {w w' : World} {a : Option Addr} (hb : Below B w w') : SplitPost none B w (.returned (.tuple #[.slice a 0 0, .bool false])) w' :=
  ⟨_, rfl, Strs.nil _ _ _ (by decide), hb⟩
theorem splitPost_some {B : Nat} {w w' : World} {v : Value} {ws : List Bs} (h : OwnS B v ws w') (hb : Below B w w') : SplitPost (some ws) B w (.returned (.tuple #[v, .bool true])) w' :=
  ⟨_, rfl, h.strs, hb⟩
theorem split_nil (s : ByteArray) (w : World) (h : s.size = 0) : Calls Try.prog 16 #[.string s] w (SplitPost (splitW (toL s)) w.heap.size w) := by
  have hl : toL s = [] := List.length_eq_zero_iff.1 (by rw [size_toL]; exact h)
  have hsp := Lib.hid (show splitW (toL s) = some [] by rw [hl]; rfl)
  obtain rfl : s = ⟨#[]⟩ := by rw [← ofL_toL s, hl]; rfl
  clear hl
  go_enter Try.func16, Try.ntmps16
  go_wp2
  go_step3
  go_wp2
  go_step3
  go_wp2
  go_loop [5] (fun i => i = .int .i64 0) (fun _ => 0)
  case atStart => rfl
  case round =>
    obtain rfl := hrel
    go_wp2
    go_ret2
    rw [hsp.out]
    exact ⟨_, rfl, Strs.nil _ _ _ (by decide), Below.refl _ _⟩
theorem toL_slice (s : ByteArray) (a b : Nat) : toL (s.extract a b) = ((toL s).drop a).take (b - a) := Lib.extract_data s a b
theorem wd_mem : ∀ l : Bs, 32 ∉ QuotePlain.wd l
  | [] => by simp [QuotePlain.wd]
  | c :: r => by
    rw [QuotePlain.wd]
    split
    · simp
    · rename_i h
      simp only [List.mem_cons, not_or]
      exact ⟨fun e => h e.symm, wd_mem r⟩
theorem wd_next : ∀ l : Bs, l[(QuotePlain.wd l).length]? = none ∨ l[(QuotePlain.wd l).length]? = some 32
  | [] => .inl rfl
  | c :: r => by
    rw [QuotePlain.wd]
    split
    · rename_i h; subst h; exact .inr rfl
    · exact wd_next r
set_option maxRecDepth 100000 in
set_option maxHeartbeats 4000000 in
theorem split_some (s : ByteArray) (w : World) (hs : s.size ≤ 549755813888) (h0 : 0 < s.size) : Calls Try.prog 16 #[.string s] w (SplitPost (split1 (toL s)) w.heap.size w) := by
  have hne := isEmpty_false (show s ≠ ⟨#[]⟩ by rintro rfl; exact absurd h0 (by decide))
  obtain ⟨i0, hi, hz0, hz1, hz2⟩ := info_parts infoS
  have hi' := Lib.hid hi
  have hz0' := Lib.hid hz0
  have hz1' := Lib.hid hz1
  have hz2' := Lib.hid hz2
  clear hi hz0 hz1 hz2
  go_enter Try.func16, Try.ntmps16
  go_wp2
  go_step3
  go_wp2
  go_step3
  go_wp2
  go_loopw [4, 5] (fun v i wr => ∃ (k : Nat) (ws : List Bs), k < s.size ∧ ws.length ≤ k ∧ i = .int .i64 k ∧ OwnS w.heap.size v ws wr ∧ Below w.heap.size w wr ∧
      Hid ((split1 ((toL s).drop k)).map (ws ++ ·) = split1 (toL s))) (fun _ i _ => s.size - (intOf i).toNat)
  case atStart => exact ⟨0, [], h0, by simp, rfl, World.ownsRow_nil _ _ _ _, Below.refl _ _, Lib.hid (by simp)⟩
  case round =>
    obtain ⟨k, ws, hk, hwl, rfl, hown, hB, hR⟩ := hrel
    have hq := quoted_walk (s.extract k s.size) wr (by rw [size_from]; omega)
    rw [toL_from] at hq
    have hl : ((toL s).drop k).length = s.size - k := by rw [List.length_drop, size_toL]
    have hne2 : (toL s).drop k ≠ [] := by intro e; rw [e] at hl; simp at hl; omega
    have hsz := size_from s k
    cases hqr : qtd ((toL s).drop k) with
    | some x =>
      obtain ⟨t, n⟩ := x
      rw [hqr] at hq
      obtain ⟨⟨r, hr⟩, hn⟩ := (qtd_iff _ _ _).1 hqr
      have hnl : k + n ≤ s.size ∧ 1 ≤ n := by
        have := congrArg List.length hr
        rw [List.length_append, hl, ← hn] at this
        have : 1 ≤ n := by rw [hn, quoteL]; simp
        omega
      obtain ⟨hnl, hn1⟩ := hnl
      have hw1 : word1 ((toL s).drop k) = some (((toL s).drop k).take n) := by rw [word1, hqr]
      have hW := Lib.hid hw1
      have hT := toL_slice s k (k + n)
      rw [Nat.add_sub_cancel_left] at hT
      have hT' := Lib.hid hT
      have hR' := Lib.hid hR.out
      clear hr hn hqr hR hT hw1
      go_wp2_with fail
      refine hq.mono ?_
      rintro e w1 ⟨rfl, hb1⟩
      simp only [rTxt, rLen, rOk]
      have hown1 := ownsRow_below hown hb1 (Nat.le_refl _)
      have hB1 := hB.trans (hb1.mono hB.size)
      have hBs := hB1.size
      clear hq hown hB hb1
      generalize hwd : s.extract k (k + n) = wd at *
      obtain ⟨W0, hW0d⟩ : ∃ W0, W0 = ((toL s).drop k).take n := ⟨_, rfl⟩
      rw [← hW0d] at hW hT'
      have hdl : ((toL s).drop k).drop n = (toL s).drop (k + n) := by rw [List.drop_drop]
      have hown3 : ∀ v' w3, World.ownsRow w3 w.heap.size 9 1 v' (ws.length + 1) ((ws.map fun l => Value.string (ofL l)) ++ [Value.string wd]) → OwnS w.heap.size v' (ws ++ [W0]) w3 := by
        intro v' w3 h
        have e : wd = ofL W0 := by rw [← hT'.out, ofL_toL]
        rw [OwnS, List.length_append, List.map_append]
        rw [e] at h
        exact h
      have hown3' := Lib.hid hown3
      have hwn : W0.length = n := by rw [hW0d, List.length_take, hl]; omega
      have hdl' := Lib.hid hdl
      clear hown3 hdl hl
      by_cases hend : k + n = s.size
      · have hsp : split1 (toL s) = some (ws ++ [W0]) := by
          rw [← hR'.out, split1_last hW.out (by rw [hwn, hdl'.out]; exact List.drop_eq_nil_of_le (by rw [size_toL]; omega))]; rfl
        have hsp' := Lib.hid hsp
        have hend1 : (((k : Int) + (n : Int)) == (s.size : Int)) = true := by rw [beq_iff_eq]; omega
        clear hsp hend hwn
        go_wp2_with (at_builtin; refine wpList_append_own _ rfl _ _ 27 rfl w.heap.size 9 i0 (.string ⟨#[]⟩) 1 16 Try.underlying27 hi'.out hz0'.out hz1'.out hz2'.out rfl (by decide) _ _ _ rfl (hown1.alloc _) ⟨w1.heap.size, 0, none⟩ 1 1 [.string wd] rfl rfl (cell_one_new _ _ _) (by intro u hu; simp at hu; subst hu; rfl) (by unfold maxLen; omega) (by omega) (by simp; omega) ?_; intro v' w3 hown' hgrow _; have hB3 : Below w.heap.size w w3 := (hB1.alloc hB1.size _).grown hgrow (by simp; omega) (fun j e => (hown1.lt j e).1); clear hgrow hown1 hB1)
        rw [Exit.noGoto_ret]
        go_ret2
        rw [hsp'.out]
        exact splitPost_some (hown3'.out _ _ hown') hB3
      · have hlt : k + n < s.size := by omega
        obtain ⟨c, hc⟩ : ∃ c, s[k + n]'hlt = c := ⟨_, rfl⟩
        have hend1 : (((k : Int) + (n : Int)) == (s.size : Int)) = false := by rw [beq_eq_false_iff_ne]; omega
        have hdr := drop_at s (k + n) hlt
        rw [hc] at hdr
        have hdw : ((toL s).drop k).drop W0.length = c :: (toL s).drop (k + n + 1) := by rw [hwn, hdl'.out]; exact hdr
        have hln : ((toL s).drop (k + n + 1)).length = s.size - (k + n + 1) := by rw [List.length_drop, size_toL]
        by_cases h32 : c = 32
        · subst h32
          by_cases hlast : k + n + 1 = s.size
          · have hnil : (toL s).drop (k + n + 1) = [] := List.length_eq_zero_iff.1 (by omega)
            have hsp : split1 (toL s) = none := by
              rw [← hR'.out, split1_bad hW.out hdw (fun x => x.2 hnil)]; rfl
            have hsp' := Lib.hid hsp
            have hend2 : (((k : Int) + (n : Int) + 1) == (s.size : Int)) = true := by rw [beq_iff_eq]; omega
            clear hsp hnil hdw hln hdr hend hwn hlast
            go_wp2_with (at_builtin; refine wpList_append_own _ rfl _ _ 27 rfl w.heap.size 9 i0 (.string ⟨#[]⟩) 1 16 Try.underlying27 hi'.out hz0'.out hz1'.out hz2'.out rfl (by decide) _ _ _ rfl (hown1.alloc _) ⟨w1.heap.size, 0, none⟩ 1 1 [.string wd] rfl rfl (cell_one_new _ _ _) (by intro u hu; simp at hu; subst hu; rfl) (by unfold maxLen; omega) (by omega) (by simp; omega) ?_; intro v' w3 hown' hgrow _; have hB3 : Below w.heap.size w w3 := (hB1.alloc hB1.size _).grown hgrow (by simp; omega) (fun j e => (hown1.lt j e).1); clear hgrow hown1 hB1)
            first | rw [Exit.noGoto_ret] | skip
            go_ret2
            rw [hsp'.out]
            exact splitPost_none hB3
          · have hsp : (split1 ((toL s).drop (k + n + 1))).map ((ws ++ [W0]) ++ ·) = split1 (toL s) := by
              rw [← hR'.out, split1_more hW.out hdw (by intro e; rw [e] at hln; simp at hln; omega), Option.map_map]
              congr 1
              funext x; simp
            have hsp' := Lib.hid hsp
            have hend2 : (((k : Int) + (n : Int) + 1) == (s.size : Int)) = false := by rw [beq_eq_false_iff_ne]; omega
            clear hsp hdw hln hdr hend hwn
            go_wp2_with (at_builtin; refine wpList_append_own _ rfl _ _ 27 rfl w.heap.size 9 i0 (.string ⟨#[]⟩) 1 16 Try.underlying27 hi'.out hz0'.out hz1'.out hz2'.out rfl (by decide) _ _ _ rfl (hown1.alloc _) ⟨w1.heap.size, 0, none⟩ 1 1 [.string wd] rfl rfl (cell_one_new _ _ _) (by intro u hu; simp at hu; subst hu; rfl) (by unfold maxLen; omega) (by omega) (by simp; omega) ?_; intro v' w3 hown' hgrow _; have hB3 : Below w.heap.size w w3 := (hB1.alloc hB1.size _).grown hgrow (by simp; omega) (fun j e => (hown1.lt j e).1); clear hgrow hown1 hB1)
            go_roundw
            case rel => exact ⟨k + n + 1, ws ++ [W0], by omega, by simp; omega, by go_num, hown3'.out _ _ hown', hB3, hsp'⟩
            case measure => simp [intOf]; omega
        · have hsp : split1 (toL s) = none := by
            rw [← hR'.out, split1_bad hW.out hdw (fun x => h32 x.1)]; rfl
          have hsp' := Lib.hid hsp
          have hn32 : ((c.toNat : Int) != 32) = true := by
            rw [bne_iff_ne]; intro x; apply h32; apply UInt8.toNat_inj.1; show c.toNat = 32; omega
          clear hsp hdw hln hdr hend hwn h32
          go_wp2_with (at_builtin; refine wpList_append_own _ rfl _ _ 27 rfl w.heap.size 9 i0 (.string ⟨#[]⟩) 1 16 Try.underlying27 hi'.out hz0'.out hz1'.out hz2'.out rfl (by decide) _ _ _ rfl (hown1.alloc _) ⟨w1.heap.size, 0, none⟩ 1 1 [.string wd] rfl rfl (cell_one_new _ _ _) (by intro u hu; simp at hu; subst hu; rfl) (by unfold maxLen; omega) (by omega) (by simp; omega) ?_; intro v' w3 hown' hgrow _; have hB3 : Below w.heap.size w w3 := (hB1.alloc hB1.size _).grown hgrow (by simp; omega) (fun j e => (hown1.lt j e).1); clear hgrow hown1 hB1)
          first | rw [Exit.noGoto_ret] | skip
          go_ret2
          rw [hsp'.out]
          exact splitPost_none hB3
    | none =>
      rw [hqr] at hq
      have hws := wd_split ((toL s).drop k)
      obtain ⟨W0, hW0d⟩ : ∃ W0, W0 = QuotePlain.wd ((toL s).drop k) := ⟨_, rfl⟩
      rw [← hW0d] at hws
      obtain ⟨n, hwn0⟩ : ∃ n, n = W0.length := ⟨_, rfl⟩
      have hnl : k + n ≤ s.size := by
        have := congrArg List.length hws
        rw [List.length_append, hl, ← hwn0] at this
        omega
      have hW1 : word1 ((toL s).drop k) = if plainL W0 then some W0 else none := by rw [word1, hqr, hW0d]
      have hW1' := Lib.hid hW1
      have htk : ((toL s).drop k).take n = W0 := by
        conv => lhs; rw [hws, hwn0]
        simp
      have hT := toL_slice s k (k + n)
      rw [Nat.add_sub_cancel_left, htk] at hT
      have hT' := Lib.hid hT
      have hno : ∀ j, (h : k + j < s.size) → j < n → s[k + j] ≠ 32 := by
        intro j h hj e
        have h1 : ((toL s).drop k)[j]? = some 32 := by rw [List.getElem?_drop, toL_get s _ h, e]
        rw [hws, List.getElem?_append_left (by omega), hW0d] at h1
        exact wd_mem _ (List.mem_of_getElem? h1)
      have hat : (h : k + n < s.size) → s[k + n] = 32 := by
        intro h
        have h1 : ((toL s).drop k)[n]? = some s[k + n] := by rw [List.getElem?_drop, toL_get s _ h]
        have h2 := wd_next ((toL s).drop k)
        rw [← hW0d, ← hwn0, h1] at h2
        simpa using h2
      have hno' := Lib.hid hno
      have hat' := Lib.hid hat
      have hR' := Lib.hid hR.out
      have hwn0' := Lib.hid hwn0
      have htk' := Lib.hid htk
      clear hqr hR hT hW1 hws hno hat hwn0 htk hW0d
      go_wp2_with fail
      refine hq.mono ?_
      rintro e w1 ⟨rfl, hb1⟩
      simp only [rTxt, rLen, rOk]
      have hown1 := ownsRow_below hown hb1 (Nat.le_refl _)
      have hB1 := hB.trans (hb1.mono hB.size)
      have hBs := hB1.size
      clear hq hown hB hb1
      have hpl := plain_walk (s.extract k (k + n)) w1 (by
        have := size_toL (s.extract k (k + n))
        rw [hT'.out] at this
        have h2 := hwn0'.out
        omega)
      rw [hT'.out] at hpl
      go_wp2
      go_loop [9] (fun i => ∃ m : Nat, k ≤ m ∧ m ≤ k + n ∧ i = .int .i64 (m : Int)) (fun i => s.size - (intOf i).toNat)
      case atStart => exact ⟨k, by omega, by omega, rfl⟩
      case round =>
        obtain ⟨m, hmk, hmn, rfl⟩ := hrel
        by_cases hjn : m < k + n
        · have hlt : m < s.size := by omega
          obtain ⟨c, hc⟩ : ∃ c, s[m]'hlt = c := ⟨_, rfl⟩
          have hn32 : ((c.toNat : Int) != 32) = true := by
            rw [bne_iff_ne]; intro x
            obtain ⟨j, rfl⟩ : ∃ j, m = k + j := ⟨m - k, by omega⟩
            apply hno'.out j hlt (by omega); rw [hc]; apply UInt8.toNat_inj.1; show c.toNat = 32; omega
          clear hpl
          go_wp2
          go_round
          case rel => exact ⟨m + 1, by omega, by omega, by go_num⟩
          case measure => simp [intOf]; omega
        · obtain rfl : m = k + n := by omega
          rw [show ((k + n : Nat) : Int) = (k : Int) + (n : Int) from by omega]
          by_cases hlt : k + n < s.size
          · obtain ⟨c0, hc0⟩ : ∃ c, s[k + n]'hlt = c := ⟨_, rfl⟩
            have hn0 : ((c0.toNat : Int) != 32) = false := by rw [← hc0, hat'.out hlt]; rfl
            have hlti : (k : Int) + (n : Int) < (s.size : Int) := by omega
            have hend : ¬ k + n = s.size := by omega
            cases hp : plainL W0 with
            | false =>
              have hsp : split1 (toL s) = none := by
                rw [← hR'.out, split1_none (by rw [hW1'.out, hp]; rfl)]; rfl
              have hsp' := Lib.hid hsp
              have hp' := Lib.hid hp
              clear hsp hp
              go_wp2_with fail
              refine hpl.mono ?_
              rintro e w' ⟨rfl, rfl⟩
              rw [hp'.out]
              go_wp2
              first | rw [Exit.noGoto_ret] | skip
              go_ret2
              rw [hsp'.out]
              exact splitPost_none hB1
            | true =>
              have hn1 : 1 ≤ n := by
                have := plain_ne hp
                cases W0 with
                | nil => exact absurd rfl this
                | cons x r => rw [hwn0'.out]; simp
              have hW := Lib.hid (show word1 ((toL s).drop k) = some W0 by rw [hW1'.out, hp]; rfl)
              have hp' := Lib.hid hp
              have hwn : W0.length = n := hwn0'.out.symm
              clear hp
              go_wp2_with fail
              refine hpl.mono ?_
              rintro e w' ⟨rfl, rfl⟩
              rw [hp'.out]
              clear hc0 hn0
              generalize hwd : s.extract k (k + n) = wd at *
              have hdl : ((toL s).drop k).drop n = (toL s).drop (k + n) := by rw [List.drop_drop]
              have hown3 : ∀ v' w3, World.ownsRow w3 w.heap.size 9 1 v' (ws.length + 1) ((ws.map fun l => Value.string (ofL l)) ++ [Value.string wd]) → OwnS w.heap.size v' (ws ++ [W0]) w3 := by
                intro v' w3 h
                have e : wd = ofL W0 := by rw [← hT'.out, ofL_toL]
                rw [OwnS, List.length_append, List.map_append]
                rw [e] at h
                exact h
              have hown3' := Lib.hid hown3
              have hdl' := Lib.hid hdl
              clear hown3 hdl hl
              obtain ⟨c, hc⟩ : ∃ c, s[k + n]'hlt = c := ⟨_, rfl⟩
              have hend1 : (((k : Int) + (n : Int)) == (s.size : Int)) = false := by rw [beq_eq_false_iff_ne]; omega
              have hdr := drop_at s (k + n) hlt
              rw [hc] at hdr
              have hdw : ((toL s).drop k).drop W0.length = c :: (toL s).drop (k + n + 1) := by rw [hwn, hdl'.out]; exact hdr
              have hln : ((toL s).drop (k + n + 1)).length = s.size - (k + n + 1) := by rw [List.length_drop, size_toL]
              by_cases h32 : c = 32
              · subst h32
                by_cases hlast : k + n + 1 = s.size
                · have hnil : (toL s).drop (k + n + 1) = [] := List.length_eq_zero_iff.1 (by omega)
                  have hsp : split1 (toL s) = none := by
                    rw [← hR'.out, split1_bad hW.out hdw (fun x => x.2 hnil)]; rfl
                  have hsp' := Lib.hid hsp
                  have hend2 : (((k : Int) + (n : Int) + 1) == (s.size : Int)) = true := by rw [beq_iff_eq]; omega
                  clear hsp hnil hdw hln hdr hend hwn hlast
                  go_wp2_with (at_builtin; refine wpList_append_own _ rfl _ _ 27 rfl w.heap.size 9 i0 (.string ⟨#[]⟩) 1 16 Try.underlying27 hi'.out hz0'.out hz1'.out hz2'.out rfl (by decide) _ _ _ rfl (hown1.alloc _) ⟨w1.heap.size, 0, none⟩ 1 1 [.string wd] rfl rfl (cell_one_new _ _ _) (by intro u hu; simp at hu; subst hu; rfl) (by unfold maxLen; omega) (by omega) (by simp; omega) ?_; intro v' w3 hown' hgrow _; have hB3 : Below w.heap.size w w3 := (hB1.alloc hB1.size _).grown hgrow (by simp; omega) (fun j e => (hown1.lt j e).1); clear hgrow hown1 hB1)
                  first | rw [Exit.noGoto_ret] | skip
                  go_ret2
                  rw [hsp'.out]
                  exact splitPost_none hB3
                · have hsp : (split1 ((toL s).drop (k + n + 1))).map ((ws ++ [W0]) ++ ·) = split1 (toL s) := by
                    rw [← hR'.out, split1_more hW.out hdw (by intro e; rw [e] at hln; simp at hln; omega), Option.map_map]
                    congr 1
                    funext x; simp
                  have hsp' := Lib.hid hsp
                  have hend2 : (((k : Int) + (n : Int) + 1) == (s.size : Int)) = false := by rw [beq_eq_false_iff_ne]; omega
                  clear hsp hdw hln hdr hend hwn
                  go_wp2_with (at_builtin; refine wpList_append_own _ rfl _ _ 27 rfl w.heap.size 9 i0 (.string ⟨#[]⟩) 1 16 Try.underlying27 hi'.out hz0'.out hz1'.out hz2'.out rfl (by decide) _ _ _ rfl (hown1.alloc _) ⟨w1.heap.size, 0, none⟩ 1 1 [.string wd] rfl rfl (cell_one_new _ _ _) (by intro u hu; simp at hu; subst hu; rfl) (by unfold maxLen; omega) (by omega) (by simp; omega) ?_; intro v' w3 hown' hgrow _; have hB3 : Below w.heap.size w w3 := (hB1.alloc hB1.size _).grown hgrow (by simp; omega) (fun j e => (hown1.lt j e).1); clear hgrow hown1 hB1)
                  go_roundw
                  case rel => exact ⟨k + n + 1, ws ++ [W0], by omega, by simp; omega, by go_num, hown3'.out _ _ hown', hB3, hsp'⟩
                  case measure => simp [intOf]; omega
              · exact absurd (by rw [← hc]; exact hat'.out hlt) h32
          · have hlti : ¬ (k : Int) + (n : Int) < (s.size : Int) := by omega
            cases hp : plainL W0 with
            | false =>
              have hsp : split1 (toL s) = none := by
                rw [← hR'.out, split1_none (by rw [hW1'.out, hp]; rfl)]; rfl
              have hsp' := Lib.hid hsp
              have hp' := Lib.hid hp
              clear hsp hp
              go_wp2_with fail
              refine hpl.mono ?_
              rintro e w' ⟨rfl, rfl⟩
              rw [hp'.out]
              go_wp2
              first | rw [Exit.noGoto_ret] | skip
              go_ret2
              rw [hsp'.out]
              exact splitPost_none hB1
            | true =>
              have hn1 : 1 ≤ n := by
                have := plain_ne hp
                cases W0 with
                | nil => exact absurd rfl this
                | cons x r => rw [hwn0'.out]; simp
              have hW := Lib.hid (show word1 ((toL s).drop k) = some W0 by rw [hW1'.out, hp]; rfl)
              have hp' := Lib.hid hp
              have hwn : W0.length = n := hwn0'.out.symm
              clear hp
              go_wp2_with fail
              refine hpl.mono ?_
              rintro e w' ⟨rfl, rfl⟩
              rw [hp'.out]
              have hend : k + n = s.size := by omega
              generalize hwd : s.extract k (k + n) = wd at *
              have hdl : ((toL s).drop k).drop n = (toL s).drop (k + n) := by rw [List.drop_drop]
              have hown3 : ∀ v' w3, World.ownsRow w3 w.heap.size 9 1 v' (ws.length + 1) ((ws.map fun l => Value.string (ofL l)) ++ [Value.string wd]) → OwnS w.heap.size v' (ws ++ [W0]) w3 := by
                intro v' w3 h
                have e : wd = ofL W0 := by rw [← hT'.out, ofL_toL]
                rw [OwnS, List.length_append, List.map_append]
                rw [e] at h
                exact h
              have hown3' := Lib.hid hown3
              have hdl' := Lib.hid hdl
              clear hown3 hdl hl
              have hsp : split1 (toL s) = some (ws ++ [W0]) := by
                rw [← hR'.out, split1_last hW.out (by rw [hwn, hdl'.out]; exact List.drop_eq_nil_of_le (by rw [size_toL]; omega))]; rfl
              have hsp' := Lib.hid hsp
              have hend1 : (((k : Int) + (n : Int)) == (s.size : Int)) = true := by rw [beq_iff_eq]; omega
              clear hsp hend hwn
              go_wp2_with (at_builtin; refine wpList_append_own _ rfl _ _ 27 rfl w.heap.size 9 i0 (.string ⟨#[]⟩) 1 16 Try.underlying27 hi'.out hz0'.out hz1'.out hz2'.out rfl (by decide) _ _ _ rfl (hown1.alloc _) ⟨w1.heap.size, 0, none⟩ 1 1 [.string wd] rfl rfl (cell_one_new _ _ _) (by intro u hu; simp at hu; subst hu; rfl) (by unfold maxLen; omega) (by omega) (by simp; omega) ?_; intro v' w3 hown' hgrow _; have hB3 : Below w.heap.size w w3 := (hB1.alloc hB1.size _).grown hgrow (by simp; omega) (fun j e => (hown1.lt j e).1); clear hgrow hown1 hB1)
              rw [Exit.noGoto_ret]
              go_ret2
              rw [hsp'.out]
              exact splitPost_some (hown3'.out _ _ hown') hB3
end QuoteWalk
end Go.Proofs.Ytgdkeolmgpimaaa
