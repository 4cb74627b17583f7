/- A table with an inode: the reference's way. -/
import Derived.Test.YteaemnjomlcfcaaTabRef
set_option linter.unusedVariables false
set_option linter.unusedSimpArgs false
namespace Go.Proofs.Yteaemnjomlcfcaa.Tab
open Go.RowKit Go.Proofs.Yteaemnjomlcfcaa.Kit
theorem OwnNods.alloc' {w : World} {B : Nat} {v : Value} {xs : List Nod} (h : OwnNods w B v xs) (o : Obj) : OwnNods (w.alloc o) B v xs := World.ownsRow.alloc h o
theorem OwnNods.hid {w : World} {B : Nat} {v : Value} {xs : List Nod} (h : OwnNods w B v xs) : ∃ a c n, v = .slice a n c ∧ Hid (n = xs.length) ∧ Hid (OwnNods w B (.slice a n c) xs) := by
  obtain ⟨a, c, rfl⟩ := h.slice
  exact ⟨a, c, _, rfl, Lib.hid rfl, Lib.hid h⟩
def some_gt (x : Nod) (l : List Nod) : Bool := l.any fun y => decide (x.ino < y.ino)
theorem some_gt_snoc (x : Nod) (l : List Nod) (y : Nod) : some_gt x (l ++ [y]) = (some_gt x l || decide (x.ino < y.ino)) := by simp [some_gt]
theorem put_none {x : Nod} : ∀ {l : List Nod}, some_gt x l = false → put x l = l ++ [x]
  | [], _ => rfl
  | y :: r, h => by
    simp [some_gt] at h
    rw [put, if_neg (by omega), put_none (by simpa [some_gt] using h.2)]; rfl
theorem put_snoc_done {x : Nod} : ∀ {l : List Nod} {y : Nod}, some_gt x l = true → put x (l ++ [y]) = put x l ++ [y]
  | [], _, h => by cases h
  | z :: r, y, h => by
    rw [List.cons_append, put, put]
    split
    · rfl
    · next hz => rw [put_snoc_done (by simpa [some_gt, hz] using h)]; rfl
theorem put_snoc_first {x : Nod} : ∀ {l : List Nod} {y : Nod}, some_gt x l = false → x.ino < y.ino → put x (l ++ [y]) = l ++ [x] ++ [y]
  | [], y, _, hy => by simp [put, hy]
  | z :: r, y, h, hy => by
    simp [some_gt] at h
    rw [List.cons_append, put, if_neg (by omega), put_snoc_first (by simpa [some_gt] using h.2) hy]; rfl
/-- what the loop has put out -/
def outs (x : Nod) (l : List Nod) : List Nod := if some_gt x l then put x l else l
theorem outs_done {x : Nod} {l : List Nod} {k : Nat} (hk : k < l.length) (h : some_gt x (l.take k) = true) : outs x (l.take (k + 1)) = outs x (l.take k) ++ [l[k]] ∧ some_gt x (l.take (k + 1)) = true := by
  rw [List.take_succ_eq_append_getElem hk]
  have h2 : some_gt x (l.take k ++ [l[k]]) = true := by rw [some_gt_snoc, h]; rfl
  exact ⟨by unfold outs; rw [h, h2, if_pos rfl, if_pos rfl, put_snoc_done h], h2⟩
theorem outs_first {x : Nod} {l : List Nod} {k : Nat} (hk : k < l.length) (h : some_gt x (l.take k) = false) (hx : x.ino < l[k].ino) : outs x (l.take (k + 1)) = outs x (l.take k) ++ [x] ++ [l[k]] ∧ some_gt x (l.take (k + 1)) = true := by
  rw [List.take_succ_eq_append_getElem hk]
  have h2 : some_gt x (l.take k ++ [l[k]]) = true := by rw [some_gt_snoc, h]; simpa using hx
  exact ⟨by unfold outs; rw [h, h2, if_pos rfl, if_neg (by simp), put_snoc_first h hx], h2⟩
theorem outs_more {x : Nod} {l : List Nod} {k : Nat} (hk : k < l.length) (h : some_gt x (l.take k) = false) (hx : ¬ x.ino < l[k].ino) : outs x (l.take (k + 1)) = outs x (l.take k) ++ [l[k]] ∧ some_gt x (l.take (k + 1)) = false := by
  rw [List.take_succ_eq_append_getElem hk]
  have h2 : some_gt x (l.take k ++ [l[k]]) = false := by rw [some_gt_snoc, h]; simpa using hx
  exact ⟨by unfold outs; rw [h, h2, if_neg (by simp), if_neg (by simp)], h2⟩
theorem outs_end_done {x : Nod} {l : List Nod} (h : some_gt x l = true) : outs x l = put x l := by unfold outs; rw [if_pos h]
theorem outs_end_not {x : Nod} {l : List Nod} (h : some_gt x l = false) : outs x l ++ [x] = put x l := by unfold outs; rw [if_neg (by simp [h]), put_none h]
theorem outs_len {x : Nod} {l : List Nod} : (outs x l).length ≤ l.length + 1 := by
  unfold outs; split
  · rw [put_len]; omega
  · omega
theorem field_fs (p q r s : Value) (W : World) : Sem.run Try.prog (Instr.field 25 (.agg #[p, q, r, s]) 3) W = .ok s W := by kernel_rfl
set_option maxHeartbeats 8000000 in
set_option maxRecDepth 100000 in
theorem rset_walk (mi mb nx : Int) (xs : List Nod) (x : Nod) (a : Option Addr) (c : Nat) (w : World) (hN : Nods w a c xs) (hz : xs.length ≤ 90000) :
    Calls Try.prog 21 #[.agg #[.int .i64 mi, .int .i64 mb, .int .i64 nx, .slice a xs.length c], .agg #[.int .i64 x.ino, .int .i64 x.kind, .int .i64 x.links, .string x.data, .int .i64 x.parent, .slice x.ea x.es.length x.ec]] w (FsPost mi mb nx (set x xs) w.heap.size w) := by
  obtain ⟨l1, l2, l3⟩ := hN.len
  obtain ⟨i0, hi, hz0, hz1, hz2⟩ := info_parts info_inode
  have hd := fun W (hW : Below w.heap.size w W) => rdrop_walk mi mb nx xs x.ino a c W (hN.below hW (Nat.le_refl _)) (by omega)
  have HD := Lib.hid hd
  have hok : ∀ z ∈ drop x.ino xs, NodOk w z := fun z hz => hN.2 z (drop_sub z hz)
  have HOK := Lib.hid hok
  have hset : put x (drop x.ino xs) = set x xs := rfl
  have HS := Lib.hid hset
  have hrl : (drop x.ino xs).length ≤ 90000 := Nat.le_trans drop_len hz
  obtain ⟨ys, hys⟩ : ∃ ys, ys = drop x.ino xs := ⟨_, rfl⟩
  rw [← hys] at HD HOK HS hrl
  obtain ⟨W0, hW0⟩ : ∃ W0, W0 = ((w.alloc (.cells #[.int .i64 mi, .int .i64 mb, .int .i64 nx, .slice a xs.length c] 25)).alloc (Obj.cells #[.int .i64 x.ino, .int .i64 x.kind, .int .i64 x.links, .string x.data, .int .i64 x.parent, .slice x.ea x.es.length x.ec] 35)).alloc (Obj.cells #[.int .i64 0, .int .i64 0, .int .i64 0, .slice none 0 0] 25) := ⟨_, rfl⟩
  have hB1 : Below w.heap.size w W0 := by rw [hW0]; exact (((Below.refl w.heap.size w).alloc (Nat.le_refl _) _).alloc (by simp) _).alloc (by simp; omega) _
  obtain ⟨t0, t1, t2⟩ := laid2 w (Obj.cells #[.int .i64 mi, .int .i64 mb, .int .i64 nx, .slice a xs.length c] 25) (Obj.cells #[.int .i64 x.ino, .int .i64 x.kind, .int .i64 x.links, .string x.data, .int .i64 x.parent, .slice x.ea x.es.length x.ec] 35) (Obj.cells #[.int .i64 0, .int .i64 0, .int .i64 0, .slice none 0 0] 25)
  rw [← hW0] at t0 t1 t2
  have hs0 : W0.heap.size = w.heap.size + 1 + 1 + 1 := by rw [hW0]; simp
  have S0 := Lib.hid hs0
  have T0 := Lib.hid t0
  have T1 := Lib.hid t1
  have T2 := Lib.hid t2
  have HW := Lib.hid hW0
  have hsl : w.heap.size + 1 + 1 < W0.heap.size := by omega
  clear hd hN hok hset hys hW0 hs0 t0 t1 t2
  go_enter Try.func21, Try.ntmps21
  go_wp2_with fail
  rw [← HW.out]
  refine (HD.out _ hB1).mono ?_
  rintro e w1 ⟨v, rfl, hown, hB2⟩
  have hs1 := hB2.size
  obtain ⟨va, vc, hv⟩ := hown.slice
  subst hv
  have R := Lib.hid (hown.nods fun z hz => (HOK.out z hz).below (hB1.trans (hB2.mono hB1.size)) (Nat.le_refl _))
  obtain ⟨va', vc', hve, hNR, -⟩ := hown.nods fun z hz => (HOK.out z hz).below (hB1.trans (hB2.mono hB1.size)) (Nat.le_refl _)
  have hve' : va' = va ∧ vc' = vc := by simp at hve; exact ⟨hve.1.symm, hve.2.symm⟩
  obtain ⟨rfl, rfl⟩ := hve'
  have HR := Lib.hid hNR
  obtain ⟨k1, k2, k3⟩ := hNR.len
  clear hve hNR hown R
  unfold FsVal
  have hfs := field_fs
  go_wp2
  clear hfs
  go_loopw [6, 7, 8] (fun s6 s7 s8 wr => ∃ (k : Nat) (ua : Option Addr) (uc : Nat), s8 = .int .i64 k ∧ k ≤ ys.length ∧ s7 = .bool (some_gt x (ys.take k)) ∧ s6 = .slice ua (outs x (ys.take k)).length uc ∧ Hid (OwnNods wr w1.heap.size (.slice ua (outs x (ys.take k)).length uc) (outs x (ys.take k))) ∧ Below w1.heap.size w1 wr) (fun _ _ s8 _ => ys.length - (intOf s8).toNat)
  case atStart => exact ⟨0, none, 0, rfl, Nat.zero_le _, rfl, rfl, Lib.hid (World.ownsRow_nil _ _ _ _), Below.refl _ _⟩
  case round =>
    obtain ⟨k, ua, uc, rfl, hk, rfl, rfl, O, hB⟩ := hrel
    have hs := hB.size
    have t0 := T0.out
    have t1 := T1.out
    have t2 := T2.out
    rw [← hB2.block _ (by omega), ← hB.block _ (by omega)] at t0 t1 t2
    obtain ⟨a0, a1, a2, a3, af⟩ := box4 t0
    obtain ⟨x0, x1, x2, x3, x4, x5, xf⟩ := box6 t1
    obtain ⟨r0, r1, r2, r3, rf⟩ := box4 t2
    clear t0 t1 t2
    have hBw : Below w.heap.size w wr := (hB1.trans (hB2.mono hB1.size)).trans (hB.mono (by omega))
    have hol : (outs x (ys.take k)).length ≤ k + 1 := Nat.le_trans outs_len (by rw [List.length_take]; omega)
    by_cases hlt : k < ys.length
    · obtain ⟨b, o, rfl, hb, c0, c1, c2, c3, c4, c5⟩ := (HR.out.below hB (Nat.le_refl _)).at k hlt
      have hfz : ∀ o, wr.frozen? ⟨w.heap.size + 1, o, none⟩ = false := xf
      cases hg : some_gt x (ys.take k) with
      | true =>
        have E := Lib.hid (outs_done hlt hg)
        obtain ⟨y, hy⟩ : ∃ y, y = ys[k] := ⟨_, rfl⟩
        rw [← hy] at c0 c1 c2 c3 c4 c5 E
        obtain ⟨zs, hzs⟩ : ∃ zs, zs = outs x (ys.take k) := ⟨_, rfl⟩
        rw [← hzs] at O hol E
        rw [← hzs]
        clear hy hg hzs
        have HN := Lib.hid (fun n => cells_whole (laid0 (wr.drewN n) (.cells y.cells.toArray 35)))
        have O2 := Lib.hid (fun n => OwnNods.alloc' (show OwnNods (wr.drewN n) _ _ _ from O.out) (.cells y.cells.toArray 35))
        clear O
        go_wp2
        go_quiet (fail)
        have hBq : ∀ n, Below w1.heap.size w1 (wr.drewN n) := fun n => bdrewN hB n
        go_wp2_with (at_builtin; refine wpList_append_own _ rfl _ _ 23 rfl w1.heap.size 35 i0 Nod.zero.val 6 72 Try.underlying23 hi hz0 hz1 hz2 rfl (by decide) (.slice ua zs.length uc) (zs.length) ((zs).flatMap Nod.cells) rfl (O2.out _) ⟨wr.heap.size, 0, none⟩ 1 1 y.cells rfl rfl (HN.out _) (Nod.oneCells1 y) (by unfold maxLen; omega) (by omega) (by simp; omega) ?_; intro v5 w5 hown5 hgrow5 _; have O5 := OwnNods.hid (own_snoc (xs := zs) hown5); have hB5' := below_own (O2.out _) hgrow5 (by simp; omega); clear hown5 hgrow5; obtain ⟨ua5, uc5, n5, hv5, hn5, O5⟩ := O5; subst hv5)
        have hB8 : Below w1.heap.size w1 w5 := ((hBq _).alloc (by simp; omega) _).trans (hB5'.mono (by omega))
        clear hB5'
        go_wp2
        go_roundw
        case rel => exact ⟨k + 1, ua5, uc5, by go_num, by omega, by rw [E.out.2], by rw [E.out.1, hn5.out], by rw [E.out.1, ← hn5.out]; exact O5, hB8⟩
        case measure => simp [intOf]; omega
      | false =>
        by_cases hgt : x.ino < ys[k].ino
        · have E := Lib.hid (outs_first hlt hg hgt)
          obtain ⟨y, hy⟩ : ∃ y, y = ys[k] := ⟨_, rfl⟩
          rw [← hy] at c0 c1 c2 c3 c4 c5 E hgt
          obtain ⟨zs, hzs⟩ : ∃ zs, zs = outs x (ys.take k) := ⟨_, rfl⟩
          rw [← hzs] at O hol E
          rw [← hzs]
          have Y := Lib.hid hy
          clear hy hg hzs
          have HN := Lib.hid (fun n => cells_whole (laid0 (wr.drewN n) (.cells x.cells.toArray 35)))
          have O2 := Lib.hid (fun n => OwnNods.alloc' (show OwnNods (wr.drewN n) _ _ _ from O.out) (.cells x.cells.toArray 35))
          clear O
          go_wp2
          go_quiet (fail)
          have hBq : ∀ n, Below w1.heap.size w1 (wr.drewN n) := fun n => bdrewN hB n
          go_wp2_with (first | (at_builtin; refine wpList_append_own _ rfl _ _ 23 rfl w1.heap.size 35 i0 Nod.zero.val 6 72 Try.underlying23 hi hz0 hz1 hz2 rfl (by decide) (.slice ua zs.length uc) (zs.length) ((zs).flatMap Nod.cells) rfl (O2.out _) ⟨wr.heap.size, 0, none⟩ 1 1 x.cells rfl rfl (HN.out _) (Nod.oneCells1 x) (by unfold maxLen; omega) (by omega) (by simp; omega) ?_; intro v5 w5 hown5 hgrow5 _; have O5 := OwnNods.hid (own_snoc (xs := zs) hown5); have hB5' := below_own (O2.out _) hgrow5 (by simp; omega); clear hown5 hgrow5; obtain ⟨ua5, uc5, n5, hv5, hn5, O5⟩ := O5; subst hv5; have hB6 : Below w1.heap.size w1 w5 := ((hBq _).alloc (by simp; omega) _).trans (hB5'.mono (by omega)); have hs5 := hB6.size; obtain ⟨b', o', hbe, hb', d0, d1, d2, d3, d4, d5⟩ := (HR.out.below hB6 (Nat.le_refl _)).at k hlt; obtain ⟨rfl, rfl⟩ : b = b' ∧ o = o' := (by simpa using hbe); rw [← Y.out] at d0 d1 d2 d3 d4 d5; have hl6 : n5 ≤ k + 2 := (by rw [hn5.out, List.length_append, List.length_singleton]; omega); have HN6 := Lib.hid (cells_whole (laid0 w5 (.cells y.cells.toArray 35))); have O6 := Lib.hid (OwnNods.alloc' O5.out (.cells y.cells.toArray 35)); clear hbe; obtain ⟨zt, hzt⟩ : ∃ zt, zt = zs ++ [x] := ⟨_, rfl⟩; rw [← hzt] at O6 hn5 E; rw [hn5.out] at hl6; clear hzt O5 hB5') | (at_builtin; refine wpList_append_own _ rfl _ _ 23 rfl w1.heap.size 35 i0 Nod.zero.val 6 72 Try.underlying23 hi hz0 hz1 hz2 rfl (by decide) (.slice ua5 n5 uc5) (zt.length) ((zt).flatMap Nod.cells) rfl O6.out ⟨w5.heap.size, 0, none⟩ 1 1 y.cells rfl rfl HN6.out (Nod.oneCells1 y) (by unfold maxLen; omega) (by omega) (by simp; omega) ?_; intro v7 w7 hown7 hgrow7 _; have O7 := OwnNods.hid (own_snoc (xs := zt) hown7); have hB7' := below_own O6.out hgrow7 (by simp; omega); clear hown7 hgrow7; obtain ⟨ua7, uc7, n7, hv7, hn7, O7⟩ := O7; subst hv7; have hB8 : Below w1.heap.size w1 w7 := (hB6.alloc (by omega) _).trans (hB7'.mono (by omega)); clear hB7'))
          go_roundw
          case rel => exact ⟨k + 1, ua7, uc7, by go_num, by omega, by rw [E.out.2], by rw [E.out.1, hn7.out], by rw [E.out.1, ← hn7.out]; exact O7, hB8⟩
          case measure => simp [intOf]; omega
        · have E := Lib.hid (outs_more hlt hg hgt)
          obtain ⟨y, hy⟩ : ∃ y, y = ys[k] := ⟨_, rfl⟩
          rw [← hy] at c0 c1 c2 c3 c4 c5 E hgt
          obtain ⟨zs, hzs⟩ : ∃ zs, zs = outs x (ys.take k) := ⟨_, rfl⟩
          rw [← hzs] at O hol E
          rw [← hzs]
          clear hy hg hzs
          have HN := Lib.hid (fun n => cells_whole (laid0 (wr.drewN n) (.cells y.cells.toArray 35)))
          have O2 := Lib.hid (fun n => OwnNods.alloc' (show OwnNods (wr.drewN n) _ _ _ from O.out) (.cells y.cells.toArray 35))
          clear O
          go_wp2
          go_quiet (fail)
          have hBq : ∀ n, Below w1.heap.size w1 (wr.drewN n) := fun n => bdrewN hB n
          go_wp2_with (at_builtin; refine wpList_append_own _ rfl _ _ 23 rfl w1.heap.size 35 i0 Nod.zero.val 6 72 Try.underlying23 hi hz0 hz1 hz2 rfl (by decide) (.slice ua zs.length uc) (zs.length) ((zs).flatMap Nod.cells) rfl (O2.out _) ⟨wr.heap.size, 0, none⟩ 1 1 y.cells rfl rfl (HN.out _) (Nod.oneCells1 y) (by unfold maxLen; omega) (by omega) (by simp; omega) ?_; intro v5 w5 hown5 hgrow5 _; have O5 := OwnNods.hid (own_snoc (xs := zs) hown5); have hB5' := below_own (O2.out _) hgrow5 (by simp; omega); clear hown5 hgrow5; obtain ⟨ua5, uc5, n5, hv5, hn5, O5⟩ := O5; subst hv5)
          have hB8 : Below w1.heap.size w1 w5 := ((hBq _).alloc (by simp; omega) _).trans (hB5'.mono (by omega))
          clear hB5'
          go_wp2
          go_roundw
          case rel => exact ⟨k + 1, ua5, uc5, by go_num, by omega, by rw [E.out.2], by rw [E.out.1, hn5.out], by rw [E.out.1, ← hn5.out]; exact O5, hB8⟩
          case measure => simp [intOf]; omega
    · have hke : ys.take k = ys := List.take_of_length_le (by omega)
      rw [hke] at O ⊢
      clear hke
      cases hg : some_gt x ys with
      | true =>
        have E : outs x ys = set x xs := (outs_end_done hg).trans HS.out
        rw [E] at O ⊢
        clear E hg
        have HO3 := Lib.hid (own_mono (own_boxes (own_far' O.out ⟨w.heap.size, 3, none⟩ (by dsimp only; omega) (.slice ua (set x xs).length uc)) (r := w.heap.size + 1 + 1) (by omega) (.int .i64 mi) (.int .i64 mb) (.int .i64 nx) (.slice ua (set x xs).length uc)) (show w.heap.size ≤ w1.heap.size by omega))
        go_wp2
        refine bodyPost_ret (v := FsVal mi mb nx (.slice ua (set x xs).length uc)) ?_ rfl ?_
        · rw [results_cell1 rfl]; go_simp; rfl
        · refine ⟨_, rfl, HO3.out, ?_⟩
          repeat' (first | with_reducible assumption | with_reducible refine below_set ?_ _ ?_ _ | omega | (dsimp only; omega))
      | false =>
        have E := Lib.hid ((outs_end_not hg).trans HS.out)
        have HN := Lib.hid (cells_whole (laid0 wr (.cells x.cells.toArray 35)))
        have O2 := Lib.hid (OwnNods.alloc' O.out (.cells x.cells.toArray 35))
        have hol2 : (outs x ys).length ≤ ys.length + 1 := outs_len
        obtain ⟨zs, hzs⟩ : ∃ zs, zs = outs x ys := ⟨_, rfl⟩
        rw [← hzs] at O2 hol2 E
        rw [← hzs]
        clear hg hzs O
        go_wp2_with (at_builtin; refine wpList_append_own _ rfl _ _ 23 rfl w1.heap.size 35 i0 Nod.zero.val 6 72 Try.underlying23 hi hz0 hz1 hz2 rfl (by decide) (.slice ua zs.length uc) (zs.length) ((zs).flatMap Nod.cells) rfl O2.out ⟨wr.heap.size, 0, none⟩ 1 1 x.cells rfl rfl HN.out (Nod.oneCells1 x) (by unfold maxLen; omega) (by omega) (by simp; omega) ?_; intro v5 w5 hown5 hgrow5 _; have O5 := OwnNods.hid (own_snoc (xs := zs) hown5); have hB5' := below_own O2.out hgrow5 (by simp; omega); clear hown5 hgrow5; obtain ⟨ua5, uc5, n5, hv5, hn5, O5⟩ := O5; subst hv5; have O5' := O5.out; rw [E.out] at O5'; have hB6 : Below w1.heap.size w1 w5 := (hB.alloc (by omega) _).trans (hB5'.mono (by omega)); have e5 : n5 = (set x xs).length := (by rw [← E.out]; exact hn5.out); have hs5 := hB6.size; have t0 := T0.out; have t2 := T2.out; rw [← hB2.block _ (by omega), ← hB6.block _ (by omega)] at t0 t2; obtain ⟨e0, e1, e2, e3, ef⟩ := box4 t0; obtain ⟨q0, q1, q2, q3, qf⟩ := box4 t2; have hBw5 : Below w.heap.size w w5 := (hB1.trans (hB2.mono hB1.size)).trans (hB6.mono (by omega)); have E5 := Lib.hid e5; have O9 := Lib.hid O5'; clear t0 t2 O5 hB5' e5 O5')
        have HO3 := Lib.hid (own_mono (own_boxes (own_far' O9.out ⟨w.heap.size, 3, none⟩ (by dsimp only; omega) (.slice ua5 n5 uc5)) (r := w.heap.size + 1 + 1) (by omega) (.int .i64 mi) (.int .i64 mb) (.int .i64 nx) (.slice ua5 n5 uc5)) (show w.heap.size ≤ w1.heap.size by omega))
        refine bodyPost_ret (v := FsVal mi mb nx (.slice ua5 n5 uc5)) ?_ rfl ?_
        · rw [results_cell1 rfl]; go_simp; rfl
        · refine ⟨_, rfl, HO3.out, ?_⟩
          repeat' (first | with_reducible assumption | with_reducible refine below_set ?_ _ ?_ _ | omega | (dsimp only; omega))
end Go.Proofs.Yteaemnjomlcfcaa.Tab
