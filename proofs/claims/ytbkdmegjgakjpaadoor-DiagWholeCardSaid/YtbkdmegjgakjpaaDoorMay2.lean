/- strings.IndexAny and ContainsAny of whatever text, among a slash and a zero byte; May and Plain. No condition but bounds that each states. -/
import Derived.Test.YtbkdmegjgakjpaaDoorMay1
import Derived.Lib.QuoteLoop
set_option linter.unusedVariables false
set_option linter.unusedSimpArgs false
namespace Go.Proofs.YtbkdmegjgakjpaaDoor.Vcg
open Go.RowKit Go.Shelf
/-- a slash or a zero byte -/
def bad (b : UInt8) : Bool := decide (b = 47) || decide (b = 0)
theorem contains_bad (b : UInt8) : [47, 0].contains b = bad b := by simp [bad, List.contains_iff_mem, Bool.eq_iff_iff]
theorem run_next_at {P : Program} {W : World} {b : Nat} {s : ByteArray} {pos : Nat} (hb : W.heap[b]? = some (.stringIter s pos)) (h : pos < s.size) (ty : TypeId) :
    (Instr.next (.pointer (some ⟨b, 0, none⟩)) true ty).run P W = .ok (.tuple #[.bool true, .int .i64 pos, .int .i32 (Utf8.decode s pos).1]) (W.putObj b (.stringIter s (pos + (Utf8.decode s pos).2))) := by
  simp only [Instr.next, getObj, setObj, Sem.run_bind, Sem.run, hb, Result.andThen, h, if_true]
  simp [goInt, Sem.run, hb, World.putObj]
theorem run_next_at_end {P : Program} {W : World} {b : Nat} {s : ByteArray} {pos : Nat} (hb : W.heap[b]? = some (.stringIter s pos)) (h : ¬ pos < s.size) (ty : TypeId) :
    (Instr.next (.pointer (some ⟨b, 0, none⟩)) true ty).run P W = .ok (.tuple #[.bool false]) W := by
  simp [Instr.next, getObj, Sem.run, hb, h]
theorem get!_eq (s : ByteArray) (k : Nat) (hk : k < s.size) : s.get! k = s[k]'hk := by
  simp [ByteArray.get!, getElem!_pos, hk]; rfl
theorem valid_of {c : Nat} (h : c < 55296 ∨ (57344 ≤ c ∧ c ≤ 1114111)) : Utf8.valid (c : Int) = true := by
  unfold Utf8.valid
  rcases h with h | h
  · have h1 : ((c : Int) < 55296) := by omega
    simp; omega
  · simp; omega
/-- what a rune is: an ASCII byte, or bytes that are none -/
theorem decode_step (s : ByteArray) (i : Nat) (h : i < s.size) : (((s[i]'h).toNat < 128 ∧ Utf8.decode s i = ((s[i]'h).toNat, 1)) ∨ (128 ≤ (Utf8.decode s i).1 ∧ Utf8.valid ((Utf8.decode s i).1 : Int) = true ∧ 1 ≤ (Utf8.decode s i).2 ∧ i + (Utf8.decode s i).2 ≤ s.size ∧ ∀ j (hj : j < s.size), i ≤ j → j < i + (Utf8.decode s i).2 → 128 ≤ (s[j]'hj).toNat)) := by
  by_cases ha : (s[i]'h).toNat < 128
  · exact .inl ⟨ha, decode_ascii s i h ha⟩
  · refine .inr ?_
    have hb0 : ¬ (s.get! (i + 0)).toNat < 128 := by rw [Nat.add_zero, get!_eq s i h]; exact ha
    have hby : ∀ n, (∀ k, k < n → 128 ≤ (s.get! (i + k)).toNat) → ∀ j (hj : j < s.size), i ≤ j → j < i + n → 128 ≤ (s[j]'hj).toNat := fun n hn j hj h1 h2 => by
      have := hn (j - i) (by omega)
      rw [show i + (j - i) = j by omega, get!_eq s j hj] at this
      exact this
    have hone : 128 ≤ 65533 ∧ Utf8.valid ((65533 : Nat) : Int) = true ∧ 1 ≤ 1 ∧ i + 1 ≤ s.size ∧ ∀ j (hj : j < s.size), i ≤ j → j < i + 1 → 128 ≤ (s[j]'hj).toNat :=
      ⟨by omega, by decide, by omega, by omega, hby 1 fun k hk => by rw [show k = 0 by omega]; omega⟩
    unfold Utf8.decode
    simp only [if_neg hb0, Utf8.runeError]
    obtain ⟨b0, hg0⟩ : ∃ b, (s.get! (i + 0)).toNat = b := ⟨_, rfl⟩
    obtain ⟨b1, hg1⟩ : ∃ b, (s.get! (i + 1)).toNat = b := ⟨_, rfl⟩
    obtain ⟨b2, hg2⟩ : ∃ b, (s.get! (i + 2)).toNat = b := ⟨_, rfl⟩
    obtain ⟨b3, hg3⟩ : ∃ b, (s.get! (i + 3)).toNat = b := ⟨_, rfl⟩
    rw [hg0] at hb0
    simp only [hg0, hg1, hg2, hg3]
    have hlt : b0 < 256 := by rw [← hg0]; exact (s.get! (i + 0)).toNat_lt
    split
    · rename_i hc
      simp only [Bool.and_eq_true, beq_iff_eq, decide_eq_true_eq] at hc
      split
      · rename_i hv
        refine ⟨by show 128 ≤ _; omega, valid_of (.inl (by omega)), by show 1 ≤ 2; omega, by show i + 2 ≤ _; omega, hby 2 fun k hk => ?_⟩
        rcases (show k = 0 ∨ k = 1 by omega) with rfl | rfl
        · rw [hg0]; omega
        · rw [hg1]; omega
      · exact hone
    · split
      · rename_i hc
        simp only [Bool.and_eq_true, beq_iff_eq, decide_eq_true_eq] at hc
        split
        · rename_i hv
          simp only [Bool.and_eq_true, decide_eq_true_eq] at hv
          refine ⟨by show 128 ≤ _; omega, hv.2, by show 1 ≤ 3; omega, by show i + 3 ≤ _; omega, hby 3 fun k hk => ?_⟩
          rcases (show k = 0 ∨ k = 1 ∨ k = 2 by omega) with rfl | rfl | rfl
          · rw [hg0]; omega
          · rw [hg1]; omega
          · rw [hg2]; omega
        · exact hone
      · split
        · rename_i hc
          simp only [Bool.and_eq_true, beq_iff_eq, decide_eq_true_eq] at hc
          split
          · rename_i hv
            simp only [Bool.and_eq_true, decide_eq_true_eq] at hv
            refine ⟨by show 128 ≤ _; omega, hv.2, by show 1 ≤ 4; omega, by show i + 4 ≤ _; omega, hby 4 fun k hk => ?_⟩
            rcases (show k = 0 ∨ k = 1 ∨ k = 2 ∨ k = 3 by omega) with rfl | rfl | rfl | rfl
            · rw [hg0]; omega
            · rw [hg1]; omega
            · rw [hg2]; omega
            · rw [hg3]; omega
          · exact hone
        · exact hone
/-- a rune that is no ASCII is not among them -/
theorem indexRune_non (r : Int) (h1 : 128 ≤ r) (hv : Utf8.valid r = true) (w : World) : Calls Tryd.prog 100 #[.string ⟨#[47, 0]⟩, .int .i32 r] w fun e w' => e = .returned (.int .i64 (-1)) ∧ Below w.heap.size w w' := by
  by_cases h2 : r = 65533
  · subst h2; exact indexRune_err w
  · refine ((indexRune_hi r h1 hv h2).2 ⟨w, fun _ _ => False, fun _ => False⟩ [.string ⟨#[47, 0]⟩, .int .i32 r] (fun g cs h => by cases h) ?_).mono ?_
    · exact repL_cons.2 ⟨_, _, rfl, rep_str.2 rfl, repL_cons.2 ⟨_, _, rfl, rep_sc.2 rfl, repL_nil.2 rfl⟩⟩
    · rintro e w' ⟨v, R', L', rfl, rfl, hst, hr⟩
      rw [rep_sc] at hr
      exact ⟨by rw [hr], hst.below⟩
theorem heap_iter (w : World) (s : ByteArray) : (w.iter s 0).heap[w.heap.size]? = some (.stringIter s 0) := World.iter_heap w s 0
theorem putObj_iter {w W : World} {s : ByteArray} {p : Nat} (hb : Below w.heap.size w W) (hs : W.heap[w.heap.size]? = some (.stringIter s p)) (p' : Nat) : Below w.heap.size w (W.putObj w.heap.size (.stringIter s p')) ∧ (W.putObj w.heap.size (.stringIter s p')).heap[w.heap.size]? = some (.stringIter s p') :=
  ⟨⟨hb.os, hb.tape, hb.output, by simpa using hb.size, fun k hk => (World.putObj_heap_other (by omega)).trans (hb.block k hk)⟩, World.putObj_heap_same (heap_lt hs)⟩
theorem below_iter {w W W' : World} {s : ByteArray} {p : Nat} (hb : Below w.heap.size w W) (hs : W.heap[w.heap.size]? = some (.stringIter s p)) (h : Below W.heap.size W W') : Below w.heap.size w W' ∧ W'.heap[w.heap.size]? = some (.stringIter s p) :=
  ⟨hb.trans (h.mono hb.size), (h.block _ (heap_lt hs)).trans hs⟩
set_option maxHeartbeats 8000000 in
set_option maxRecDepth 1000000 in
theorem indexAny_short (s : ByteArray) (w : World) (h8 : s.size ≤ 8) : Calls Tryd.prog 101 #[.string s, .string ⟨#[47, 0]⟩] w fun e w' => e = .returned (.int .i64 (Lib.indexAny s.data.toList [47, 0])) ∧ Below w.heap.size w w' := by
  have h8z : decide ((8 : Int) < (s.size : Int)) = false := decide_eq_false (by omega)
  have hsi := heap_iter w s
  have hbi : Below w.heap.size w (w.iter s 0) := (Below.refl _ _).alloc (Nat.le_refl _) _
  have HI : Aside ((w.iter s 0).heap[w.heap.size]? = some (.stringIter s 0) ∧ Below w.heap.size w (w.iter s 0)) := ⟨hsi, hbi⟩
  clear hsi hbi
  go_enter Tryd.func101, Tryd.ntmps101
  go_wp2_with (go_at_call 106; refine (Tryd.strings_shouldUseASCIISet _ _).mono ?_; rintro e w' ⟨rfl, hw⟩; rw [hw, h8z])
  go_loopg [9, 10] s.size (fun g _ _ wx => ∃ i : Nat, i + g = s.size ∧ wx.heap[w.heap.size]? = some (.stringIter s i) ∧ Below w.heap.size w wx ∧ Lib.NoAny s.data.toList [47, 0] i)
  case atStart => exact ⟨0, by omega, HI.out.1, HI.out.2, Lib.NoAny.zero _ _⟩
  case round =>
    obtain ⟨i, hig, hs, hbl, hno⟩ := hrel
    have HN : Aside (Lib.NoAny s.data.toList [47, 0] i ∧ wr.heap[w.heap.size]? = some (.stringIter s i) ∧ Below w.heap.size w wr) := ⟨hno, hs, hbl⟩
    cases gk with
    | zero =>
      obtain rfl : i = s.size := by omega
      have hnx := fun ty => run_next_at_end (P := Tryd.prog) hs (by omega) ty
      clear hno hs hbl
      go_wp2
      go_ret
      exact ⟨by rw [Lib.indexAny_none (by rw [← Lib.size_eq]; exact HN.out.1)]; rfl, HN.out.2.2⟩
    | succ g =>
      have hi : i < s.size := by omega
      have hnx := fun ty => run_next_at (P := Tryd.prog) hs hi ty
      have hpi := putObj_iter hbl hs (i + (Utf8.decode s i).2)
      have HP : Aside (Below w.heap.size w (wr.putObj w.heap.size (.stringIter s (i + (Utf8.decode s i).2))) ∧ (wr.putObj w.heap.size (.stringIter s (i + (Utf8.decode s i).2))).heap[w.heap.size]? = some (.stringIter s (i + (Utf8.decode s i).2))) := hpi
      clear hno hs hbl hpi
      obtain ⟨x, hx⟩ : ∃ x : UInt8, s[i]'hi = x := ⟨_, rfl⟩
      have hxl : s.data.toList[i]? = some x := by rw [← hx]; exact Lib.data_getElem? s i hi
      rcases decode_step s i hi with ⟨hd1, hd2⟩ | ⟨hd1, hd2, hd3, hd4, hd5⟩
      · rw [hx] at hd1 hd2
        rw [hd2] at hnx HP
        have Hx : Aside (s.data.toList[i]? = some x) := hxl
        clear hxl hx hd2
        have hcon := Lib.contains_iff_indexByte [47, 0] x
        have hback : ((x.toNat : Int)).toNat.toUInt8 = x := by simp
        cases hin : ([47, 0] : List UInt8).contains x
        · rw [hin] at hcon
          have hlt : ¬ ((0 : Int) ≤ Lib.indexByte [47, 0] x) := of_decide_eq_false hcon.symm
          clear hcon
          go_wp2_with (go_at_call 100; refine (Tryd.strings_IndexRune_ascii _ _ _ (by omega) (by omega)).mono ?_; rintro e w' ⟨rfl, hw⟩; rw [hw, hback])
          go_roundg g
          case measure => omega
          case rel => exact ⟨i + 1, by omega, HP.out.2, HP.out.1, HN.out.1.succ Hx.out hin⟩
        · rw [hin] at hcon
          have hge : (0 : Int) ≤ Lib.indexByte [47, 0] x := of_decide_eq_true hcon.symm
          clear hcon
          go_wp2_with (go_at_call 100; refine (Tryd.strings_IndexRune_ascii _ _ _ (by omega) (by omega)).mono ?_; rintro e w' ⟨rfl, hw⟩; rw [hw, hback])
          go_ret
          exact ⟨by rw [Lib.indexAny_hit HN.out.1 Hx.out hin]; rfl, HP.out.1⟩
      · obtain ⟨c, hc⟩ : ∃ c, (Utf8.decode s i).1 = c := ⟨_, rfl⟩
        obtain ⟨n, hn⟩ : ∃ n, (Utf8.decode s i).2 = n := ⟨_, rfl⟩
        rw [hc, hn] at hnx
        rw [hn] at HP hd3 hd4 hd5
        rw [hc] at hd1 hd2
        have H5 : Aside (∀ j (hj : j < s.size), i ≤ j → j < i + n → 128 ≤ (s[j]'hj).toNat) := hd5
        have H2 : Aside (Utf8.valid (c : Int) = true) := hd2
        clear hd5 hd2 hxl hx hc hn
        go_wp2_with (go_at_call 100; refine (indexRune_non _ (by omega) H2.out _).mono ?_; rintro e w' ⟨rfl, hw⟩; have HW := below_iter HP.out.1 HP.out.2 hw)
        go_roundg (s.size - (i + n))
        case measure => omega
        case rel =>
          refine ⟨i + n, by omega, HW.2, HW.1, fun j b hj hb => ?_⟩
          rcases Nat.lt_or_ge j i with g | g
          · exact HN.out.1 j b g hb
          · have hjs : j < s.size := by omega
            have := H5.out j hjs g hj
            have hb2 := Lib.data_getElem? s j hjs
            rw [hb] at hb2
            have hb3 : b = s[j]'hjs := Option.some.inj hb2
            rw [contains_bad, hb3]
            have h47 : s[j]'hjs ≠ 47 := fun e => by rw [e] at this; revert this; decide
            have h00 : s[j]'hjs ≠ 0 := fun e => by rw [e] at this; revert this; decide
            simp [bad, h47, h00]
end Go.Proofs.YtbkdmegjgakjpaaDoor.Vcg
