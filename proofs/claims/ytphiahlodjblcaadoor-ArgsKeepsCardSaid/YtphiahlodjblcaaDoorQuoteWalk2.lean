/- Walks of quote.Quote and the reference's Quote: both put the quoted form. Condition: the text is at most 2^40 bytes long. -/
import Derived.Test.YtphiahlodjblcaaDoorQuoteWalk1
import Derived.Test.YtphiahlodjblcaaDoorBuilder
import Derived.Test.YtphiahlodjblcaaDoorShelf
set_option maxRecDepth 100000
namespace Go.Proofs.YtphiahlodjblcaaDoor
open Go.RowKit
namespace QuoteWalk
open Kit QuotePlain
def pre (s : ByteArray) (k : Nat) : Bs := 34 :: mid ((toL s).take k)
theorem pre_zero (s : ByteArray) : pre s 0 = [34] := by simp [pre, mid]
theorem pre_succ (s : ByteArray) (k : Nat) (h : k < s.size) {c : UInt8} (hc : s[k] = c) : pre s (k + 1) = pre s k ++ qb c := by
  have h' : k < (toL s).length := by rw [size_toL]; exact h
  have : (toL s)[k] = c := hc
  rw [pre, pre, List.take_succ_eq_append_getElem h', this, mid, mid, List.flatMap_append]
  simp
theorem pre_all (s : ByteArray) (k : Nat) (h : s.size ≤ k) : pre s k ++ [34] = quoteL (toL s) := by
  rw [pre, List.take_of_length_le (by rw [size_toL]; exact h)]; rfl
theorem qb_len (c : UInt8) : (qb c).length ≤ 4 := by unfold qb; split <;> simp
theorem mid_len (l : Bs) : (mid l).length ≤ 4 * l.length := by
  induction l with
  | nil => simp [mid]
  | cons c l ih =>
    have := qb_len c
    simp only [mid, List.flatMap_cons, List.length_append, List.length_cons] at ih ⊢
    omega
theorem pre_len (s : ByteArray) (k : Nat) : (pre s k).length ≤ 1 + 4 * k := by
  have h1 := mid_len ((toL s).take k)
  have h2 : ((toL s).take k).length ≤ k := List.length_take_le _ _
  simp only [pre, List.length_cons]; omega
theorem refQuote_walk (s : ByteArray) (w : World) (hs : s.size ≤ 1099511627776) :
    Calls Tryd.prog 23 #[.string s] w fun e w' => e = .returned (.string (ofL (quoteL (toL s)))) ∧ Below w.heap.size w w' := by
  go_enter Tryd.func23, Tryd.ntmps23
  go_wp2
  go_loopw [3, 4] (fun o i wr => ∃ k : Nat, k ≤ s.size ∧ i = .int .i64 k ∧ o = .string (ofL (pre s k)) ∧ Below w.heap.size w wr) (fun _ i _ => s.size - (intOf i).toNat)
  case atStart => exact ⟨0, by omega, rfl, by rw [pre_zero]; rfl, Below.refl _ _⟩
  case round =>
    obtain ⟨k, hk, rfl, rfl, hB⟩ := hrel
    have hpl := pre_len s k
    have hps : (ofL (pre s k)).size ≤ 1 + 4 * k := by rw [size_ofL]; exact hpl
    by_cases hlt : k < s.size
    · obtain ⟨c, hc⟩ : ∃ c, s[k] = c := ⟨_, rfl⟩
      have hsn := Lib.hid (pre_succ s k hlt hc)
      have hql := qb_len c
      have hqs : (ofL (qb c)).size ≤ 4 := by rw [size_ofL]; exact hql
      generalize hp : ofL (pre s k) = p at *
      have hp' := Lib.hid hp
      clear hp
      go_wp2_with fail
      refine (refByte_walk c _).mono ?_
      rintro e w1 ⟨rfl, hb1⟩
      generalize hq : ofL (qb c) = q at *
      have hq' := Lib.hid hq
      clear hq
      go_wp2
      go_roundw
      case rel => exact ⟨k + 1, by omega, by go_num, by rw [hsn.out, ← ofL_append, hp'.out, hq'.out], hB.trans (hb1.mono hB.size)⟩
      case measure => simp [intOf]; omega
    · have hfin := Lib.hid (pre_all s k (by omega))
      generalize hp : ofL (pre s k) = p at *
      have hp' := Lib.hid hp
      clear hp
      go_wp2
      go_ret
      exact ⟨ret_string (by rw [← hp'.out, ← hfin.out, ← ofL_append]; rfl), hB⟩
/-- the builder of the call's own: it holds these bytes -/
def Bld (B : Nat) (l : Bs) (w : World) : Prop := Lib.BuilderAt 54 5 B B (.pointer (some ⟨B, 0, none⟩)) (Lib.byteCells l) w
theorem Bld.alloc {B : Nat} {l : Bs} {w : World} (h : Bld B l w) (o : Obj) : Bld B l (w.alloc o) := by
  obtain ⟨h1, v, h2, h3, h4⟩ := h
  refine ⟨h1, v, ?_, h3.alloc o, h4⟩
  rw [Lib.alloc_old _ _ _ (Array.getElem?_eq_some_iff.1 h2).1]; exact h2
theorem Bld.drew {B : Nat} {l : Bs} {w : World} (h : Bld B l w) : Bld B l w.drew := h
theorem writeByte (B : Nat) (l : Bs) (c : UInt8) (w : World) (h : Bld B l w) (hl : l.length < 140737488355328) (hB : B ≤ w.heap.size) :
    Calls Tryd.prog 28 #[.pointer (some ⟨B, 0, none⟩), .int .u8 (c.toNat : Int)] w fun e w' => e = .returned .nilIface ∧ Bld B (l ++ [c]) w' ∧ Below B w w' := by
  refine (Tryd.zBuilder_WriteByte B B (Lib.byteCells l) c.toNat w (.inr h) (by rw [Lib.byteCells_length]; omega) hB).mono ?_
  rintro e w' ⟨h1, h2, h3⟩
  exact ⟨h1, by rw [Bld, Lib.byteCells_append]; exact h2, h3⟩
theorem writeByte0 (w : World) (c : UInt8) :
    Calls Tryd.prog 28 #[.pointer (some ⟨w.heap.size, 0, none⟩), .int .u8 (c.toNat : Int)] (w.alloc (.cells #[.pointer none, .slice none 0 0] 54 (0, 0))) fun e w' => e = .returned .nilIface ∧ Bld w.heap.size [c] w' ∧ Below w.heap.size w w' := by
  refine (Tryd.zBuilder_WriteByte w.heap.size w.heap.size [] c.toNat _ (Lib.fresh_isBuilder _ _ w) (by decide) (by simp)).mono ?_
  rintro e w' ⟨h1, h2, h3⟩
  exact ⟨h1, h2, ((Below.refl _ _).alloc (Nat.le_refl _) _).trans h3⟩
theorem writeString (B : Nat) (l : Bs) (x : ByteArray) (w : World) (h : Bld B l w) (hl : l.length + x.size ≤ 140737488355328) (hB : B ≤ w.heap.size) :
    Calls Tryd.prog 30 #[.pointer (some ⟨B, 0, none⟩), .string x] w fun e w' => e = .returned (.tuple #[.int .i64 x.size, .nilIface]) ∧ Bld B (l ++ toL x) w' ∧ Below B w w' := by
  refine (Tryd.zBuilder_WriteString B B (Lib.byteCells l) x w (.inr h) (by rw [Lib.byteCells_length]; omega) hB).mono ?_
  rintro e w' ⟨h1, h2, h3⟩
  exact ⟨h1, by rw [Bld, Lib.byteCells_append]; exact h2, h3⟩
theorem bldString (B : Nat) (l : Bs) (w : World) (h : Bld B l w) (hB : B ≤ w.heap.size) :
    Calls Tryd.prog 31 #[.pointer (some ⟨B, 0, none⟩)] w fun e w' => e = .returned (.string (ofL l)) ∧ Below B w w' :=
  Tryd.Builder_String_any B B l w (.inr h) hB
theorem and_lo (c : UInt8) : bits BinOp.and IntKind.u8 (c.toNat : Int) 15 = (c.toNat : Int) % 16 := by
  have := all_bytes (p := fun c => decide (bits BinOp.and IntKind.u8 (c.toNat : Int) 15 = (c.toNat : Int) % 16)) (by decide +kernel) c
  exact of_decide_eq_true this
set_option maxHeartbeats 400000 in
theorem quote_walk (s : ByteArray) (w : World) (hs : s.size ≤ 1099511627776) :
    Calls Tryd.prog 19 #[.string s] w fun e w' => e = .returned (.string (ofL (quoteL (toL s)))) ∧ Below w.heap.size w w' := by
  go_enter Tryd.func19, Tryd.ntmps19
  go_wp2_with fail
  refine (writeByte0 w 34).mono ?_
  rintro e w1 ⟨rfl, hI1, hB1⟩
  go_wp2_with fail
  go_loopw [9] (fun i wr => ∃ k : Nat, k ≤ s.size ∧ i = .int .i64 k ∧ Bld w.heap.size (pre s k) wr ∧ Below w.heap.size w wr) (fun i _ => s.size - (intOf i).toNat)
  case atStart => exact ⟨0, by omega, rfl, by rw [pre_zero]; exact hI1, hB1⟩
  case round =>
    obtain ⟨k, hk, rfl, hI, hB⟩ := hrel
    clear hI1 hB1
    have hpl := pre_len s k
    by_cases hlt : k < s.size
    · obtain ⟨c, hc⟩ : ∃ c, s[k] = c := ⟨_, rfl⟩
      have hsn := Lib.hid (pre_succ s k hlt hc)
      go_wp2_with fail
      refine (itself_walk c _).mono ?_
      rintro e w' ⟨rfl, rfl⟩
      cases hg : good c with
      | true =>
        have hq := Lib.hid (show qb c = [c] by rw [qb, if_pos hg])
        clear hg
        go_wp2_with fail
        refine (writeByte w.heap.size (pre s k) c _ hI (by omega) hB.size).mono ?_
        rintro e w2 ⟨rfl, hI2, hb2⟩
        go_wp2
        go_roundw
        case rel => exact ⟨k + 1, by omega, by go_num, by rw [hsn.out, hq.out]; exact hI2, hB.trans hb2⟩
        case measure => simp [intOf]; omega
      | false =>
        have hq := Lib.hid (show qb c = [92, 120, hexd (c.toNat / 16), hexd (c.toNat % 16)] by rw [qb, hg]; rfl)
        clear hg
        have x1 := hex_hi c
        have x2 := hex_lo c
        have x3 := and_lo c
        have hcv := fun w2 : World => conv_new (P := Tryd.prog) w2 [92, 120, hexd (c.toNat / 16), hexd (c.toNat % 16)] 34 5 9 Tryd.underlying34 Tryd.underlying5 Tryd.underlying9 #[.int .u8 92, .int .u8 120, .int .u8 (hexd (c.toNat / 16)).toNat, .int .u8 (hexd (c.toNat % 16)).toNat] rfl (0, 0) w2.heap.size 4 4 rfl rfl
        go_wp2_with fail
        go_still_tail 6, (by kernel_rfl)
        change wpList _ _ _ _ _ wr.drew
        obtain ⟨w2, hw2, hI2, hsz⟩ : ∃ w2 : World, Below w.heap.size w w2 ∧ Bld w.heap.size (pre s k) w2 ∧ w2 = wr.drew := ⟨_, hB.drew, hI.drew, rfl⟩
        rw [← hsz]
        clear hsz hI hB
        go_wp2_with fail
        refine (writeString w.heap.size (pre s k) (ofL [92, 120, hexd (c.toNat / 16), hexd (c.toNat % 16)]) _ (hI2.alloc _) (by rw [size_ofL]; show _ + 4 ≤ _; omega) (by have := hw2.size; simp; omega)).mono ?_
        rintro e w3 ⟨rfl, hI3, hb3⟩
        rw [toL_ofL] at hI3
        have hB3 := (hw2.alloc hw2.size _).trans hb3
        clear hb3 hcv x1 x2 x3 hI2
        go_wp2
        go_roundw
        case rel => exact ⟨k + 1, by omega, by go_num, by rw [hsn.out, hq.out]; exact hI3, hB3⟩
        case measure => simp [intOf]; omega
    · have hfin := Lib.hid (pre_all s k (by omega))
      go_wp2_with fail
      refine (writeByte w.heap.size (pre s k) 34 _ hI (by omega) hB.size).mono ?_
      rintro e w2 ⟨rfl, hI2, hb2⟩
      go_wp2_with fail
      refine (bldString w.heap.size _ _ hI2 (hB.trans hb2).size).mono ?_
      rintro e w3 ⟨rfl, hb3⟩
      go_wp2
      go_ret
      exact ⟨ret_string (by rw [hfin.out]), (hB.trans hb2).trans hb3⟩
end QuoteWalk
end Go.Proofs.YtphiahlodjblcaaDoor
