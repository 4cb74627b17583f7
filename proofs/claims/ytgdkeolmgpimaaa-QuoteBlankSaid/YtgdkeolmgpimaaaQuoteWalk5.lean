/- The walks of quote.Unquote and the reference's Unquote: what a quoted text stands for. Condition: the text is at most 2^40 bytes long. -/
import Derived.Test.YtgdkeolmgpimaaaQuoteWalk4
namespace Go.Proofs.Ytgdkeolmgpimaaa
open Go.RowKit
namespace QuoteWalk
open Kit QuotePlain
def uTxt : Option Bs → ByteArray | some t => ofL t | none => ⟨#[]⟩
def UnqPost (r : Option Bs) (B : Nat) (w : World) (e : Ending) (w' : World) : Prop := e = .returned (.tuple #[.string (uTxt r), .bool r.isSome]) ∧ Below B w w'
def uOf (m : Nat) : Option (Bs × Nat) → Option Bs
  | some (t, n) => if n = m then some t else none
  | none => none
theorem unq_eq (l : Bs) : unq l = uOf l.length (qtd l) := by unfold unq uOf; cases qtd l <;> rfl
theorem unquote_walk (s : ByteArray) (w : World) (hs : s.size ≤ 1099511627776) : Calls Try.prog 14 #[.string s] w (UnqPost (unq (toL s)) w.heap.size w) := by
  have hq := quoted_walk s w hs
  have hu : unq (toL s) = uOf s.size (qtd (toL s)) := by rw [unq_eq, size_toL]
  cases hr : qtd (toL s) with
  | none =>
    rw [hr] at hu hq
    have hu' := Lib.hid (show unq (toL s) = none from hu)
    clear hu hr
    go_enter Try.func14, Try.ntmps14
    go_wp2_with fail
    refine hq.mono ?_
    rintro e w1 ⟨rfl, hb⟩
    simp only [rTxt, rLen, rOk]
    go_wp2
    go_ret2
    rw [hu'.out]
    exact ⟨rfl, hb⟩
  | some x =>
    obtain ⟨t, n⟩ := x
    rw [hr] at hu hq
    by_cases hn : n = s.size
    · have hu' := Lib.hid (show unq (toL s) = some t by rw [hu, uOf]; simp [hn])
      have hb : ((n : Int) != (s.size : Int)) = false := by rw [bne_eq_false_iff_eq]; omega
      clear hu hr hn
      go_enter Try.func14, Try.ntmps14
      go_wp2_with fail
      refine hq.mono ?_
      rintro e w1 ⟨rfl, hb⟩
      simp only [rTxt, rLen, rOk]
      go_wp2
      go_ret2
      rw [hu'.out]
      exact ⟨rfl, hb⟩
    · have hu' := Lib.hid (show unq (toL s) = none by rw [hu, uOf]; simp [hn])
      have hb : ((n : Int) != (s.size : Int)) = true := by rw [bne_iff_ne]; omega
      clear hu hr hn
      go_enter Try.func14, Try.ntmps14
      go_wp2_with fail
      refine hq.mono ?_
      rintro e w1 ⟨rfl, hb⟩
      simp only [rTxt, rLen, rOk]
      go_wp2
      go_ret2
      rw [hu'.out]
      exact ⟨rfl, hb⟩
theorem hexv_hexd : ∀ k, k < 16 → hexv (hexd k) = k := by decide
theorem hexv_none (c : UInt8) (hno : ∀ j, j < 16 → hexd j ≠ c) : hexv c = 16 := by
  have h1 := hexv_le c
  rcases Nat.lt_or_ge (hexv c) 16 with h | h
  · exact absurd (hexv_16 c h) (hno _ h)
  · omega
end QuoteWalk
end Go.Proofs.Ytgdkeolmgpimaaa
