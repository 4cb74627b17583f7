/- The walk of the reference's Same: the same texts, in one order? Condition: both slices read as texts. -/
import Derived.Test.YtgdkeolmgpimaaaProg
import Derived.Test.YtgdkeolmgpimaaaKit
import Derived.WalkLawsBesides
import Derived.WalkSpells
import Derived.Deep.QuietTactic
import Derived.BigQuiet
namespace Go.Proofs.Ytgdkeolmgpimaaa
open Go.RowKit
namespace R01Same
open Kit
theorem same_no {xs ys : List ByteArray} {k : Nat} (hk : xs.getD k ⟨#[]⟩ ≠ ys.getD k ⟨#[]⟩) : decide (xs = ys) = false := by
  rw [decide_eq_false_iff_not]; rintro rfl; exact hk rfl
theorem same_yes {xs ys : List ByteArray} (h2 : xs.length = ys.length) (hk : ∀ j, j < xs.length → xs.getD j ⟨#[]⟩ = ys.getD j ⟨#[]⟩) : decide (xs = ys) = true := by
  rw [decide_eq_true_iff]
  apply List.ext_getElem h2
  intro i h1 h3
  have := hk i h1
  simpa [List.getD_eq_getElem?_getD, List.getElem?_eq_getElem h1, List.getElem?_eq_getElem h3] using this
theorem same_len (xs ys : List ByteArray) (v u : Value) (w : World) (hS : Strs w v xs) (hT : Strs w u ys) (h : xs.length ≠ ys.length) :
    Calls Try.prog 18 #[v, u] w fun e w' => e = .returned (.bool (decide (xs = ys))) ∧ Below w.heap.size w w' := by
  have hd := Lib.hid (show decide (xs = ys) = false by rw [decide_eq_false_iff_not]; rintro rfl; exact h rfl)
  obtain ⟨a, cap, rfl, h1, h2, h3⟩ := hS
  obtain ⟨a', cap', rfl, h1', h2', h3'⟩ := hT
  have hn : ((xs.length : Int) != (ys.length : Int)) = true := by rw [bne_iff_ne]; omega
  clear h3 h3'
  go_enter Try.func18, Try.ntmps18
  go_wp2
  go_ret
  exact ⟨ret_bool hd.out.symm, Below.refl _ _⟩
theorem same_eq (xs ys : List ByteArray) (v u : Value) (w : World) (hS : Strs w v xs) (hT : Strs w u ys) (h : xs.length = ys.length) :
    Calls Try.prog 18 #[v, u] w fun e w' => e = .returned (.bool (decide (xs = ys))) ∧ Below w.heap.size w w' := by
  obtain ⟨a, cap, rfl, h1, h2, h3⟩ := hS
  obtain ⟨a', cap', rfl, h1', h2', h3'⟩ := hT
  have hE := Lib.hid h3
  have hE' := Lib.hid h3'
  have hl := Lib.hid h
  have hn : ((xs.length : Int) != (ys.length : Int)) = false := by rw [bne_eq_false_iff_eq]; omega
  have hlle : xs.length ≤ ys.length := by omega
  clear h3 h3' h
  go_enter Try.func18, Try.ntmps18
  go_wp2
  go_loopw [5] (fun i wr => ∃ k : Nat, k ≤ xs.length ∧ i = .int .i64 k ∧ (∀ j, j < k → xs.getD j ⟨#[]⟩ = ys.getD j ⟨#[]⟩) ∧ ∃ n, wr = w.drewN n) (fun i _ => xs.length - (intOf i).toNat)
  case atStart => exact ⟨0, by omega, rfl, fun j h => by omega, 0, rfl⟩
  case round =>
    obtain ⟨k, hk, rfl, hno, n, rfl⟩ := hrel
    have hno' := Lib.hid hno
    clear hno
    by_cases hlt : k < xs.length
    · have hlt2 : k < ys.length := by omega
      rcases hE.out with he | ⟨b, o, rfl, hbs, hc⟩
      · subst he; simp at hlt
      rcases hE'.out with he | ⟨b', o', rfl, hbs', hc'⟩
      · subst he; simp at hlt2
      have hck := hc k hlt
      have hck' := hc' k hlt2
      clear hc hc'
      by_cases hxy : xs.getD k ⟨#[]⟩ = ys.getD k ⟨#[]⟩
      · have hxy' := Lib.hid hxy
        have hb := seq_true hxy
        generalize hx : xs.getD k ⟨#[]⟩ = x at *
        generalize hy : ys.getD k ⟨#[]⟩ = y at *
        have hx' := Lib.hid hx
        have hy' := Lib.hid hy
        clear hx hy hxy hE hE'
        go_wp2
        go_quiet (fail)
        go_wp2
        go_roundw
        case rel => exact ⟨k + 1, by omega, by go_num, fun j hj => by
          by_cases h : j = k
          · subst h; rw [hx'.out, hy'.out]; exact hxy'.out
          · exact hno'.out j (by omega), _, rfl⟩
        case measure => simp [intOf]; omega
      · have hf := Lib.hid (same_no hxy)
        have hb := seq_false hxy
        generalize hx : xs.getD k ⟨#[]⟩ = x at *
        generalize hy : ys.getD k ⟨#[]⟩ = y at *
        clear hx hy hxy hE hE'
        go_wp2
        go_quiet (fail)
        go_wp2
        go_ret
        exact ⟨ret_bool hf.out.symm, bdrewN (bdrewN (Below.refl _ _) _) _⟩
    · have hf := Lib.hid (same_yes hl.out fun j hj => hno'.out j (by omega))
      go_wp2
      go_ret
      exact ⟨ret_bool hf.out.symm, bdrewN (Below.refl _ _) _⟩
theorem same_walk (xs ys : List ByteArray) (v u : Value) (w : World) (hS : Strs w v xs) (hT : Strs w u ys) :
    Calls Try.prog 18 #[v, u] w fun e w' => e = .returned (.bool (decide (xs = ys))) ∧ Below w.heap.size w w' := by
  by_cases h : xs.length = ys.length
  · exact same_eq xs ys v u w hS hT h
  · exact same_len xs ys v u w hS hT h
end R01Same
end Go.Proofs.Ytgdkeolmgpimaaa
