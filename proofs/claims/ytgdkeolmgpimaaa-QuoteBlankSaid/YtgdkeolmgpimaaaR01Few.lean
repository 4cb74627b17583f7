/- The walk of the reference's Few: are texts few, and short? Condition: the slice reads as texts. -/
import Derived.Test.YtgdkeolmgpimaaaProg
import Derived.Test.YtgdkeolmgpimaaaKit
import Derived.WalkLawsBesides
import Derived.WalkSpells
namespace Go.Proofs.Ytgdkeolmgpimaaa
open Go.RowKit
namespace R01Few
open Kit
def short (xs : List ByteArray) : Bool := (xs.take 100).all fun x => decide (x.size ≤ 300)
def few (xs : List ByteArray) : Bool := short xs && decide (xs.length ≤ 40)
theorem few_len {xs : List ByteArray} (h : few xs = true) : xs.length ≤ 40 := by simp [few] at h; exact h.2
theorem few_size {xs : List ByteArray} (h : few xs = true) : ∀ x ∈ xs, x.size ≤ 300 := by
  have h1 := few_len h
  simp only [few, short, Bool.and_eq_true, List.all_eq_true, decide_eq_true_eq, List.take_of_length_le (show xs.length ≤ 100 by omega)] at h
  exact h.1
theorem few_yes {xs : List ByteArray} (h1 : ∀ j, j < xs.length → j < 100 → (xs.getD j ⟨#[]⟩).size ≤ 300) : few xs = decide (xs.length ≤ 40) := by
  have : short xs = true := by
    simp only [short, List.all_eq_true, decide_eq_true_eq]
    intro x hx
    obtain ⟨i, hi, e⟩ := List.mem_iff_getElem.1 hx
    have hi' : i < xs.length ∧ i < 100 := by simp at hi; omega
    have := h1 i hi'.1 hi'.2
    rw [List.getElem_take] at e
    rw [← e]; simpa [List.getD_eq_getElem?_getD, List.getElem?_eq_getElem hi'.1] using this
  simp [few, this]
theorem few_no {xs : List ByteArray} {k : Nat} (h1 : k < xs.length) (h2 : k < 100) (h3 : 300 < (xs.getD k ⟨#[]⟩).size) : few xs = false := by
  have : short xs = false := by
    rw [Bool.eq_false_iff]
    intro h
    simp only [short, List.all_eq_true, decide_eq_true_eq] at h
    have hm : xs[k] ∈ xs.take 100 := by
      refine List.mem_iff_getElem.2 ⟨k, by simp; omega, by rw [List.getElem_take]⟩
    have := h _ hm
    simp [List.getD_eq_getElem?_getD, List.getElem?_eq_getElem h1] at h3
    omega
  simp [few, this]
theorem few_walk (xs : List ByteArray) (v : Value) (w : World) (hS : Strs w v xs) :
    Calls Try.prog 19 #[v] w fun e w' => e = .returned (.bool (few xs)) ∧ w = w' := by
  obtain ⟨a, cap, rfl, h1, h2, h3⟩ := hS
  have hE := Lib.hid h3
  have hl : (xs.length : Int) ≤ 9223372036854775807 := by omega
  clear h1 h2 h3
  go_enter Try.func19, Try.ntmps19
  go_wp2
  go_loop [3] (fun i => ∃ k : Nat, k ≤ xs.length ∧ k ≤ 100 ∧ i = .int .i64 k ∧ ∀ j, j < k → (xs.getD j ⟨#[]⟩).size ≤ 300) (fun i => 100 - (intOf i).toNat)
  case atStart => exact ⟨0, by omega, by omega, rfl, fun j h => by omega⟩
  case round =>
    obtain ⟨k, hk, hk2, rfl, hno⟩ := hrel
    have hno' := Lib.hid hno
    clear hno
    by_cases hlt : k < xs.length ∧ k < 100
    · obtain ⟨hlt, hlt2⟩ := hlt
      rcases hE.out with he | ⟨b, o, rfl, hbs, hc⟩
      · subst he; simp at hlt
      have hck := hc k hlt
      by_cases hsz : (xs.getD k ⟨#[]⟩).size ≤ 300
      · generalize hx : xs.getD k ⟨#[]⟩ = x at *
        have hx' := Lib.hid hx
        clear hx hc hE
        go_wp2
        go_round
        case rel => exact ⟨k + 1, by omega, by omega, by go_num, fun j hj => by
          by_cases h : j = k
          · subst h; rw [hx'.out]; exact hsz
          · exact hno'.out j (by omega)⟩
        case measure => simp [intOf]; omega
      · have hf := Lib.hid (few_no hlt hlt2 (by omega))
        generalize hx : xs.getD k ⟨#[]⟩ = x at *
        have hx' := Lib.hid hx
        clear hx hc hE
        go_wp2
        go_ret
        exact ⟨ret_bool hf.out.symm, rfl⟩
    · have hf := Lib.hid (few_yes (xs := xs) fun j h1 h2 => hno'.out j (by omega))
      by_cases h100 : k < xs.length
      · have h100' : ¬ k < 100 := by omega
        go_wp2
        go_ret
        refine ⟨ret_bool ?_, rfl⟩
        rw [hf.out]
        exact decide_eq_decide.2 (by omega)
      · go_wp2
        go_ret
        refine ⟨ret_bool ?_, rfl⟩
        rw [hf.out]
        exact decide_eq_decide.2 (by omega)
end R01Few
end Go.Proofs.Ytgdkeolmgpimaaa
