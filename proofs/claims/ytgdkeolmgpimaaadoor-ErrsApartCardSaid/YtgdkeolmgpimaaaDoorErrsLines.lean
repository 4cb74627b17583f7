/- Walks of errs.Line and the reference's Line: both put words together with a colon and a blank between. Condition: the slice reads as texts, few and short. -/
import Derived.Test.YtgdkeolmgpimaaaDoorProg
import Derived.Test.YtgdkeolmgpimaaaDoorKit
import Derived.Test.YtgdkeolmgpimaaaDoorShelf
import Derived.WalkLawsBesides
import Derived.WalkSpells
namespace Go.Proofs.YtgdkeolmgpimaaaDoor
open Go.RowKit
namespace ErrsLines
open Kit
def colon : ByteArray := ⟨#[58, 32]⟩
theorem join_walk (sep : ByteArray) (xs : List ByteArray) (v : Value) (w : World) (hS : Strs w v xs) (hN : xs.length ≤ 140737488355328) (hlen : (join sep xs).size ≤ 140737488355328) :
    Calls Tryd.prog 14 #[v, .string sep] w fun e w' => e = .returned (.string (join sep xs)) ∧ Below w.heap.size w w' := by
  obtain ⟨a, cap, rfl, h1, h2, h3⟩ := hS
  rcases h3 with rfl | ⟨b, o, rfl, hb, hc⟩
  · exact (Tryd.strings_Join_none a cap sep w).mono fun e w' ⟨h1, h2⟩ => ⟨h1, h2 ▸ Below.refl _ _⟩
  · exact (Tryd.strings_Join b o cap xs sep w (fun j x hj => by
      have hl : j < xs.length := by
        rcases Nat.lt_or_ge j xs.length with h | h
        · exact h
        · simp [List.getElem?_eq_none h] at hj
      rw [hc j hl, List.getD_eq_getElem?_getD, hj]; rfl) hb hN h1 (by rw [← size_toL, join, toL] at hlen; simpa using hlen)).mono fun e w' h => h
theorem line_walk (xs : List ByteArray) (v : Value) (w : World) (hS : Strs w v xs) (hN : xs.length ≤ 140737488355328) (hlen : (join colon xs).size ≤ 140737488355328) :
    Calls Tryd.prog 12 #[v] w fun e w' => e = .returned (.string (join colon xs)) ∧ Below w.heap.size w w' := by
  go_enter Tryd.func12, Tryd.ntmps12
  go_wp2_with (go_at_call 14; refine (join_walk colon xs v w hS hN hlen).mono ?_; rintro e w' ⟨rfl, hb⟩)
  go_ret
  exact ⟨rfl, hb⟩
theorem take_succ' (xs : List ByteArray) (k : Nat) (h : k < xs.length) : xs.take (k + 1) = xs.take k ++ [xs.getD k ⟨#[]⟩] := by
  rw [List.take_succ_eq_append_getElem h, List.getD_eq_getElem?_getD, List.getElem?_eq_getElem h]; rfl
theorem step0 (xs : List ByteArray) (h : 0 < xs.length) : join colon (xs.take 1) = xs.getD 0 ⟨#[]⟩ := by
  rw [take_succ' xs 0 h]; simp [join_one]
theorem stepS (xs : List ByteArray) (k : Nat) (h : k < xs.length) (h0 : 0 < k) : join colon (xs.take (k + 1)) = join colon (xs.take k) ++ colon ++ xs.getD k ⟨#[]⟩ := by
  rw [take_succ' xs k h, join_snoc]
  intro e
  have := congrArg List.length e
  rw [List.length_take, List.length_nil] at this; omega
theorem bound (xs : List ByteArray) (hx : ∀ x ∈ xs, x.size ≤ 300) (hl : xs.length ≤ 40) (k : Nat) : (join colon (xs.take k)).size ≤ 12080 := by
  have h1 := join_size colon 300 (xs.take k) fun x h => hx x (List.mem_of_mem_take h)
  have h2 : (xs.take k).length ≤ 40 := by simp; omega
  have h3 : colon.size = 2 := rfl
  rw [h3] at h1
  have := Nat.mul_le_mul_right 302 h2
  omega
theorem getD_size (xs : List ByteArray) (hx : ∀ x ∈ xs, x.size ≤ 300) (k : Nat) (h : k < xs.length) : (xs.getD k ⟨#[]⟩).size ≤ 300 := by
  rw [List.getD_eq_getElem?_getD, List.getElem?_eq_getElem h]
  exact hx _ (List.getElem_mem _)
set_option maxHeartbeats 400000 in
theorem refLine_walk (xs : List ByteArray) (v : Value) (w : World) (hS : Strs w v xs) (hx : ∀ x ∈ xs, x.size ≤ 300) (hN : xs.length ≤ 40) :
    Calls Tryd.prog 13 #[v] w fun e w' => e = .returned (.string (join colon xs)) ∧ w = w' := by
  obtain ⟨a, cap, rfl, h1, h2, h3⟩ := hS
  have hE := Lib.hid h3
  have hX := Lib.hid hx
  clear h1 h2 h3 hx
  go_enter Tryd.func13, Tryd.ntmps13
  go_wp2
  go_loop [3, 4] (fun s i => ∃ k : Nat, k ≤ xs.length ∧ i = .int .i64 k ∧ s = .string (join colon (xs.take k))) (fun _ i => xs.length - (intOf i).toNat)
  case atStart => exact ⟨0, by omega, rfl, rfl⟩
  case round =>
    obtain ⟨k, hk, rfl, rfl⟩ := hrel
    have hb0 := bound xs hX.out hN k
    by_cases hlt : k < xs.length
    · rcases hE.out with he | ⟨b, o, rfl, hbs, hc⟩
      · subst he; simp at hlt
      have hck := hc k hlt
      have hxk := getD_size xs hX.out k hlt
      clear hc hE
      by_cases h0 : k = 0
      · subst h0
        have hs := Lib.hid (step0 xs hlt)
        generalize hx : xs.getD 0 ⟨#[]⟩ = x at *
        have hx' := Lib.hid hx
        clear hx
        rw [Nat.add_zero] at hck
        have hj : join colon (xs.take 0) = ⟨#[]⟩ := rfl
        rw [hj]
        clear hj
        go_wp2
        go_round
        case rel => exact ⟨1, by omega, by go_num, by rw [hs.out, empty_append]⟩
        case measure => simp [intOf]; omega
      · have hs := Lib.hid (stepS xs k hlt (by omega))
        have hk0 : (0 : Int) < (k : Int) := by omega
        generalize hx : xs.getD k ⟨#[]⟩ = x at *
        have hx' := Lib.hid hx
        clear hx h0
        generalize hj : join colon (xs.take k) = y at *
        have hj' := Lib.hid hj
        clear hj
        go_wp2
        go_round
        case rel => exact ⟨k + 1, by omega, by go_num, by rw [hs.out]; rfl⟩
        case measure => simp [intOf]; omega
    · have : k = xs.length := by omega
      subst this
      go_wp2
      go_ret
      exact ⟨by simp, rfl⟩
end ErrsLines
end Go.Proofs.YtgdkeolmgpimaaaDoor
