/- Walks of the messages' functions: what errs.Message, errs.Find and the reference's Message answer. Condition: the table's cells hold the messages. -/
import Derived.Test.YtgdkeolmgpimaaaDoorProg
import Derived.Test.YtgdkeolmgpimaaaDoorErrsPlain
import Derived.WalkKit
import Derived.Test.YtgdkeolmgpimaaaDoorKit
import Derived.WalkLawsBesides
import Derived.WalkSpells
namespace Go.Proofs.YtgdkeolmgpimaaaDoor
open Go.RowKit
namespace ErrsWalk
open ErrsPlain Kit
def Laid (w : World) : Prop := ∀ i, i < 14 → w.cell? ⟨0, i, none⟩ = some (.string (at14 i))
theorem Laid.below {w w' : World} (h : Laid w) (hb : Below w.heap.size w w') : Laid w' := fun i hi => by
  have h1 := h i hi
  have hs : 0 < w.heap.size := by
    rcases Nat.lt_or_ge 0 w.heap.size with h2 | h2
    · exact h2
    · simp [World.cell?, Array.getElem?_eq_none h2] at h1
  rw [hb.cell (p := ⟨0, i, none⟩) hs]; exact h1
set_option maxHeartbeats 400000 in
theorem refMessage (n : Int) (w : World) :
    Calls Tryd.prog 9 #[.int .i64 n] w fun e w' => e = .returned (.string (msg n)) ∧ w = w' := by
  go_enter Tryd.func9, Tryd.ntmps9
  go_wp2
  all_goals go_ret
  all_goals refine ⟨ret_string ?_, rfl⟩
  all_goals (simp only [beq_iff_eq, beq_eq_false_iff_ne, ne_eq] at *)
  all_goals first | (subst_vars; rfl) | (rw [msg, if_neg (by omega)]; rfl)
theorem message_lo (n : Int) (w : World) (h : n < 0) :
    Calls Tryd.prog 8 #[.int .i64 n] w fun e w' => e = .returned (.string (msg n)) ∧ w = w' := by
  have hm : msg n = unknown := by rw [msg, if_neg (by omega)]
  go_enter Tryd.func8, Tryd.ntmps8
  go_wp2
  go_ret
  exact ⟨by rw [hm]; rfl, rfl⟩
theorem message_hi (n : Int) (w : World) (h : 14 ≤ n) :
    Calls Tryd.prog 8 #[.int .i64 n] w fun e w' => e = .returned (.string (msg n)) ∧ w = w' := by
  have hm : msg n = unknown := by rw [msg, if_neg (by omega)]
  go_enter Tryd.func8, Tryd.ntmps8
  go_wp2
  go_ret
  exact ⟨by rw [hm]; rfl, rfl⟩
theorem message_in (k : Nat) (w : World) (h : k < 14) (hL : Laid w) :
    Calls Tryd.prog 8 #[.int .i64 k] w fun e w' => e = .returned (.string (at14 k)) ∧ w = w' := by
  have hc := hL k h
  have h1 : (k : Int) < 14 := by omega
  have h2 : ¬ (k : Int) < 0 := by omega
  go_enter Tryd.func8, Tryd.ntmps8
  go_wp2
  go_ret
  exact ⟨rfl, rfl⟩
theorem message (n : Int) (w : World) (hL : Laid w) :
    Calls Tryd.prog 8 #[.int .i64 n] w fun e w' => e = .returned (.string (msg n)) ∧ w = w' := by
  by_cases h : n < 0
  · exact message_lo n w h
  · by_cases h' : 14 ≤ n
    · exact message_hi n w h'
    · obtain ⟨k, rfl⟩ := Int.eq_ofNat_of_zero_le (show 0 ≤ n by omega)
      have hm : msg (k : Int) = at14 k := by rw [msg, if_pos (by omega)]; rfl
      rw [hm]
      exact message_in k w (by omega) hL
theorem tabIndex (k : Nat) (h : k < 14) (w : World) : (Instr.index 35 (.agg (tab.map Value.string).toArray) (.int .i64 k)).run Tryd.prog w = .ok (.string (at14 k)) w := by
  rcases (by omega : k = 0 ∨ k = 1 ∨ k = 2 ∨ k = 3 ∨ k = 4 ∨ k = 5 ∨ k = 6 ∨ k = 7 ∨ k = 8 ∨ k = 9 ∨ k = 10 ∨ k = 11 ∨ k = 12 ∨ k = 13) with rfl | rfl | rfl | rfl | rfl | rfl | rfl | rfl | rfl | rfl | rfl | rfl | rfl | rfl
  all_goals kernel_rfl
def cellsTab : Array Value := (tab.map Value.string).toArray
/-- errs.Find: where the text stands, and whether it does -/
theorem find_walk (s : ByteArray) (w : World) (hB : ∃ t fr, w.heap[0]? = some (.cells cellsTab t fr)) :
    Calls Tryd.prog 10 #[.string s] w fun e w' => e = .returned (.tuple #[.int .i64 (findNo s), .bool (findOk s)]) ∧ w = w' := by
  obtain ⟨t, fr, hB⟩ := hB
  go_enter Tryd.func10, Tryd.ntmps10
  go_wp2_with (refine wpList_load_row rfl 35 _ rfl 0 rfl t _ fr _ hB Tryd.underlying35 rfl (by kernel_rfl) ?_)
  have hidx := tabIndex
  go_loop [7] (fun i => ∃ k : Nat, k ≤ 14 ∧ i = .int .i64 k ∧ ∀ j, j < k → at14 j ≠ s) (fun i => 14 - (intOf i).toNat)
  case atStart => exact ⟨0, by omega, rfl, fun j h => by omega⟩
  case round =>
    obtain ⟨k, hk, rfl, hno⟩ := hrel
    have hno' := Lib.hid hno
    clear hno
    by_cases hlt : k < 14
    · have hi : (Instr.index 35 (.agg cellsTab) (.int .i64 k)).run Tryd.prog w = .ok (.string (at14 k)) w := tabIndex k hlt w
      have hlt' : (k : Int) < 14 := by omega
      clear hidx
      by_cases he : at14 k = s
      · have hb := seq_true he
        have hf : find s = some k := seek_of s 14 0 k (by omega) (by omega) he fun i _ hi => hno'.out i hi
        have hf' := Lib.hid hf
        have he' := Lib.hid he
        clear hf he
        go_wp2
        go_ret2
        simp [findNo, findOk, hf'.out]
      · have hb := seq_false he
        have he' := Lib.hid he
        clear he
        go_wp2
        go_round
        case rel => exact ⟨k + 1, by omega, by go_num, fun j hj => by
          by_cases h : j = k
          · subst h; exact he'.out
          · exact hno'.out j (by omega)⟩
        case measure => simp [intOf]; omega
    · have hf : find s = none := by
        cases h : find s with
        | none => rfl
        | some j => obtain ⟨_, h2, h3, _⟩ := seek_some _ _ _ _ h; exact absurd h3 (hno'.out j (by omega))
      have hf' := Lib.hid hf
      clear hf hidx
      go_wp2
      go_ret2
      simp [findNo, findOk, hf'.out]
end ErrsWalk
end Go.Proofs.YtgdkeolmgpimaaaDoor
