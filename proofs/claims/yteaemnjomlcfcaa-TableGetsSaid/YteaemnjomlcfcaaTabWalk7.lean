/- Do a table's inodes rise? Are they few? The reference's tests. -/
import Derived.Test.YteaemnjomlcfcaaTabWalk6
set_option linter.unusedVariables false
set_option linter.unusedSimpArgs false
namespace Go.Proofs.Yteaemnjomlcfcaa.Tab
open Go.RowKit Go.Proofs.Yteaemnjomlcfcaa.Kit
instance (xs : List Nod) : Decidable (Rises xs) := inferInstanceAs (Decidable (xs.Pairwise _))
theorem rises_of {xs : List Nod} (h : ∀ j (h : j + 1 < xs.length), xs[j].ino < xs[j + 1].ino) : Rises xs := by
  induction xs with
  | nil => exact List.Pairwise.nil
  | cons x r ih =>
    have hr : Rises r := ih fun j hj => h (j + 1) (by simp; omega)
    refine List.pairwise_cons.2 ⟨fun y hy => ?_, hr⟩
    obtain ⟨t, ht, rfl⟩ := List.getElem_of_mem hy
    have h0 : x.ino < (r[0]'(by omega)).ino := h 0 (by simp; omega)
    cases t with
    | zero => exact h0
    | succ t =>
      have := (List.pairwise_iff_getElem.1 hr) 0 (t + 1) (by omega) ht (by omega)
      omega
set_option maxHeartbeats 4000000 in
set_option maxRecDepth 100000 in
theorem rise_walk (mi mb nx : Int) (xs : List Nod) (a : Option Addr) (c : Nat) (w : World) (hN : Nods w a c xs) (hz : xs.length < 4611686018427387904) :
    Calls Try.prog 14 #[.agg #[.int .i64 mi, .int .i64 mb, .int .i64 nx, .slice a xs.length c]] w fun e w' => e = .returned (.bool (decide (Rises xs))) ∧ Below w.heap.size w w' := by
  obtain ⟨l1, l2, l3⟩ := hN.len
  have H := Lib.hid hN
  clear hN
  go_enter Try.func14, Try.ntmps14
  go_wp2
  go_loopw [3] (fun s3 wr => ∃ k : Nat, s3 = .int .i64 ((k : Int) + 1) ∧ k ≤ xs.length ∧ Hid (∀ j (h : j + 1 < xs.length), j < k → xs[j].ino < xs[j + 1].ino) ∧ ∃ n, wr = (w.alloc (.cells #[.int .i64 mi, .int .i64 mb, .int .i64 nx, .slice a xs.length c] 25)).drewN n) (fun s3 _ => xs.length + 1 - (intOf s3).toNat)
  case atStart => exact ⟨0, rfl, Nat.zero_le _, Lib.hid fun j _ h => absurd h (Nat.not_lt_zero _), 0, rfl⟩
  case round =>
    obtain ⟨k, rfl, hk, I, n, rfl⟩ := hrel
    by_cases hlt : k + 1 < xs.length
    · obtain ⟨b, o, rfl, hb, c0, -, -, -, -, -⟩ := H.out.at k (by omega)
      obtain ⟨b2, o2, e2, -, d0, -, -, -, -, -⟩ := H.out.at (k + 1) hlt
      obtain ⟨rfl, rfl⟩ : b = b2 ∧ o = o2 := by simpa using e2
      clear e2
      have I2 : xs[k].ino < xs[k + 1].ino → Hid (∀ j (h : j + 1 < xs.length), j < k + 1 → xs[j].ino < xs[j + 1].ino) := fun e => Lib.hid fun j h hj => by
        by_cases h1 : j = k
        · subst h1; exact e
        · exact I.out j h (by omega)
      have hf : ¬ xs[k].ino < xs[k + 1].ino → Hid (decide (Rises xs) = false) := fun e => Lib.hid (decide_eq_false fun hR => e ((List.pairwise_iff_getElem.1 hR) k (k + 1) (by omega) hlt (by omega)))
      obtain ⟨x, hx⟩ : ∃ x, x = xs[k].ino := ⟨_, rfl⟩
      obtain ⟨y, hy⟩ : ∃ y, y = xs[k + 1].ino := ⟨_, rfl⟩
      rw [← hx, ← hy] at I2 hf
      rw [← hx] at c0
      rw [← hy] at d0
      clear hx hy
      by_cases hxy : x < y
      · have I3 := I2 hxy
        clear I2 hf
        go_wp2
        go_quiet (fail)
        go_wp2
        go_roundw
        case rel => exact ⟨k + 1, by go_num, by omega, I3, _, rfl⟩
        case measure => simp [intOf]; omega
      · have hf2 := hf hxy
        clear I2 hf
        go_wp2
        go_quiet (fail)
        go_wp2
        go_ret
        exact ⟨ret_bool hf2.out.symm, bdrewN (bdrewN (by (repeat' (first | with_reducible assumption | with_reducible exact Below.refl _ _ | with_reducible refine Below.setCell ?_ ?_ _ | with_reducible refine Below.alloc ?_ ?_ _ | with_reducible refine Below.drew ?_ | omega | (simp; done) | (simp; omega)))) _) _⟩
    · have hf := Lib.hid (show decide (Rises xs) = true from decide_eq_true (rises_of fun j h => I.out j h (by omega)))
      go_wp2
      go_ret
      exact ⟨ret_bool hf.out.symm, bdrewN (by (repeat' (first | with_reducible assumption | with_reducible exact Below.refl _ _ | with_reducible refine Below.setCell ?_ ?_ _ | with_reducible refine Below.alloc ?_ ?_ _ | with_reducible refine Below.drew ?_ | omega | (simp; done) | (simp; omega)))) _⟩
end Go.Proofs.Yteaemnjomlcfcaa.Tab
