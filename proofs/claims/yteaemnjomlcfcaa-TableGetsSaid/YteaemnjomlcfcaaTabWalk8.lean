/- Are a table's inodes few? The reference's test. -/
import Derived.Test.YteaemnjomlcfcaaTabWalk7
set_option linter.unusedVariables false
set_option linter.unusedSimpArgs false
namespace Go.Proofs.Yteaemnjomlcfcaa.Tab
open Go.RowKit Go.Proofs.Yteaemnjomlcfcaa.Kit
def Nod.few (x : Nod) : Bool := decide (x.data.size ≤ 5000) && decide (x.es.length ≤ 40) && x.es.all fun e => decide (e.name.size ≤ 300)
def few (xs : List Nod) : Bool := (xs.take 100).all Nod.few && decide (xs.length ≤ 40)
theorem few_no {xs : List Nod} {k : Nat} (hk : k < xs.length) (h100 : k < 100) (h : xs[k].few = false) : few xs = false := by
  unfold few
  rw [Bool.and_eq_false_iff]; left
  rw [List.all_eq_false]
  exact ⟨xs[k], List.mem_iff_getElem.2 ⟨k, by simp; omega, by simp⟩, by simp [h]⟩
theorem few_yes {xs : List Nod} (h : ∀ j (h : j < xs.length), j < 100 → xs[j].few = true) : few xs = decide (xs.length ≤ 40) := by
  unfold few
  rw [show (xs.take 100).all Nod.few = true by
    rw [List.all_eq_true]
    intro x hx
    obtain ⟨j, hj, rfl⟩ := List.getElem_of_mem hx
    simp at hj ⊢
    exact h j (by omega) (by omega), Bool.true_and]
theorem Nod.few_name {x : Nod} {m : Nat} (hm : m < x.es.length) (h : 300 < x.es[m].name.size) : x.few = false := by
  unfold Nod.few
  rw [Bool.and_eq_false_iff]; right
  rw [List.all_eq_false]
  exact ⟨x.es[m], List.getElem_mem hm, by simp; omega⟩
theorem Nod.few_all {x : Nod} (h1 : x.data.size ≤ 5000) (h2 : x.es.length ≤ 40) (h : ∀ j (h : j < x.es.length), x.es[j].name.size ≤ 300) : x.few = true := by
  unfold Nod.few
  rw [decide_eq_true h1, decide_eq_true h2, show (x.es.all fun e => decide (e.name.size ≤ 300)) = true by
    rw [List.all_eq_true]
    intro e he
    obtain ⟨j, hj, rfl⟩ := List.getElem_of_mem he
    exact decide_eq_true (h j hj)]
  rfl
theorem few_le {xs : List Nod} (h : few xs = true) : xs.length ≤ 40 := by
  unfold few at h
  rw [Bool.and_eq_true] at h
  exact of_decide_eq_true h.2
theorem few_mem {xs : List Nod} (h : few xs = true) : ∀ x ∈ xs, x.few = true := by
  have h40 := few_le h
  unfold few at h
  rw [Bool.and_eq_true, List.take_of_length_le (by omega), List.all_eq_true] at h
  exact h.1
set_option maxHeartbeats 4000000 in
set_option maxRecDepth 100000 in
theorem few_walk (mi mb nx : Int) (xs : List Nod) (a : Option Addr) (c : Nat) (w : World) (hN : Nods w a c xs) :
    Calls Try.prog 13 #[.agg #[.int .i64 mi, .int .i64 mb, .int .i64 nx, .slice a xs.length c]] w fun e w' => e = .returned (.bool (few xs)) ∧ Below w.heap.size w w' := by
  obtain ⟨l1, l2, l3⟩ := hN.len
  have H := Lib.hid hN
  clear hN
  obtain ⟨r, hr⟩ : ∃ r, r = few xs := ⟨_, rfl⟩
  rw [← hr]
  have R := Lib.hid hr
  clear hr
  obtain ⟨w0, hw0⟩ : ∃ w0, w0 = w.alloc (.cells #[.int .i64 mi, .int .i64 mb, .int .i64 nx, .slice a xs.length c] 25) := ⟨_, rfl⟩
  have hB0 : Below w.heap.size w w0 := by rw [hw0]; (repeat' (first | with_reducible assumption | with_reducible exact Below.refl _ _ | with_reducible refine Below.setCell ?_ ?_ _ | with_reducible refine Below.alloc ?_ ?_ _ | with_reducible refine Below.drew ?_ | omega | (simp; done) | (simp; omega)))
  have hs0 : w.heap.size < w0.heap.size := by rw [hw0]; simp
  have hcell : w0.cell? ⟨w.heap.size, 3, none⟩ = some (.slice a xs.length c) := by rw [hw0]; go_simp
  have HW := Lib.hid hw0
  clear hw0
  go_enter Try.func13, Try.ntmps13
  go_wp2
  rw [← HW.out]
  go_loopw [3] (fun s3 wr => ∃ k : Nat, s3 = .int .i64 k ∧ k ≤ xs.length ∧ k ≤ 100 ∧ Hid (∀ j (h : j < xs.length), j < k → xs[j].few = true) ∧ Below w0.heap.size w0 wr) (fun s3 _ => xs.length - (intOf s3).toNat)
  case atStart => exact ⟨0, rfl, Nat.zero_le _, by omega, Lib.hid fun j _ h => absurd h (Nat.not_lt_zero _), Below.refl _ _⟩
  case round =>
    obtain ⟨k, rfl, hk, hk2, I, hB⟩ := hrel
    have hBw : Below w.heap.size w wr := hB0.trans (hB.mono (by omega))
    have hcell' : wr.cell? ⟨w.heap.size, 3, none⟩ = some (.slice a xs.length c) := (hB.cell (p := ⟨w.heap.size, 3, none⟩) hs0).trans hcell
    have hs1 : w.heap.size < wr.heap.size := Nat.lt_of_lt_of_le hs0 hB.size
    by_cases hlt : k < xs.length
    · by_cases h100 : k < 100
      · have HE := (H.out.below hBw (Nat.le_refl _)).2 _ (List.getElem_mem hlt)
        obtain ⟨b, o, rfl, hb, c0, c1, c2, c3, c4, c5⟩ := (H.out.below hBw (Nat.le_refl _)).at k hlt
        have F1 : xs[k].few = true → Hid (∀ j (h : j < xs.length), j < k + 1 → xs[j].few = true) := fun e => Lib.hid fun j h hj => by
          by_cases h1 : j = k
          · subst h1; exact e
          · exact I.out j h (by omega)
        have F2 : xs[k].few = false → Hid (r = false) := fun e => Lib.hid (by rw [R.out]; exact few_no hlt h100 e)
        obtain ⟨x, hx⟩ : ∃ x, x = xs[k] := ⟨_, rfl⟩
        rw [← hx] at c0 c1 c2 c3 c4 c5 F1 F2 HE
        have HF1 := Lib.hid F1
        have HF2 := Lib.hid F2
        have HE' := Lib.hid HE
        obtain ⟨m1, m2, m3⟩ := Ents.len HE
        clear hx F1 F2 HE hcell
        by_cases hd : x.data.size ≤ 5000
        · by_cases he : x.es.length ≤ 40
          · go_wp2
            go_loop [5] (fun s5 => ∃ m : Nat, s5 = .int .i64 m ∧ m ≤ x.es.length ∧ Hid (∀ j (h : j < x.es.length), j < m → x.es[j].name.size ≤ 300)) (fun s5 => x.es.length - (intOf s5).toNat)
            case atStart => exact ⟨0, rfl, Nat.zero_le _, Lib.hid fun j _ h => absurd h (Nat.not_lt_zero _)⟩
            case round =>
              obtain ⟨m, rfl, hm, J⟩ := hrel
              by_cases hmt : m < x.es.length
              · obtain ⟨b2, o2, hea, hb2, d0, -⟩ := HE'.out.at m hmt
                by_cases hn : x.es[m].name.size ≤ 300
                · have J2 : Hid (∀ j (h : j < x.es.length), j < m + 1 → x.es[j].name.size ≤ 300) := Lib.hid fun j h hj => by
                    by_cases h1 : j = m
                    · subst h1; exact hn
                    · exact J.out j h (by omega)
                  obtain ⟨nm, hnm⟩ : ∃ nm, nm = x.es[m].name := ⟨_, rfl⟩
                  rw [← hnm] at d0 hn
                  clear hnm
                  rw [hea] at c5
                  go_wp2
                  go_round
                  case rel => exact ⟨m + 1, rfl, by omega, J2⟩
                  case measure => simp [intOf]; omega
                · have hf := HF2.out (Nod.few_name hmt (by omega))
                  obtain ⟨nm, hnm⟩ : ∃ nm, nm = x.es[m].name := ⟨_, rfl⟩
                  rw [← hnm] at d0 hn
                  clear hnm
                  rw [hea] at c5
                  go_wp2
                  go_ret
                  exact ⟨ret_bool hf.out.symm, by have := hBw.size; (repeat' (first | with_reducible assumption | with_reducible exact Below.refl _ _ | with_reducible refine Below.setCell ?_ ?_ _ | with_reducible refine Below.alloc ?_ ?_ _ | with_reducible refine Below.drew ?_ | omega | (simp; done) | (simp; omega)))⟩
              · have I3 := HF1.out (Nod.few_all hd he fun j h => J.out j h (by omega))
                go_wp2
                go_roundw
                case rel => exact ⟨k + 1, by go_num, by omega, by omega, I3, by have := hB.size; (repeat' (first | with_reducible assumption | with_reducible exact Below.refl _ _ | with_reducible refine Below.setCell ?_ ?_ _ | with_reducible refine Below.alloc ?_ ?_ _ | with_reducible refine Below.drew ?_ | omega | (simp; done) | (simp; omega)))⟩
                case measure => simp [intOf]; omega
          · have hf := HF2.out (by unfold Nod.few; simp [he])
            go_wp2
            go_ret
            exact ⟨ret_bool hf.out.symm, by have := hBw.size; (repeat' (first | with_reducible assumption | with_reducible exact Below.refl _ _ | with_reducible refine Below.setCell ?_ ?_ _ | with_reducible refine Below.alloc ?_ ?_ _ | with_reducible refine Below.drew ?_ | omega | (simp; done) | (simp; omega)))⟩
        · have hf := HF2.out (by unfold Nod.few; simp [hd])
          go_wp2
          go_ret
          exact ⟨ret_bool hf.out.symm, by have := hBw.size; (repeat' (first | with_reducible assumption | with_reducible exact Below.refl _ _ | with_reducible refine Below.setCell ?_ ?_ _ | with_reducible refine Below.alloc ?_ ?_ _ | with_reducible refine Below.drew ?_ | omega | (simp; done) | (simp; omega)))⟩
      · have hf := Lib.hid (show r = decide (xs.length ≤ 40) by rw [R.out]; exact few_yes fun j h h2 => I.out j h (by omega))
        have h40 : decide (xs.length ≤ 40) = false := decide_eq_false (by omega)
        have hf' := Lib.hid (hf.out.trans h40)
        go_wp2
        go_ret
        exact ⟨ret_bool (by rw [hf'.out]; first | rfl | (simp; omega)), hBw⟩
    · have hf := Lib.hid (show r = decide (xs.length ≤ 40) by rw [R.out]; exact few_yes fun j h h2 => I.out j h (by omega))
      go_wp2
      go_ret
      exact ⟨ret_bool (by rw [hf.out]; first | rfl | (simp; omega)), hBw⟩
end Go.Proofs.Yteaemnjomlcfcaa.Tab
