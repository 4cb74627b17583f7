/- Tables as lists: what stands where, put in, put over and taken out by its place. Conditions: the inodes rise, where said. -/
import Derived.Test.YteaemnjomlcfcaaTabPlain
set_option linter.unusedVariables false
namespace Go.Proofs.Yteaemnjomlcfcaa.Tab
theorem rises_cons {y : Nod} {r : List Nod} : Rises (y :: r) ↔ (∀ z ∈ r, y.ino < z.ino) ∧ Rises r := List.pairwise_cons
theorem rank_cons_lt {n : Int} {y : Nod} {r : List Nod} (h : y.ino < n) : rank n (y :: r) = rank n r + 1 := by
  unfold rank
  rw [List.filter_cons_of_pos (by simpa using h), List.length_cons]
theorem rank_zero {n : Int} {xs : List Nod} (h : ∀ z ∈ xs, n ≤ z.ino) : rank n xs = 0 := by
  unfold rank
  rw [List.length_eq_zero_iff, List.filter_eq_nil_iff]
  intro z hz
  have := h z hz
  simp; omega
theorem drop_not {n : Int} {xs : List Nod} (h : has n xs = false) : drop n xs = xs := by
  unfold drop
  rw [List.filter_eq_self]
  intro z hz
  unfold has at h
  rw [List.any_eq_false] at h
  have := h z hz
  simpa using this
theorem has_cons_lt {n : Int} {y : Nod} {r : List Nod} (h : y.ino < n) : has n (y :: r) = has n r := by
  unfold has
  rw [List.any_cons, show (y.ino == n) = false by rw [beq_eq_false_iff_ne]; omega, Bool.false_or]
theorem has_big {n : Int} {xs : List Nod} (h : ∀ z ∈ xs, n < z.ino) : has n xs = false := by
  unfold has
  rw [List.any_eq_false]
  intro z hz
  have := h z hz
  simp; omega
theorem drop_cons_ne {n : Int} {y : Nod} {r : List Nod} (h : y.ino ≠ n) : drop n (y :: r) = y :: drop n r := by
  unfold drop
  rw [List.filter_cons_of_pos (by simpa using h)]
theorem drop_cons_eq {n : Int} {y : Nod} {r : List Nod} (h : y.ino = n) : drop n (y :: r) = drop n r := by
  unfold drop
  rw [List.filter_cons_of_neg (by simpa using h)]
theorem drop_has {n : Int} : ∀ {xs : List Nod}, Rises xs → has n xs = true → xs.take (rank n xs) ++ xs.drop (rank n xs + 1) = drop n xs
  | [], _, h => by cases h
  | y :: r, hR, h => by
    obtain ⟨h1, h2⟩ := rises_cons.1 hR
    by_cases hy : y.ino < n
    · rw [rank_cons_lt hy, List.take_succ_cons, List.drop_succ_cons, List.cons_append, drop_has h2 (by rwa [has_cons_lt hy] at h), drop_cons_ne (by omega)]
    · have hr0 : rank n (y :: r) = 0 := rank_zero fun z hz => by
        rcases List.mem_cons.1 hz with rfl | hz
        · omega
        · have := h1 z hz; omega
      by_cases he : y.ino = n
      · rw [hr0, drop_cons_eq he, drop_not (has_big fun z hz => by have := h1 z hz; omega)]; rfl
      · exfalso
        rw [has_big fun z hz => by
          rcases List.mem_cons.1 hz with rfl | hz
          · omega
          · have := h1 z hz; omega] at h
        cases h
theorem put_lt {x y : Nod} {r : List Nod} (h : y.ino < x.ino) : put x (y :: r) = y :: put x r := by
  rw [put, if_neg (by omega)]
theorem put_ge {x : Nod} {xs : List Nod} (h : ∀ z ∈ xs, x.ino < z.ino) : put x xs = x :: xs := by
  cases xs with
  | nil => rfl
  | cons y r => rw [put, if_pos (h y List.mem_cons_self)]
theorem set_cons_lt {x y : Nod} {r : List Nod} (h : y.ino < x.ino) : set x (y :: r) = y :: set x r := by
  unfold set
  rw [drop_cons_ne (by omega), put_lt h]
theorem set_has {x : Nod} : ∀ {xs : List Nod}, Rises xs → has x.ino xs = true → xs.set (rank x.ino xs) x = set x xs
  | [], _, h => by cases h
  | y :: r, hR, h => by
    obtain ⟨h1, h2⟩ := rises_cons.1 hR
    by_cases hy : y.ino < x.ino
    · rw [rank_cons_lt hy, List.set_cons_succ, set_has h2 (by rwa [has_cons_lt hy] at h), set_cons_lt hy]
    · have hr0 : rank x.ino (y :: r) = 0 := rank_zero fun z hz => by
        rcases List.mem_cons.1 hz with rfl | hz
        · omega
        · have := h1 z hz; omega
      by_cases he : y.ino = x.ino
      · unfold set
        rw [hr0, drop_cons_eq he, drop_not (has_big fun z hz => by have := h1 z hz; omega), put_ge fun z hz => by have := h1 z hz; omega]; rfl
      · exfalso
        rw [has_big fun z hz => by
          rcases List.mem_cons.1 hz with rfl | hz
          · omega
          · have := h1 z hz; omega] at h
        cases h
theorem set_not {x : Nod} : ∀ {xs : List Nod}, Rises xs → has x.ino xs = false → xs.take (rank x.ino xs) ++ x :: xs.drop (rank x.ino xs) = set x xs
  | [], _, _ => rfl
  | y :: r, hR, h => by
    obtain ⟨h1, h2⟩ := rises_cons.1 hR
    by_cases hy : y.ino < x.ino
    · rw [rank_cons_lt hy, List.take_succ_cons, List.drop_succ_cons, List.cons_append, set_not h2 (by rwa [has_cons_lt hy] at h), set_cons_lt hy]
    · have hne : y.ino ≠ x.ino := by
        intro e
        unfold has at h
        rw [List.any_cons, e] at h
        simp at h
      have hr0 : rank x.ino (y :: r) = 0 := rank_zero fun z hz => by
        rcases List.mem_cons.1 hz with rfl | hz
        · omega
        · have := h1 z hz; omega
      unfold set
      rw [hr0, drop_not h, put_ge fun z hz => by
        rcases List.mem_cons.1 hz with rfl | hz
        · omega
        · have := h1 z hz; omega]
      rfl
theorem drop_sub {n : Int} {xs : List Nod} : ∀ x ∈ drop n xs, x ∈ xs := fun x h => (List.mem_filter.1 h).1
theorem put_mem {x : Nod} : ∀ {xs : List Nod} {z : Nod}, z ∈ put x xs ↔ z = x ∨ z ∈ xs
  | [], z => by simp [put]
  | y :: r, z => by
    rw [put]
    split
    · simp
    · rw [List.mem_cons, put_mem, List.mem_cons]
      constructor
      · rintro (h | h | h) <;> simp [h]
      · rintro (h | h | h) <;> simp [h]
theorem set_mem {x : Nod} {xs : List Nod} {z : Nod} (h : z ∈ set x xs) : z = x ∨ z ∈ xs := by
  rcases put_mem.1 h with h | h
  · exact .inl h
  · exact .inr (drop_sub _ h)
theorem drop_rises {n : Int} {xs : List Nod} (h : Rises xs) : Rises (drop n xs) := List.Pairwise.filter _ h
theorem put_rises {x : Nod} : ∀ {xs : List Nod}, Rises xs → (∀ z ∈ xs, z.ino ≠ x.ino) → Rises (put x xs)
  | [], _, _ => by simp [put, Rises]
  | y :: r, h, hne => by
    obtain ⟨h1, h2⟩ := rises_cons.1 h
    have hy := hne y List.mem_cons_self
    rw [put]
    split
    · next hlt =>
      refine rises_cons.2 ⟨fun z hz => ?_, h⟩
      rcases List.mem_cons.1 hz with rfl | hz
      · exact hlt
      · have := h1 z hz; omega
    · next hlt =>
      refine rises_cons.2 ⟨fun z hz => ?_, put_rises h2 fun z hz => hne z (List.mem_cons_of_mem _ hz)⟩
      rcases put_mem.1 hz with rfl | hz
      · omega
      · exact h1 z hz
theorem set_rises {x : Nod} {xs : List Nod} (h : Rises xs) : Rises (set x xs) := put_rises (drop_rises h) fun z hz => by
  have := (List.mem_filter.1 hz).2
  simpa using this
theorem put_len {x : Nod} : ∀ {xs : List Nod}, (put x xs).length = xs.length + 1
  | [] => rfl
  | y :: r => by
    rw [put]
    split
    · rfl
    · rw [List.length_cons, put_len, List.length_cons]
theorem drop_len {n : Int} {xs : List Nod} : (drop n xs).length ≤ xs.length := List.length_filter_le _ _
theorem set_len {x : Nod} {xs : List Nod} : (set x xs).length ≤ xs.length + 1 := by
  unfold set
  rw [put_len]
  have := drop_len (n := x.ino) (xs := xs)
  omega
end Go.Proofs.Yteaemnjomlcfcaa.Tab
