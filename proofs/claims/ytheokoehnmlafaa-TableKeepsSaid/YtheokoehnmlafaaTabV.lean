/- Tables as lists of records, in plain words: no program in sight. No condition but what each states. -/
import Derived.WalkKit
set_option linter.unusedVariables false
namespace Go.Proofs.Ytheokoehnmlafaa.Vcg
structure EntV where
  name : List UInt8
  ino : Int
deriving DecidableEq, Inhabited
structure NodV where
  ino : Int
  kind : Int
  links : Int
  data : List UInt8
  parent : Int
  es : List EntV
deriving DecidableEq, Inhabited
/-- do the inodes rise? -/
def Rises (xs : List NodV) : Prop := xs.Pairwise fun a b => a.ino < b.ino
/-- the table with x, without n, the inode of n -/
def hasV (n : Int) (xs : List NodV) : Bool := xs.any fun x => x.ino == n
def rankV (n : Int) (xs : List NodV) : Nat := (xs.filter fun x => decide (x.ino < n)).length
def dropV (n : Int) (xs : List NodV) : List NodV := xs.filter fun x => x.ino != n
def getV (n : Int) (xs : List NodV) : Option NodV := xs.find? fun x => x.ino == n
def putV (x : NodV) : List NodV → List NodV
  | [] => [x]
  | y :: r => if x.ino < y.ino then x :: y :: r else y :: putV x r
def setV (x : NodV) (xs : List NodV) : List NodV := putV x (dropV x.ino xs)
theorem rank_at (n : Int) : ∀ (xs : List NodV) (i : Nat), i ≤ xs.length → (∀ t (h : t < xs.length), t < i → xs[t].ino < n) → (∀ t (h : t < xs.length), i ≤ t → n ≤ xs[t].ino) → rankV n xs = i
  | [], i, h, _, _ => by simp at h; simp [rankV, h]
  | x :: r, 0, _, _, h2 => by
    have hx : n ≤ x.ino := h2 0 (by simp) (Nat.le_refl _)
    have ih := rank_at n r 0 (Nat.zero_le _) (fun t h h' => absurd h' (Nat.not_lt_zero _)) (fun t h _ => h2 (t + 1) (by simp; omega) (Nat.zero_le _))
    unfold rankV at ih ⊢
    rw [List.filter_cons_of_neg (by simp; omega)]
    exact ih
  | x :: r, i + 1, h, h1, h2 => by
    have hx : x.ino < n := h1 0 (by simp) (Nat.succ_pos _)
    have ih := rank_at n r i (by simpa using h) (fun t h h' => h1 (t + 1) (by simp; omega) (by omega)) (fun t h h' => h2 (t + 1) (by simp; omega) (by omega))
    unfold rankV at ih ⊢
    rw [List.filter_cons_of_pos (by simp; omega), List.length_cons, ih]
theorem has_at (n : Int) (xs : List NodV) (i : Nat) (hi : i < xs.length) (h1 : ∀ t (h : t < xs.length), t < i → xs[t].ino < n) (h2 : n ≤ xs[i].ino) (hR : Rises xs) : hasV n xs = decide (xs[i].ino = n) := by
  by_cases h : xs[i].ino = n
  · rw [decide_eq_true h]
    exact List.any_eq_true.2 ⟨xs[i], List.getElem_mem hi, by simp [h]⟩
  · rw [decide_eq_false h]
    apply Bool.eq_false_iff.2
    intro hh
    obtain ⟨y, hy, e⟩ := List.any_eq_true.1 hh
    obtain ⟨t, ht, rfl⟩ := List.getElem_of_mem hy
    have e : xs[t].ino = n := by simpa using e
    rcases Nat.lt_trichotomy t i with h3 | h3 | h3
    · have := h1 t ht h3; omega
    · subst h3; exact h e
    · have := (List.pairwise_iff_getElem.1 hR) i t hi ht h3; omega
theorem has_end (n : Int) (xs : List NodV) (h1 : ∀ t (h : t < xs.length), xs[t].ino < n) : hasV n xs = false := by
  apply Bool.eq_false_iff.2
  intro hh
  obtain ⟨y, hy, e⟩ := List.any_eq_true.1 hh
  obtain ⟨t, ht, rfl⟩ := List.getElem_of_mem hy
  have e : xs[t].ino = n := by simpa using e
  have := h1 t ht
  omega
theorem get_none {n : Int} {xs : List NodV} (h : hasV n xs = false) : getV n xs = none := by
  unfold getV hasV at *
  rw [List.find?_eq_none]
  intro x hx hh
  rw [List.any_eq_false] at h
  exact h x hx hh
theorem rank_parts (n : Int) (xs : List NodV) (hR : Rises xs) : ∃ i, i ≤ xs.length ∧ (∀ t (h : t < xs.length), t < i → xs[t].ino < n) ∧ (∀ t (h : t < xs.length), i ≤ t → n ≤ xs[t].ino) := by
  induction xs with
  | nil => exact ⟨0, Nat.le_refl _, fun t h => absurd h (Nat.not_lt_zero _), fun t h => absurd h (Nat.not_lt_zero _)⟩
  | cons x r ih =>
    by_cases hx : x.ino < n
    · obtain ⟨i, h1, h2, h3⟩ := ih (List.pairwise_cons.1 hR).2
      refine ⟨i + 1, by simp; omega, fun t h ht => ?_, fun t h ht => ?_⟩
      · cases t with
        | zero => exact hx
        | succ t => exact h2 t (by simpa using h) (by omega)
      · cases t with
        | zero => omega
        | succ t => exact h3 t (by simpa using h) (by omega)
    · refine ⟨0, Nat.zero_le _, fun t h ht => absurd ht (Nat.not_lt_zero _), fun t h _ => ?_⟩
      cases t with
      | zero => simp; omega
      | succ t =>
        have := (List.pairwise_cons.1 hR).1 (r[t]'(by simpa using h)) (List.getElem_mem _)
        simp; omega
theorem rank_le (n : Int) (xs : List NodV) : rankV n xs ≤ xs.length := List.length_filter_le _ _
theorem rank_lt {n : Int} {xs : List NodV} (hR : Rises xs) : (∀ t (h : t < xs.length), t < rankV n xs → xs[t].ino < n) ∧ (∀ t (h : t < xs.length), rankV n xs ≤ t → n ≤ xs[t].ino) := by
  obtain ⟨i, h1, h2, h3⟩ := rank_parts n xs hR
  rw [rank_at n xs i h1 h2 h3]
  exact ⟨h2, h3⟩
theorem has_rank {n : Int} {xs : List NodV} (hR : Rises xs) (h : hasV n xs = true) : ∃ hlt : rankV n xs < xs.length, xs[rankV n xs].ino = n := by
  obtain ⟨h2, h3⟩ := rank_lt (n := n) hR
  by_cases hlt : rankV n xs < xs.length
  · refine ⟨hlt, ?_⟩
    have := has_at n xs _ hlt h2 (h3 _ hlt (Nat.le_refl _)) hR
    rw [h] at this
    exact of_decide_eq_true this.symm
  · have := has_end n xs (fun t h => h2 t h (by omega))
    rw [h] at this; cases this
theorem get_rank {n : Int} {xs : List NodV} (hR : Rises xs) (h : hasV n xs = true) : ∃ hlt : rankV n xs < xs.length, getV n xs = some xs[rankV n xs] := by
  obtain ⟨hlt, he⟩ := has_rank hR h
  refine ⟨hlt, ?_⟩
  obtain ⟨h2, h3⟩ := rank_lt (n := n) hR
  unfold getV
  rw [List.find?_eq_some_iff_getElem]
  exact ⟨by simp [he], _, hlt, rfl, fun j hj => by have := h2 j (by omega) hj; simp; omega⟩
theorem rises_cons {y : NodV} {r : List NodV} : Rises (y :: r) ↔ (∀ z ∈ r, y.ino < z.ino) ∧ Rises r := List.pairwise_cons
theorem rank_cons_lt {n : Int} {y : NodV} {r : List NodV} (h : y.ino < n) : rankV n (y :: r) = rankV n r + 1 := by
  unfold rankV
  rw [List.filter_cons_of_pos (by simpa using h), List.length_cons]
theorem rank_zero {n : Int} {xs : List NodV} (h : ∀ z ∈ xs, n ≤ z.ino) : rankV n xs = 0 := by
  unfold rankV
  rw [List.length_eq_zero_iff, List.filter_eq_nil_iff]
  intro z hz
  have := h z hz
  simp; omega
theorem drop_not {n : Int} {xs : List NodV} (h : hasV n xs = false) : dropV n xs = xs := by
  unfold dropV
  rw [List.filter_eq_self]
  intro z hz
  unfold hasV at h
  rw [List.any_eq_false] at h
  have := h z hz
  simpa using this
theorem has_cons_lt {n : Int} {y : NodV} {r : List NodV} (h : y.ino < n) : hasV n (y :: r) = hasV n r := by
  unfold hasV
  rw [List.any_cons, show (y.ino == n) = false by rw [beq_eq_false_iff_ne]; omega, Bool.false_or]
theorem has_big {n : Int} {xs : List NodV} (h : ∀ z ∈ xs, n < z.ino) : hasV n xs = false := by
  unfold hasV
  rw [List.any_eq_false]
  intro z hz
  have := h z hz
  simp; omega
theorem drop_cons_ne {n : Int} {y : NodV} {r : List NodV} (h : y.ino ≠ n) : dropV n (y :: r) = y :: dropV n r := by
  unfold dropV
  rw [List.filter_cons_of_pos (by simpa using h)]
theorem drop_cons_eq {n : Int} {y : NodV} {r : List NodV} (h : y.ino = n) : dropV n (y :: r) = dropV n r := by
  unfold dropV
  rw [List.filter_cons_of_neg (by simpa using h)]
theorem drop_has {n : Int} : ∀ {xs : List NodV}, Rises xs → hasV n xs = true → xs.take (rankV n xs) ++ xs.drop (rankV n xs + 1) = dropV n xs
  | [], _, h => by cases h
  | y :: r, hR, h => by
    obtain ⟨h1, h2⟩ := rises_cons.1 hR
    by_cases hy : y.ino < n
    · rw [rank_cons_lt hy, List.take_succ_cons, List.drop_succ_cons, List.cons_append, drop_has h2 (by rwa [has_cons_lt hy] at h), drop_cons_ne (by omega)]
    · have hr0 : rankV n (y :: r) = 0 := rank_zero fun z hz => by
        rcases List.mem_cons.1 hz with rfl | hz
        · omega
        · have := h1 z hz; omega
      by_cases he : y.ino = n
      · rw [hr0, drop_cons_eq he, drop_not (has_big fun z hz => by have := h1 z hz; omega)]; rfl
      · exfalso
        rw [has_big fun z hz => by
          rcases List.mem_cons.1 hz with rfl | hz
          · omega
          · have := h1 z hz; omega] at h
        cases h
theorem put_lt {x y : NodV} {r : List NodV} (h : y.ino < x.ino) : putV x (y :: r) = y :: putV x r := by
  rw [putV, if_neg (by omega)]
theorem put_ge {x : NodV} {xs : List NodV} (h : ∀ z ∈ xs, x.ino < z.ino) : putV x xs = x :: xs := by
  cases xs with
  | nil => rfl
  | cons y r => rw [putV, if_pos (h y List.mem_cons_self)]
theorem set_cons_lt {x y : NodV} {r : List NodV} (h : y.ino < x.ino) : setV x (y :: r) = y :: setV x r := by
  unfold setV
  rw [drop_cons_ne (by omega), put_lt h]
theorem set_has {x : NodV} : ∀ {xs : List NodV}, Rises xs → hasV x.ino xs = true → xs.set (rankV x.ino xs) x = setV x xs
  | [], _, h => by cases h
  | y :: r, hR, h => by
    obtain ⟨h1, h2⟩ := rises_cons.1 hR
    by_cases hy : y.ino < x.ino
    · rw [rank_cons_lt hy, List.set_cons_succ, set_has h2 (by rwa [has_cons_lt hy] at h), set_cons_lt hy]
    · have hr0 : rankV x.ino (y :: r) = 0 := rank_zero fun z hz => by
        rcases List.mem_cons.1 hz with rfl | hz
        · omega
        · have := h1 z hz; omega
      by_cases he : y.ino = x.ino
      · unfold setV
        rw [hr0, drop_cons_eq he, drop_not (has_big fun z hz => by have := h1 z hz; omega), put_ge fun z hz => by have := h1 z hz; omega]; rfl
      · exfalso
        rw [has_big fun z hz => by
          rcases List.mem_cons.1 hz with rfl | hz
          · omega
          · have := h1 z hz; omega] at h
        cases h
theorem set_not {x : NodV} : ∀ {xs : List NodV}, Rises xs → hasV x.ino xs = false → xs.take (rankV x.ino xs) ++ x :: xs.drop (rankV x.ino xs) = setV x xs
  | [], _, _ => rfl
  | y :: r, hR, h => by
    obtain ⟨h1, h2⟩ := rises_cons.1 hR
    by_cases hy : y.ino < x.ino
    · rw [rank_cons_lt hy, List.take_succ_cons, List.drop_succ_cons, List.cons_append, set_not h2 (by rwa [has_cons_lt hy] at h), set_cons_lt hy]
    · have hne : y.ino ≠ x.ino := by
        intro e
        unfold hasV at h
        rw [List.any_cons, e] at h
        simp at h
      have hr0 : rankV x.ino (y :: r) = 0 := rank_zero fun z hz => by
        rcases List.mem_cons.1 hz with rfl | hz
        · omega
        · have := h1 z hz; omega
      unfold setV
      rw [hr0, drop_not h, put_ge fun z hz => by
        rcases List.mem_cons.1 hz with rfl | hz
        · omega
        · have := h1 z hz; omega]
      rfl
theorem drop_sub {n : Int} {xs : List NodV} : ∀ x ∈ dropV n xs, x ∈ xs := fun x h => (List.mem_filter.1 h).1
theorem put_mem {x : NodV} : ∀ {xs : List NodV} {z : NodV}, z ∈ putV x xs ↔ z = x ∨ z ∈ xs
  | [], z => by simp [putV]
  | y :: r, z => by
    rw [putV]
    split
    · simp
    · rw [List.mem_cons, put_mem, List.mem_cons]
      constructor
      · rintro (h | h | h) <;> simp [h]
      · rintro (h | h | h) <;> simp [h]
theorem set_mem {x : NodV} {xs : List NodV} {z : NodV} (h : z ∈ setV x xs) : z = x ∨ z ∈ xs := by
  rcases put_mem.1 h with h | h
  · exact .inl h
  · exact .inr (drop_sub _ h)
theorem drop_rises {n : Int} {xs : List NodV} (h : Rises xs) : Rises (dropV n xs) := List.Pairwise.filter _ h
theorem put_rises {x : NodV} : ∀ {xs : List NodV}, Rises xs → (∀ z ∈ xs, z.ino ≠ x.ino) → Rises (putV x xs)
  | [], _, _ => by simp [putV, Rises]
  | y :: r, h, hne => by
    obtain ⟨h1, h2⟩ := rises_cons.1 h
    have hy := hne y List.mem_cons_self
    rw [putV]
    split
    · next hlt =>
      refine rises_cons.2 ⟨fun z hz => ?_, h⟩
      rcases List.mem_cons.1 hz with rfl | hz
      · exact hlt
      · have := h1 z hz; omega
    · next hlt =>
      refine rises_cons.2 ⟨fun z hz => ?_, put_rises h2 fun z hz => hne z (List.mem_cons_of_mem _ hz)⟩
      rcases put_mem.1 hz with rfl | hz
      · omega
      · exact h1 z hz
theorem set_rises {x : NodV} {xs : List NodV} (h : Rises xs) : Rises (setV x xs) := put_rises (drop_rises h) fun z hz => by
  have := (List.mem_filter.1 hz).2
  simpa using this
theorem put_len {x : NodV} : ∀ {xs : List NodV}, (putV x xs).length = xs.length + 1
  | [] => rfl
  | y :: r => by
    rw [putV]
    split
    · rfl
    · rw [List.length_cons, put_len, List.length_cons]
theorem drop_len {n : Int} {xs : List NodV} : (dropV n xs).length ≤ xs.length := List.length_filter_le _ _
theorem set_len {x : NodV} {xs : List NodV} : (setV x xs).length ≤ xs.length + 1 := by
  unfold setV
  rw [put_len]
  have := drop_len (n := x.ino) (xs := xs)
  omega
end Go.Proofs.Ytheokoehnmlafaa.Vcg
