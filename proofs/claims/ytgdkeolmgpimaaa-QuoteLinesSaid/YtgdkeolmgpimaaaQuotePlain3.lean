/- Plain facts on lines that are built with one blank too many, and on words that are joined. No condition. -/
import Derived.Test.YtgdkeolmgpimaaaQuotePlain2
namespace Go.Proofs.Ytgdkeolmgpimaaa.QuotePlain
/-- each word, a blank behind it -/
def F (q : List Bs) : Bs := q.flatMap (· ++ [32])
theorem F_append (a b : List Bs) : F (a ++ b) = F a ++ F b := by simp [F]
theorem F_one (a : Bs) : F [a] = a ++ [32] := by simp [F]
theorem blanks_F : ∀ (pre post : List Bs), post ≠ [] → blanks (pre ++ post) = F pre ++ blanks post
  | [], post, _ => by simp [F]
  | w :: pre, post, h => by
    have ih := blanks_F pre post h
    have e : blanks ((w :: pre) ++ post) = w ++ 32 :: blanks (pre ++ post) := by
      cases hp : pre ++ post with
      | nil => exact absurd (List.append_eq_nil_iff.1 hp).2 h
      | cons v r => rw [List.cons_append, hp]; exact blanks_cons _ _ _
    rw [e, ih]; simp [F]
/-- the line with a blank too many, so far -/
def bl (Q : List Bs) (n : Nat) : Nat → Bs
  | 0 => []
  | i + 1 => ((bl Q n i ++ (if i = n then [32] else [])) ++ Q.getD i []) ++ (if i + 1 < Q.length ∨ n = Q.length then [32] else [])
theorem take_one (Q : List Bs) (k : Nat) (h : k < Q.length) : Q.take (k + 1) = Q.take k ++ [Q.getD k []] := by
  rw [List.take_succ_eq_append_getElem h, List.getD_eq_getElem?_getD, List.getElem?_eq_getElem h]; rfl
theorem bl_low (Q : List Bs) (n : Nat) : ∀ k, k ≤ n → k ≤ Q.length → (k < Q.length ∨ n = Q.length) → bl Q n k = F (Q.take k)
  | 0, _, _, _ => by simp [bl, F]
  | k + 1, h1, h2, h3 => by
    rw [bl, bl_low Q n k (by omega) (by omega) (by omega), if_neg (by omega), if_pos h3, take_one Q k (by omega), F_append, F_one]
    simp
theorem bl_high (Q : List Bs) (n : Nat) (hn : n < Q.length) : ∀ d, n + d + 1 < Q.length → bl Q n (n + d + 1) = F (Q.take n) ++ 32 :: F ((Q.drop n).take (d + 1))
  | 0, h => by
    rw [bl, bl_low Q n n (by omega) (by omega) (.inl hn), if_pos rfl, if_pos (.inl h)]
    have : (Q.drop n).take 1 = [Q.getD n []] := by
      rw [take_one _ 0 (by rw [List.length_drop]; omega)]; simp [List.getD_eq_getElem?_getD]
    rw [this, F_one]; simp
  | d + 1, h => by
    have ih := bl_high Q n hn d (by omega)
    rw [show n + (d + 1) + 1 = (n + d + 1) + 1 from by omega, bl, ih, if_neg (by omega), if_pos (.inl (by omega))]
    rw [take_one (Q.drop n) (d + 1) (by rw [List.length_drop]; omega), F_append, F_one]
    have : (Q.drop n).getD (d + 1) [] = Q.getD (n + d + 1) [] := by simp [List.getD_eq_getElem?_getD]; rw [Nat.add_assoc]
    rw [this]; simp
theorem bl_all (Q : List Bs) (n : Nat) (hn : n ≤ Q.length) (h0 : Q ≠ []) : bl Q n Q.length = blanks (Q.take n ++ [] :: Q.drop n) := by
  have hl : 0 < Q.length := List.length_pos_iff.2 h0
  rw [blanks_F _ _ (by simp)]
  by_cases h : n = Q.length
  · rw [bl_low Q n Q.length (by omega) (by omega) (.inr h), h, List.take_length, List.drop_length, blanks_one, List.append_nil]
  · have hn' : n < Q.length := by omega
    obtain ⟨v, r, hv⟩ : ∃ v r, Q.drop n = v :: r := by
      cases hd : Q.drop n with
      | nil => have := congrArg List.length hd; rw [List.length_drop] at this; simp at this; omega
      | cons v r => exact ⟨v, r, rfl⟩
    have e : blanks ([] :: Q.drop n) = 32 :: blanks (Q.drop n) := by rw [hv, blanks_cons]; rfl
    rw [e]
    obtain ⟨m, hm⟩ : ∃ m, Q.length = m + 1 := ⟨Q.length - 1, by omega⟩
    have hlast : Q.drop n = (Q.drop n).take (m - n) ++ [Q.getD m []] := by
      have h1 : (Q.drop n).length = (m - n) + 1 := by rw [List.length_drop]; omega
      have h2 := take_one (Q.drop n) (m - n) (by omega)
      rw [List.take_of_length_le (by omega)] at h2
      have h3 : (Q.drop n).getD (m - n) [] = Q.getD m [] := by
        simp only [List.getD_eq_getElem?_getD, List.getElem?_drop]
        rw [show n + (m - n) = m from by omega]
      rw [h3] at h2
      exact h2
    rw [hm, bl, if_neg (by omega : ¬ (m + 1 < Q.length ∨ n = Q.length)), List.append_nil]
    by_cases hmn : m = n
    · rw [if_pos hmn, hmn, bl_low Q n n (by omega) (by omega) (.inl hn')]
      have : blanks (Q.drop n) = Q.getD n [] := by
        rw [hlast, hmn]; simp [blanks_one]
      rw [this]; simp
    · rw [if_neg hmn, List.append_nil]
      have h3 := bl_high Q n hn' (m - n - 1) (by omega)
      rw [show n + (m - n - 1) + 1 = m from by omega, show m - n - 1 + 1 = m - n from by omega] at h3
      rw [h3]
      conv => rhs; rw [hlast]
      rw [blanks_F _ _ (by simp), blanks_one]; simp
theorem bl_split (l : List Bs) (n : Nat) (hn : n ≤ l.length) (h0 : l ≠ []) : split1 (bl (l.map quoteL) n l.length) = none := by
  have h1 := bl_all (l.map quoteL) n (by rw [List.length_map]; exact hn) (by simpa using h0)
  rw [List.length_map] at h1
  rw [h1]
  apply split1_blank
  intro w hw
  obtain ⟨t, _, rfl⟩ := List.mem_map.1 (List.mem_of_mem_take hw)
  exact okw_quote t
theorem bl_ne (l : List Bs) (n : Nat) (h0 : l ≠ []) : bl (l.map quoteL) n l.length ≠ [] := by
  obtain ⟨m, hm⟩ : ∃ m, l.length = m + 1 := ⟨l.length - 1, by have := List.length_pos_iff.2 h0; omega⟩
  rw [hm, bl]
  have h2 : (l.map quoteL).getD m [] ≠ [] := by
    have : m < (l.map quoteL).length := by rw [List.length_map]; omega
    rw [List.getD_eq_getElem?_getD, List.getElem?_eq_getElem this]
    simp [quoteL]
  intro e
  simp only [List.append_eq_nil_iff] at e
  exact h2 e.1.2
/-- the words of the law's line -/
def wordAt (xs : List Bs) (i : Nat) : Bs := if i % 2 = 0 ∨ plainL (xs.getD i []) = false then quoteL (xs.getD i []) else xs.getD i []
def wordsTo (xs : List Bs) (k : Nat) : List Bs := (List.range k).map (wordAt xs)
theorem wordsTo_succ (xs : List Bs) (k : Nat) : wordsTo xs (k + 1) = wordsTo xs k ++ [wordAt xs k] := by simp [wordsTo, List.range_succ]
theorem wordsTo_length (xs : List Bs) (k : Nat) : (wordsTo xs k).length = k := by simp [wordsTo]
theorem wordAt_ok (xs : List Bs) (i : Nat) : okw (wordAt xs i) = true := by
  unfold wordAt
  split
  · exact okw_quote _
  · rename_i h
    have : plainL (xs.getD i []) = true := by
      cases hp : plainL (xs.getD i []) with
      | true => rfl
      | false => exact absurd (.inr hp) h
    rw [okw, this, Bool.or_true]
theorem splitW_blanks (ws : List Bs) (h : ∀ w ∈ ws, okw w = true) : splitW (blanks ws) = some ws := by
  by_cases h0 : ws = []
  · subst h0; rfl
  · rw [splitW, if_neg (blanks_ne h0 h), (split1_iff _ _).2 ⟨h0, h, rfl⟩]
theorem splitW_back (l : Bs) (ws : List Bs) (h : splitW l = some ws) : blanks ws = l ∧ ws.length ≤ l.length := by
  unfold splitW at h
  split at h
  · rename_i e
    simp only [Option.some.injEq] at h
    subst h e
    exact ⟨rfl, Nat.le_refl _⟩
  · obtain ⟨_, h2, h3⟩ := (split1_iff _ _).1 h
    exact ⟨h3.symm, by rw [h3]; exact blanks_length ws h2⟩
theorem wordsTo_split (xs : List Bs) (k : Nat) : splitW (blanks (wordsTo xs k)) = some (wordsTo xs k) :=
  splitW_blanks _ fun w hw => by
    obtain ⟨i, _, rfl⟩ := List.mem_map.1 hw
    exact wordAt_ok xs i
end Go.Proofs.Ytgdkeolmgpimaaa.QuotePlain
