/- Plain facts on quoted texts and lines of words, as lists of bytes: what is quoted is read as it was, and a line is cut as it was joined. No condition. -/
import Derived.Lib.Bytealg
namespace Go.Proofs.YtphiahlodjblcaaDoor.QuotePlain
abbrev Bs := List UInt8
def good (c : UInt8) : Bool := decide (32 ≤ c.toNat ∧ c.toNat ≤ 126 ∧ c.toNat ≠ 34 ∧ c.toNat ≠ 92)
def digits : Bs := [48, 49, 50, 51, 52, 53, 54, 55, 56, 57, 97, 98, 99, 100, 101, 102]
def hexd (n : Nat) : UInt8 := digits.getD n 0
def qb (c : UInt8) : Bs := if good c then [c] else [92, 120, hexd (c.toNat / 16), hexd (c.toNat % 16)]
def mid (l : Bs) : Bs := l.flatMap qb
def quoteL (l : Bs) : Bs := 34 :: (mid l ++ [34])
def plainL (l : Bs) : Bool := decide (l ≠ []) && l.all fun c => decide (33 ≤ c.toNat ∧ c.toNat ≤ 126 ∧ c.toNat ≠ 34)
/-- a digit's place; 16: it is none -/
def hexv (c : UInt8) : Nat := (digits.findIdx? (· == c)).getD 16
def taken : Bs → UInt8 × Nat
  | [] => (0, 0)
  | c :: r =>
    if c ≠ 92 then (if good c then (c, 1) else (0, 0))
    else match r with
      | x :: a :: b :: _ => if x = 120 ∧ hexv a < 16 ∧ hexv b < 16 ∧ good (UInt8.ofNat (hexv a * 16 + hexv b)) = false then (UInt8.ofNat (hexv a * 16 + hexv b), 4) else (0, 0)
      | _ => (0, 0)
theorem taken_cons (c : UInt8) (r : Bs) : taken (c :: r) = if c ≠ 92 then (if good c then (c, 1) else (0, 0))
    else match r with
      | x :: a :: b :: _ => if x = 120 ∧ hexv a < 16 ∧ hexv b < 16 ∧ good (UInt8.ofNat (hexv a * 16 + hexv b)) = false then (UInt8.ofNat (hexv a * 16 + hexv b), 4) else (0, 0)
      | _ => (0, 0) := rfl
theorem all_bytes {p : UInt8 → Bool} (h : (List.range 256).all (fun n => p (UInt8.ofNat n)) = true) (c : UInt8) : p c = true := by
  have h1 := List.all_eq_true.1 h c.toNat (List.mem_range.2 c.toNat_lt)
  simpa using h1
theorem hex_back (c : UInt8) : hexv (hexd (c.toNat / 16)) = c.toNat / 16 ∧ hexv (hexd (c.toNat % 16)) = c.toNat % 16 := by
  have := all_bytes (p := fun c => decide (hexv (hexd (c.toNat / 16)) = c.toNat / 16 ∧ hexv (hexd (c.toNat % 16)) = c.toNat % 16)) (by decide +kernel) c
  simpa using this
theorem hexv_16 (c : UInt8) : hexv c < 16 → hexd (hexv c) = c := by
  have := all_bytes (p := fun c => decide (hexv c < 16 → hexd (hexv c) = c)) (by decide +kernel) c
  exact of_decide_eq_true this
theorem hexv_le (c : UInt8) : hexv c ≤ 16 := by
  have := all_bytes (p := fun c => decide (hexv c ≤ 16)) (by decide +kernel) c
  simpa using this
theorem hexd_sign (c : UInt8) : (32 ≤ (hexd (c.toNat / 16)).toNat ∧ (hexd (c.toNat / 16)).toNat ≤ 126 ∧ hexd (c.toNat / 16) ≠ 34) ∧ (32 ≤ (hexd (c.toNat % 16)).toNat ∧ (hexd (c.toNat % 16)).toNat ≤ 126 ∧ hexd (c.toNat % 16) ≠ 34) := by
  have := all_bytes (p := fun c => decide ((32 ≤ (hexd (c.toNat / 16)).toNat ∧ (hexd (c.toNat / 16)).toNat ≤ 126 ∧ hexd (c.toNat / 16) ≠ 34) ∧ (32 ≤ (hexd (c.toNat % 16)).toNat ∧ (hexd (c.toNat % 16)).toNat ≤ 126 ∧ hexd (c.toNat % 16) ≠ 34))) (by decide +kernel) c
  simpa using this
theorem good_34 {c : UInt8} (h : good c = true) : c ≠ 34 := by rintro rfl; revert h; decide
theorem good_92 {c : UInt8} (h : good c = true) : c ≠ 92 := by rintro rfl; revert h; decide
theorem ofNat_parts (c : UInt8) : UInt8.ofNat (c.toNat / 16 * 16 + c.toNat % 16) = c := by
  have : c.toNat / 16 * 16 + c.toNat % 16 = c.toNat := by omega
  rw [this]; simp
theorem taken_qb (c : UInt8) (r : Bs) : taken (qb c ++ r) = (c, (qb c).length) := by
  unfold qb
  by_cases h : good c = true
  · rw [if_pos h]
    simp [taken, good_92 h, h]
  · rw [if_neg h]
    obtain ⟨h1, h2⟩ := hex_back c
    simp only [List.cons_append, List.nil_append, taken, h1, h2, ofNat_parts]
    rw [if_neg (by simp), if_pos ⟨trivial, by have := c.toNat_lt; omega, by omega, by simpa using h⟩]
    rfl
theorem taken_of {l : Bs} {c : UInt8} {n : Nat} (h : taken l = (c, n)) (hn : n ≠ 0) : l = qb c ++ l.drop n ∧ n = (qb c).length := by
  match l with
  | [] => simp only [taken, Prod.mk.injEq] at h; exact absurd h.2.symm hn
  | x :: r =>
    rw [taken_cons] at h
    split at h
    · split at h
      · rename_i h1 h2
        simp only [Prod.mk.injEq] at h
        obtain ⟨rfl, rfl⟩ := h
        simp [qb, h2]
      · simp only [Prod.mk.injEq] at h; exact absurd h.2.symm hn
    · rename_i h1
      have hx : x = 92 := by simpa using h1
      subst hx
      split at h
      · split at h
        · rename_i y a b r' h2
          simp only [Prod.mk.injEq] at h
          obtain ⟨rfl, rfl⟩ := h
          obtain ⟨e1, e2, e3, e4⟩ := h2
          have e5 : (UInt8.ofNat (hexv a * 16 + hexv b)).toNat = hexv a * 16 + hexv b := by
            rw [UInt8.toNat_ofNat']; omega
          have e6 : (hexv a * 16 + hexv b) / 16 = hexv a := by omega
          have e7 : (hexv a * 16 + hexv b) % 16 = hexv b := by omega
          generalize UInt8.ofNat (hexv a * 16 + hexv b) = v at e4 e5
          have e8 : qb v = [92, 120, a, b] := by
            rw [qb, e4, e5, e6, e7, hexv_16 a e2, hexv_16 b e3]; rfl
          rw [e8, e1]
          exact ⟨rfl, rfl⟩
        · simp only [Prod.mk.injEq] at h; exact absurd h.2.symm hn
      · simp only [Prod.mk.injEq] at h; exact absurd h.2.symm hn
theorem qb_no34 (c : UInt8) : 34 ∉ qb c := by
  unfold qb
  split
  · rename_i h; simp; exact fun e => good_34 h e.symm
  · have := hexd_sign c; simp; exact ⟨fun e => this.1.2.2 e.symm, fun e => this.2.2.2 e.symm⟩
theorem qb_pos (c : UInt8) : 0 < (qb c).length := by unfold qb; split <;> simp
theorem mid_no34 (t : Bs) : 34 ∉ mid t := by
  simp only [mid, List.mem_flatMap, not_exists, not_and]
  exact fun c _ => qb_no34 c
/-- what stands behind the mark -/
def bodyF : Nat → Bs → Option (Bs × Nat)
  | 0, _ => none
  | _ + 1, [] => none
  | f + 1, c :: r => if c = 34 then some ([], 1) else if (taken (c :: r)).2 = 0 then none else (bodyF f ((c :: r).drop (taken (c :: r)).2)).map fun x => ((taken (c :: r)).1 :: x.1, (taken (c :: r)).2 + x.2)
theorem bodyF_of : ∀ f l t n, bodyF f l = some (t, n) → ∃ r, l = mid t ++ 34 :: r ∧ n = (mid t).length + 1
  | 0, _, _, _, h => by simp [bodyF] at h
  | f + 1, [], _, _, h => by simp [bodyF] at h
  | f + 1, c :: r, t, n, h => by
    unfold bodyF at h
    split at h
    · rename_i e
      simp only [Option.some.injEq, Prod.mk.injEq] at h
      obtain ⟨rfl, rfl⟩ := h
      exact ⟨r, by simp [mid, e], by simp [mid]⟩
    · split at h
      · simp at h
      · rename_i h1 h2
        obtain ⟨⟨t', n'⟩, h3, h4⟩ := Option.map_eq_some_iff.1 h
        simp only [Prod.mk.injEq] at h4
        obtain ⟨rfl, rfl⟩ := h4
        obtain ⟨r', e1, e2⟩ := bodyF_of f _ _ _ h3
        obtain ⟨e3, e4⟩ := taken_of (l := c :: r) (c := (taken (c :: r)).1) (n := (taken (c :: r)).2) rfl h2
        refine ⟨r', ?_, ?_⟩
        · have e5 : c :: r = qb (taken (c :: r)).1 ++ (mid t' ++ 34 :: r') := by rw [← e1]; exact e3
          have e6 : mid ((taken (c :: r)).1 :: t') = qb (taken (c :: r)).1 ++ mid t' := by simp [mid]
          rw [e6, List.append_assoc]; exact e5
        · rw [e4, e2]; simp [mid]; omega
theorem bodyF_mid : ∀ t f r, (mid t).length < f → bodyF f (mid t ++ 34 :: r) = some (t, (mid t).length + 1)
  | [], 0, _, h => by simp at h
  | [], f + 1, r, _ => by simp [mid, bodyF]
  | c :: t, 0, _, h => by simp at h
  | c :: t, f + 1, r, h => by
    have hp := qb_pos c
    have e : mid (c :: t) ++ 34 :: r = qb c ++ (mid t ++ 34 :: r) := by simp [mid]
    have hl : (mid (c :: t)).length = (qb c).length + (mid t).length := by simp [mid]
    have ht := taken_qb c (mid t ++ 34 :: r)
    rw [e]
    obtain ⟨y, z, hq⟩ : ∃ y z, qb c = y :: z := by
      cases hq : qb c with
      | nil => simp [hq] at hp
      | cons y z => exact ⟨y, z, rfl⟩
    have hy : y ≠ 34 := by rintro rfl; exact qb_no34 c (by simp [hq])
    have h2 : (y :: z ++ (mid t ++ 34 :: r)) = y :: (z ++ (mid t ++ 34 :: r)) := rfl
    rw [hq] at ht ⊢
    rw [h2] at ht ⊢
    unfold bodyF
    rw [if_neg hy, ht, if_neg (by simp)]
    have h3 : (y :: (z ++ (mid t ++ 34 :: r))).drop (y :: z).length = mid t ++ 34 :: r := by rw [← h2]; simp
    rw [h3, bodyF_mid t f r (by omega), hl, hq]
    simp; omega
def body (l : Bs) : Option (Bs × Nat) := bodyF (l.length + 1) l
theorem body_iff (l t : Bs) (n : Nat) : body l = some (t, n) ↔ (∃ r, l = mid t ++ 34 :: r) ∧ n = (mid t).length + 1 := by
  constructor
  · intro h; obtain ⟨r, e1, e2⟩ := bodyF_of _ _ _ _ h; exact ⟨⟨r, e1⟩, e2⟩
  · rintro ⟨⟨r, rfl⟩, rfl⟩; exact bodyF_mid t _ r (by simp; omega)
theorem bodyF_more : ∀ f l, l.length < f → bodyF f l = body l := by
  intro f l h
  cases h1 : body l with
  | some x =>
    obtain ⟨t, n⟩ := x
    obtain ⟨⟨r, e1⟩, e2⟩ := (body_iff l t n).1 h1
    rw [e1, e2]; exact bodyF_mid t f r (by rw [e1] at h; simp at h; omega)
  | none =>
    cases h2 : bodyF f l with
    | none => rfl
    | some x =>
      obtain ⟨t, n⟩ := x
      obtain ⟨r, e1, e2⟩ := bodyF_of _ _ _ _ h2
      rw [(body_iff l t n).2 ⟨⟨r, e1⟩, e2⟩] at h1; cases h1
theorem body_nil : body [] = none := by
  cases h : body [] with
  | none => rfl
  | some x => obtain ⟨⟨r, e⟩, _⟩ := (body_iff [] x.1 x.2).1 h; simp at e
theorem body_mark (r : Bs) : body (34 :: r) = some ([], 1) := (body_iff _ _ _).2 ⟨⟨r, by simp [mid]⟩, by simp [mid]⟩
theorem body_stop (c : UInt8) (r : Bs) (h : c ≠ 34) (h0 : (taken (c :: r)).2 = 0) : body (c :: r) = none := by
  simp [body, bodyF, h, h0]
theorem body_step (c : UInt8) (r : Bs) (h : c ≠ 34) (h0 : (taken (c :: r)).2 ≠ 0) : body (c :: r) = (body ((c :: r).drop (taken (c :: r)).2)).map fun x => ((taken (c :: r)).1 :: x.1, (taken (c :: r)).2 + x.2) := by
  rw [body]
  unfold bodyF
  rw [if_neg h, if_neg h0, bodyF_more]
  simp only [List.length_drop, List.length_cons]; omega
/-- a quoted text at the beginning: it, and how many bytes it has -/
def qtd : Bs → Option (Bs × Nat)
  | [] => none
  | c :: r => if c = 34 then (body r).map fun x => (x.1, x.2 + 1) else none
theorem qtd_cons (c : UInt8) (r : Bs) : qtd (c :: r) = if c = 34 then (body r).map fun x => (x.1, x.2 + 1) else none := rfl
theorem qtd_iff (l t : Bs) (n : Nat) : qtd l = some (t, n) ↔ (∃ r, l = quoteL t ++ r) ∧ n = (quoteL t).length := by
  constructor
  · intro h
    match l with
    | [] => simp [qtd] at h
    | c :: r =>
      rw [qtd_cons] at h
      split at h
      · rename_i e
        obtain ⟨⟨t', n'⟩, h1, h2⟩ := Option.map_eq_some_iff.1 h
        simp only [Prod.mk.injEq] at h2
        obtain ⟨rfl, rfl⟩ := h2
        obtain ⟨⟨r', e1⟩, e2⟩ := (body_iff _ _ _).1 h1
        exact ⟨⟨r', by rw [e, e1]; simp [quoteL]⟩, by rw [e2]; simp [quoteL]⟩
      · simp at h
  · rintro ⟨⟨r, rfl⟩, rfl⟩
    have : quoteL t ++ r = 34 :: (mid t ++ 34 :: r) := by simp [quoteL]
    rw [this, qtd, if_pos rfl, (body_iff _ t ((mid t).length + 1)).2 ⟨⟨r, rfl⟩, rfl⟩]
    simp [quoteL]
theorem quoteL_inj {s t : Bs} (h : quoteL s = quoteL t) : s = t := by
  have h1 := (qtd_iff (quoteL s) s _).2 ⟨⟨[], by simp⟩, rfl⟩
  have h2 := (qtd_iff (quoteL s) t _).2 ⟨⟨[], by simp [h]⟩, rfl⟩
  rw [h1] at h2
  simp only [Option.some.injEq, Prod.mk.injEq] at h2
  exact h2.1
/-- reads a quoted text -/
def unq (l : Bs) : Option Bs := match qtd l with | some (t, n) => if n = l.length then some t else none | none => none
theorem unq_iff (l t : Bs) : unq l = some t ↔ l = quoteL t := by
  unfold unq
  constructor
  · intro h
    split at h
    · rename_i t' n h1
      split at h
      · rename_i h2
        simp only [Option.some.injEq] at h
        subst h
        obtain ⟨⟨r, e⟩, e2⟩ := (qtd_iff _ _ _).1 h1
        have : r = [] := by
          have := congrArg List.length e
          rw [List.length_append] at this
          cases r with
          | nil => rfl
          | cons x r => simp at this; omega
        rw [e, this, List.append_nil]
      · simp at h
    · simp at h
  · rintro rfl
    rw [(qtd_iff (quoteL t) t _).2 ⟨⟨[], by simp⟩, rfl⟩]
    simp
theorem quoteL_signs (l : Bs) : ∀ c ∈ quoteL l, 32 ≤ c.toNat ∧ c.toNat ≤ 126 := by
  intro c hc
  simp only [quoteL, mid, List.mem_cons, List.mem_append, List.mem_flatMap, List.not_mem_nil, or_false] at hc
  rcases hc with rfl | ⟨x, _, hx⟩ | rfl
  · decide
  · unfold qb at hx
    split at hx
    · rename_i h
      simp at hx; subst hx
      simp [good] at h; omega
    · have := hexd_sign x
      simp at hx
      rcases hx with rfl | rfl | rfl | rfl
      · decide
      · decide
      · exact ⟨this.1.1, this.1.2.1⟩
      · exact ⟨this.2.1, this.2.2.1⟩
  · decide
end Go.Proofs.YtphiahlodjblcaaDoor.QuotePlain
