/- The laws of paths, in plain Lean, no program in sight: what is put together of names is read as they were. No condition but that names may be. -/
import Derived.Test.YtbkdmegjgakjpaaDoorRef3
set_option linter.unusedVariables false
set_option linter.unusedSimpArgs false
namespace Go.Proofs.YtbkdmegjgakjpaaDoor.Vcg
open Go.RowKit
/-- a name that a text can have -/
def isName (x : List UInt8) : Prop := x ≠ [] ∧ (47 : UInt8) ∉ x
theorem spl_app : ∀ a t : List UInt8, spl (a ++ 47 :: t) = spl a ++ spl t
  | [], t => by
    have : spl (47 :: t) = [] :: spl t := rfl
    exact this
  | b :: a, t => by
    have ih := spl_app a t
    have e1 : spl (b :: (a ++ 47 :: t)) = if b = 47 then [] :: spl (a ++ 47 :: t) else match spl (a ++ 47 :: t) with
      | [] => [[b]]
      | x :: r => (b :: x) :: r := rfl
    have e2 : spl (b :: a) = if b = 47 then [] :: spl a else match spl a with
      | [] => [[b]]
      | x :: r => (b :: x) :: r := rfl
    rw [List.cons_append, e1, e2, ih]
    by_cases hb : b = 47
    · simp [hb]
    · rw [if_neg hb, if_neg hb]
      have hne := spl_ne a
      cases hs : spl a with
      | nil => exact absurd hs hne
      | cons x r => simp
theorem spl_one : ∀ x : List UInt8, (47 : UInt8) ∉ x → spl x = [x]
  | [], _ => rfl
  | b :: x, h => by
    have hb : ¬ (b = 47) := fun e => h (by rw [e]; exact List.mem_cons_self)
    have ih := spl_one x (fun hx => h (List.mem_cons_of_mem _ hx))
    unfold spl
    rw [if_neg hb, ih]
theorem spl_mem : ∀ (l x : List UInt8), x ∈ spl l → (47 : UInt8) ∉ x
  | [], x, h => by simp [spl] at h; subst h; simp
  | b :: l, x, h => by
    have ih := spl_mem l
    unfold spl at h
    by_cases hb : b = 47
    · rw [if_pos hb] at h
      rcases List.mem_cons.1 h with rfl | h
      · simp
      · exact ih x h
    · rw [if_neg hb] at h
      have hne := spl_ne l
      cases hs : spl l with
      | nil => exact absurd hs hne
      | cons y r =>
        rw [hs] at h ih
        simp only at h
        rcases List.mem_cons.1 h with rfl | h
        · intro hm
          rcases List.mem_cons.1 hm with e | hm
          · exact hb e.symm
          · exact ih y List.mem_cons_self hm
        · exact ih x (List.mem_cons_of_mem _ h)
theorem names_mem {l x : List UInt8} (h : x ∈ names l) : isName x := by
  rw [names_spl, List.mem_filter] at h
  exact ⟨by simpa using h.2, spl_mem l x h.1⟩
theorem names_app (a t : List UInt8) : names (a ++ 47 :: t) = names a ++ names t := by
  rw [names_spl, names_spl, names_spl, spl_app, List.filter_append]
theorem names_one {x : List UInt8} (h : isName x) : names x = [x] := by
  rw [names_spl, spl_one x h.2]
  simp [h.1]
theorem names_slash (l : List UInt8) : names (47 :: l) = names l := names_app [] l
theorem names_join : ∀ xs : List (List UInt8), (∀ x ∈ xs, isName x) → names (Lib.join xs [47]) = xs
  | [], _ => rfl
  | [x], h => by rw [Lib.join_one]; exact names_one (h x List.mem_cons_self)
  | x :: y :: r, h => by
    have ih := names_join (y :: r) fun z hz => h z (List.mem_cons_of_mem _ hz)
    rw [join_cons2, List.append_assoc]
    show names (x ++ 47 :: Lib.join (y :: r) [47]) = _
    rw [names_app, ih, names_one (h x List.mem_cons_self)]
    rfl
theorem names_joinP (xs : List (List UInt8)) (h : ∀ x ∈ xs, isName x) : names (joinP xs) = xs := by
  unfold joinP
  by_cases hx : xs = []
  · rw [if_pos hx, hx]; rfl
  · rw [if_neg hx, names_slash, names_join xs h]
theorem names_put (a : Bool) (xs : List (List UInt8)) (s : Bool) (h : ∀ x ∈ xs, isName x) : names (put a xs s) = xs := by
  have hj := names_join xs h
  unfold put
  have e1 : ∀ t : List UInt8, names ((if a then [47] else []) ++ t) = names t := fun t => by
    cases a
    · rfl
    · exact names_slash t
  rw [List.append_assoc, e1]
  split
  · rw [show Lib.join xs [47] ++ [47] = Lib.join xs [47] ++ 47 :: [] from rfl, names_app, hj]
    simp [names_nil]
  · rw [List.append_nil, hj]
theorem pre_cons (b : UInt8) (l : List UInt8) : Lib.hasPrefix (b :: l) [47] = decide (b = 47) := by
  have := pre_at (b :: l) b rfl
  rw [this]
  by_cases h : b = 47
  · subst h; rfl
  · have h2 : ¬ ((b.toNat : Int) = 47) := u8_ne h
    simp [h, h2]
theorem pre_nil : Lib.hasPrefix [] [47] = false := rfl
theorem join_head (x : List UInt8) (r : List (List UInt8)) : ∃ t, Lib.join (x :: r) [47] = x ++ t := by
  cases r with
  | nil => exact ⟨[], by rw [Lib.join_one]; simp⟩
  | cons y r => exact ⟨[47] ++ Lib.join (y :: r) [47], by rw [join_cons2, List.append_assoc]⟩
theorem put_abs (a : Bool) (xs : List (List UInt8)) (s : Bool) (h : ∀ x ∈ xs, isName x) : Lib.hasPrefix (put a xs s) [47] = a := by
  unfold put
  cases a
  · cases xs with
    | nil => simp [Lib.join, pre_nil]
    | cons x r =>
      obtain ⟨t, ht⟩ := join_head x r
      have hx := h x List.mem_cons_self
      rw [ht]
      cases x with
      | nil => exact absurd rfl hx.1
      | cons b x =>
        have : ¬ (b = 47) := fun e => hx.2 (by rw [e]; exact List.mem_cons_self)
        simp [pre_cons, this]
  · simp [pre_cons]
theorem suf_snoc (l : List UInt8) (b : UInt8) : Lib.hasSuffix (l ++ [b]) [47] = decide (b = 47) := by
  have := suf_at (l ++ [b]) b (by simp)
  rw [this]
  by_cases h : b = 47
  · subst h; rfl
  · have h2 : ¬ ((b.toNat : Int) = 47) := u8_ne h
    simp [h, h2]
theorem join_last : ∀ xs : List (List UInt8), xs ≠ [] → (∀ x ∈ xs, isName x) → ∃ t b, Lib.join xs [47] = t ++ [b] ∧ b ≠ 47
  | [], h, _ => absurd rfl h
  | [x], _, h => by
    have hx := h x List.mem_cons_self
    refine ⟨x.dropLast, x.getLast hx.1, ?_, fun e => hx.2 ?_⟩
    · rw [Lib.join_one, List.dropLast_concat_getLast]
    · rw [← e]; exact List.getLast_mem _
  | x :: y :: r, _, h => by
    obtain ⟨t, b, e, hb⟩ := join_last (y :: r) (by simp) fun z hz => h z (List.mem_cons_of_mem _ hz)
    exact ⟨x ++ [47] ++ t, b, by rw [join_cons2, e]; simp, hb⟩
theorem put_slash (a : Bool) (xs : List (List UInt8)) (s : Bool) (h : ∀ x ∈ xs, isName x) : (!decide (xs = []) && Lib.hasSuffix (put a xs s) [47]) = (s && !decide (xs = [])) := by
  by_cases hx : xs = []
  · simp [hx]
  · unfold put
    cases s
    · obtain ⟨t, b, e, hb⟩ := join_last xs hx h
      have := suf_snoc ((if a then [47] else []) ++ t) b
      simp only [Bool.false_and, Bool.false_eq_true, if_false, List.append_nil, e]
      rw [← List.append_assoc, this]
      simp [hb]
    · have := suf_snoc ((if a then [47] else []) ++ Lib.join xs [47]) 47
      simp only [hx, Bool.true_and, decide_false, Bool.not_false, if_true]
      rw [this]; rfl
theorem names_none (p : List UInt8) (h : names p = []) : Lib.hasPrefix p [47] = !decide (p = []) := by
  cases p with
  | nil => rfl
  | cons b l =>
    rw [pre_cons]
    by_cases hb : b = 47
    · simp [hb]
    · exfalso
      rw [names_spl] at h
      have hne := spl_ne l
      have : ∃ x r, spl (b :: l) = (b :: x) :: r := by
        unfold spl
        rw [if_neg hb]
        cases hs : spl l with
        | nil => exact absurd hs hne
        | cons x r => exact ⟨x, r, rfl⟩
      obtain ⟨x, r, e⟩ := this
      rw [e] at h
      simp at h
theorem may_name {x : List UInt8} (h : may x = true) : isName x := by
  simp only [may, Bool.and_eq_true, Bool.not_eq_true', decide_eq_false_iff_not] at h
  refine ⟨h.1.1.1.1, fun hm => ?_⟩
  have := List.any_eq_false.1 h.1.1.2 47 hm
  exact this (by decide)
theorem joinP_plain (xs : List (List UInt8)) (h : ∀ x ∈ xs, may x = true) : plain (joinP xs) = true := by
  have hn := names_joinP xs fun x hx => may_name (h x hx)
  unfold plain
  rw [hn]
  simp only [decide_true, Bool.true_and]
  exact List.all_eq_true.2 h
theorem joinP_app (xs zs : List (List UInt8)) (hx : xs ≠ []) (hz : zs ≠ []) : joinP (xs ++ zs) = joinP xs ++ 47 :: Lib.join zs [47] := by
  unfold joinP
  rw [if_neg hx, if_neg (by simp [hx])]
  simp only [List.cons_append, List.cons.injEq, true_and]
  induction xs with
  | nil => exact absurd rfl hx
  | cons x r ih =>
    cases r with
    | nil =>
      cases zs with
      | nil => exact absurd rfl hz
      | cons z zs => simp only [List.cons_append, List.nil_append]; rw [join_cons2, Lib.join_one]; simp
    | cons y r =>
      have := ih (by simp)
      simp only [List.cons_append] at this ⊢
      rw [join_cons2, join_cons2, this]
      simp
theorem under_joinP (xs ys : List (List UInt8)) (hx : ∀ x ∈ xs, isName x) (hy : ∀ y ∈ ys, isName y) : underP (joinP xs) (joinP ys) = decide (xs.take ys.length = ys) := by
  have nx := names_joinP xs hx
  have ny := names_joinP ys hy
  rw [Bool.eq_iff_iff]
  simp only [decide_eq_true_eq, underP, Bool.or_eq_true]
  constructor
  · rintro ((h | h) | h)
    · have : xs = ys := by rw [← nx, ← ny, h]
      rw [this, List.take_length]
    · have : ys = [] := by rw [← ny, h]; rfl
      rw [this]; rfl
    · unfold Lib.hasPrefix at h
      obtain ⟨t, ht⟩ := List.isPrefixOf_iff_prefix.1 h
      have : xs = ys ++ names t := by
        rw [← nx, ← ht, List.append_assoc]
        show names (joinP ys ++ 47 :: t) = _
        rw [names_app, ny]
      rw [this, List.take_left]
  · intro h
    have e : xs = ys ++ xs.drop ys.length := by
      conv => lhs; rw [← List.take_append_drop ys.length xs, h]
    by_cases hys : ys = []
    · exact .inl (.inr (by rw [hys]; rfl))
    · by_cases hd : xs.drop ys.length = []
      · refine .inl (.inl ?_)
        rw [hd, List.append_nil] at e
        rw [e]
      · refine .inr ?_
        rw [e, joinP_app _ _ hys hd]
        unfold Lib.hasPrefix
        refine List.isPrefixOf_iff_prefix.2 ⟨Lib.join (xs.drop ys.length) [47], ?_⟩
        simp
theorem plain_joinP {p : List UInt8} (h : plain p = true) : joinP (names p) = p := by
  unfold plain at h
  simp only [Bool.and_eq_true, decide_eq_true_eq] at h
  exact h.1
theorem under_plain (p q : List UInt8) (hp : plain p = true) (hq : plain q = true) : underP p q = refUnder p q := by
  have h := under_joinP (names p) (names q) (fun x hx => names_mem hx) (fun x hx => names_mem hx)
  rw [plain_joinP hp, plain_joinP hq] at h
  exact h
end Go.Proofs.YtbkdmegjgakjpaaDoor.Vcg
