/- Plain facts on lines of words, and on the reference's way to read and to cut: both ways come to the same. No condition. -/
import Derived.Test.YtphiahlodjblcaaDoorQuotePlain
namespace Go.Proofs.YtphiahlodjblcaaDoor.QuotePlain
/-- the reference's reading, from behind the mark on -/
def rr : Nat → Bs → Bs
  | 0, _ => []
  | _ + 1, [] => []
  | _ + 1, [_] => []
  | f + 1, c :: d :: r => if c = 92 ∧ 4 ≤ (c :: d :: r).length then UInt8.ofNat (hexv ((c :: d :: r).getD 2 0) * 16 + hexv ((c :: d :: r).getD 3 0)) :: rr f ((c :: d :: r).drop 4) else c :: rr f (d :: r)
theorem rr_good (f : Nat) (c : UInt8) (r : Bs) (h : c ≠ 92) (hr : r ≠ []) : rr (f + 1) (c :: r) = c :: rr f r := by
  match r, hr with
  | d :: r, _ => rw [rr, if_neg (fun e => h e.1)]
theorem rr_mid : ∀ (t : Bs) (f : Nat), (mid t).length + 1 ≤ f → rr f (mid t ++ [34]) = t
  | [], 0, h => by simp at h
  | [], f + 1, _ => by simp [mid, rr]
  | c :: t, 0, h => by simp at h
  | c :: t, f + 1, h => by
    have e : mid (c :: t) ++ [34] = qb c ++ (mid t ++ [34]) := by simp [mid]
    have hl : (mid (c :: t)).length = (qb c).length + (mid t).length := by simp [mid]
    have hp := qb_pos c
    rw [e]
    by_cases hg : good c = true
    · have hq : qb c = [c] := by rw [qb, if_pos hg]
      rw [hq] at hl ⊢
      rw [List.cons_append, List.nil_append, rr_good f c _ (good_92 hg) (by simp), rr_mid t f (by simp at hl; omega)]
    · have hq : qb c = [92, 120, hexd (c.toNat / 16), hexd (c.toNat % 16)] := by rw [qb, if_neg hg]
      obtain ⟨h1, h2⟩ := hex_back c
      rw [hq] at hl ⊢
      simp only [List.cons_append, List.nil_append]
      rw [rr, if_pos ⟨rfl, by simp⟩]
      simp only [List.getD_cons_succ, List.getD_cons_zero, List.drop_succ_cons, List.drop_zero, h1, h2, ofNat_parts]
      rw [rr_mid t f (by simp at hl; omega)]
theorem rr_more : ∀ (f g : Nat) (l : Bs), l.length ≤ f → l.length ≤ g → rr f l = rr g l
  | 0, g, l, h, _ => by
    have : l = [] := List.length_eq_zero_iff.1 (by omega)
    subst this
    cases g <;> rfl
  | f + 1, 0, l, _, h => by
    have : l = [] := List.length_eq_zero_iff.1 (by omega)
    subst this; rfl
  | f + 1, g + 1, [], _, _ => rfl
  | f + 1, g + 1, [_], _, _ => rfl
  | f + 1, g + 1, c :: d :: r, h1, h2 => by
    rw [rr, rr]
    simp only [List.length_cons] at h1 h2
    rw [rr_more f g ((c :: d :: r).drop 4) (by rw [List.length_drop]; simp only [List.length_cons]; omega) (by rw [List.length_drop]; simp only [List.length_cons]; omega), rr_more f g (d :: r) (by simp only [List.length_cons]; omega) (by simp only [List.length_cons]; omega)]
def rread (l : Bs) : Bs := rr l.length l
theorem rread_short (l : Bs) (h : l.length ≤ 1) : rread l = [] := by
  match l with
  | [] => rfl
  | [_] => rfl
  | _ :: _ :: _ => simp at h
theorem rread_esc (l : Bs) (h : 4 ≤ l.length) (h0 : l.getD 0 0 = 92) : rread l = UInt8.ofNat (hexv (l.getD 2 0) * 16 + hexv (l.getD 3 0)) :: rread (l.drop 4) := by
  match l, h with
  | c :: d :: a :: b :: r, _ =>
    simp only [List.getD_cons_zero] at h0
    subst h0
    rw [rread, List.length_cons, rr, if_pos ⟨rfl, by simp⟩, rread]
    rw [rr_more _ (List.drop 4 (92 :: d :: a :: b :: r)).length _ (by simp; omega) (by simp)]
theorem rread_one (l : Bs) (h : 2 ≤ l.length) (h0 : ¬ (l.getD 0 0 = 92 ∧ 4 ≤ l.length)) : rread l = l.getD 0 0 :: rread (l.drop 1) := by
  match l, h with
  | c :: d :: r, _ =>
    simp only [List.getD_cons_zero] at h0
    rw [rread, List.length_cons, rr, if_neg h0, rread]
    rfl
theorem rread_mid (t : Bs) : rread (mid t ++ [34]) = t := rr_mid t _ (by simp)
/-- the reference's Unquote -/
def runq (l : Bs) : Option Bs := if quoteL (rread (l.drop 1)) = l then some (rread (l.drop 1)) else none
theorem runq_eq (l : Bs) : runq l = unq l := by
  unfold runq
  split
  · rename_i h; exact ((unq_iff _ _).2 h.symm).symm
  · rename_i h
    cases h1 : unq l with
    | none => rfl
    | some t =>
      have h2 := (unq_iff l t).1 h1
      have h3 : rread (l.drop 1) = t := by rw [h2]; exact rread_mid t
      exact absurd (by rw [h3, ← h2]) h
/-- a word: quoted, or plain -/
def okw (w : Bs) : Bool := (unq w).isSome || plainL w
def blanks (ws : List Bs) : Bs := [32].intercalate ws
theorem blanks_one (w : Bs) : blanks [w] = w := by simp [blanks, List.intercalate]
theorem blanks_cons (w v : Bs) (ws : List Bs) : blanks (w :: v :: ws) = w ++ 32 :: blanks (v :: ws) := by
  simp [blanks, List.intercalate, List.intersperse]
def wd : Bs → Bs
  | [] => []
  | c :: r => if c = 32 then [] else c :: wd r
theorem wd_split : ∀ l : Bs, l = wd l ++ l.drop (wd l).length
  | [] => rfl
  | c :: r => by
    rw [wd]
    split
    · rfl
    · rw [List.length_cons, List.drop_succ_cons, List.cons_append, ← wd_split r]
theorem wd_no : ∀ (l r : Bs), 32 ∉ l → wd (l ++ r) = l ++ wd r
  | [], r, _ => rfl
  | c :: l, r, h => by
    have h1 : c ≠ 32 := by rintro rfl; simp at h
    rw [List.cons_append, wd, if_neg h1, wd_no l r (fun e => h (List.mem_cons_of_mem _ e))]; rfl
/-- the word at the beginning: nothing, where there is none -/
def word1 (l : Bs) : Option Bs :=
  match qtd l with
  | some (_, n) => some (l.take n)
  | none => if plainL (wd l) then some (wd l) else none
def splitF : Nat → Bs → Option (List Bs)
  | 0, _ => none
  | f + 1, l => match word1 l with
    | none => none
    | some w => match l.drop w.length with
      | [] => some [w]
      | c :: r => if c = 32 ∧ r ≠ [] then (splitF f r).map (w :: ·) else none
theorem plain_ne {w : Bs} (h : plainL w = true) : w ≠ [] := by
  simp only [plainL, Bool.and_eq_true, decide_eq_true_eq] at h; exact h.1
theorem plain_mem {w : Bs} (h : plainL w = true) : ∀ c ∈ w, 33 ≤ c.toNat ∧ c.toNat ≤ 126 ∧ c.toNat ≠ 34 := by
  simp only [plainL, Bool.and_eq_true, List.all_eq_true, decide_eq_true_eq] at h; exact h.2
theorem plain_32 {w : Bs} (h : plainL w = true) : 32 ∉ w := fun e => by have := (plain_mem h 32 e).1; revert this; decide
theorem plain_34 {w : Bs} (h : plainL w = true) : 34 ∉ w := fun e => by have := (plain_mem h 34 e).2.2; revert this; decide
theorem quoteL_ne (t : Bs) : quoteL t ≠ [] := by simp [quoteL]
theorem okw_ne {w : Bs} (h : okw w = true) : w ≠ [] := by
  simp only [okw, Bool.or_eq_true] at h
  rcases h with h | h
  · obtain ⟨t, ht⟩ := Option.isSome_iff_exists.1 h
    rw [(unq_iff _ _).1 ht]; exact quoteL_ne t
  · exact plain_ne h
theorem okw_quote (t : Bs) : okw (quoteL t) = true := by simp [okw, (unq_iff _ _).2 (rfl : quoteL t = quoteL t)]
theorem word1_of {l w : Bs} (h : word1 l = some w) : okw w = true ∧ l = w ++ l.drop w.length := by
  unfold word1 at h
  split at h
  · rename_i t n hq
    simp only [Option.some.injEq] at h
    subst h
    obtain ⟨⟨r, e⟩, e2⟩ := (qtd_iff _ _ _).1 hq
    have hw : l.take n = quoteL t := by rw [e, e2]; simp
    rw [hw]
    exact ⟨okw_quote t, by rw [e]; simp⟩
  · split at h
    · rename_i hp
      simp only [Option.some.injEq] at h
      subst h
      exact ⟨by simp [okw, hp], wd_split l⟩
    · cases h
theorem word1_ok {w r : Bs} (h : okw w = true) (hr : r = [] ∨ ∃ r', r = 32 :: r') : word1 (w ++ r) = some w := by
  simp only [okw, Bool.or_eq_true] at h
  by_cases hu : (unq w).isSome = true
  · obtain ⟨t, ht⟩ := Option.isSome_iff_exists.1 hu
    have hw := (unq_iff _ _).1 ht
    rw [word1, (qtd_iff (w ++ r) t w.length).2 ⟨⟨r, by rw [hw]⟩, by rw [hw]⟩]
    simp
  · have hp : plainL w = true := by rcases h with h | h; exact absurd h hu; exact h
    have hq : qtd (w ++ r) = none := by
      match w, plain_ne hp, plain_34 hp with
      | c :: w, _, h34 =>
        rw [List.cons_append, qtd_cons, if_neg]
        rintro rfl; simp at h34
    have ht : wd (w ++ r) = w := by
      rw [wd_no _ _ (plain_32 hp)]
      rcases hr with rfl | ⟨r', rfl⟩
      · rw [wd, List.append_nil]
      · rw [wd, if_pos rfl, List.append_nil]
    rw [word1, hq]
    simp only [ht, hp, if_true]
theorem splitF_of : ∀ f l ws, splitF f l = some ws → ws ≠ [] ∧ (∀ w ∈ ws, okw w = true) ∧ l = blanks ws
  | 0, _, _, h => by simp [splitF] at h
  | f + 1, l, ws, h => by
    rw [splitF] at h
    split at h
    · cases h
    · rename_i w hw
      obtain ⟨h1, h2⟩ := word1_of hw
      split at h
      · rename_i hd
        simp only [Option.some.injEq] at h
        subst h
        rw [hd, List.append_nil] at h2
        exact ⟨by simp, by simpa using h1, by rw [blanks_one]; exact h2⟩
      · rename_i c r hd
        split at h
        · rename_i hc
          obtain ⟨rfl, _⟩ := hc
          obtain ⟨ws', h3, rfl⟩ := Option.map_eq_some_iff.1 h
          obtain ⟨h4, h5, h6⟩ := splitF_of f r ws' h3
          refine ⟨by simp, by simpa using ⟨h1, h5⟩, ?_⟩
          match ws', h4 with
          | v :: ws', _ => rw [blanks_cons, ← h6, ← hd]; exact h2
        · cases h
theorem blanks_ne {ws : List Bs} (h0 : ws ≠ []) (h : ∀ w ∈ ws, okw w = true) : blanks ws ≠ [] := by
  match ws, h0 with
  | [w], _ => rw [blanks_one]; exact okw_ne (h w (by simp))
  | w :: v :: ws, _ => rw [blanks_cons]; simp
theorem splitF_blanks : ∀ (ws : List Bs) (f : Nat), ws ≠ [] → (∀ w ∈ ws, okw w = true) → ws.length ≤ f → splitF f (blanks ws) = some ws
  | [], _, h, _, _ => absurd rfl h
  | _ :: _, 0, _, _, h => by simp at h
  | [w], f + 1, _, h, _ => by
    have := word1_ok (w := w) (r := []) (h w (by simp)) (.inl rfl)
    rw [List.append_nil] at this
    rw [blanks_one, splitF, this]
    simp
  | w :: v :: ws, f + 1, _, h, hf => by
    have hw := word1_ok (w := w) (r := 32 :: blanks (v :: ws)) (h w (by simp)) (.inr ⟨_, rfl⟩)
    rw [blanks_cons, splitF, hw]
    have hne := blanks_ne (ws := v :: ws) (by simp) (fun x hx => h x (List.mem_cons_of_mem _ hx))
    simp only [List.drop_left]
    rw [if_pos ⟨trivial, hne⟩, splitF_blanks (v :: ws) f (by simp) (fun x hx => h x (List.mem_cons_of_mem _ hx)) (by simp at hf ⊢; omega)]
    rfl
theorem blanks_length : ∀ (ws : List Bs), (∀ w ∈ ws, okw w = true) → ws.length ≤ (blanks ws).length
  | [], _ => by simp
  | [w], h => by
    rw [blanks_one]
    have := okw_ne (h w (by simp))
    cases w with
    | nil => exact absurd rfl this
    | cons _ _ => simp
  | w :: v :: ws, h => by
    have := blanks_length (v :: ws) fun x hx => h x (List.mem_cons_of_mem _ hx)
    rw [blanks_cons]
    simp only [List.length_cons, List.length_append] at this ⊢
    omega
/-- a line's words: of a line that isn't empty -/
def split1 (l : Bs) : Option (List Bs) := splitF (l.length + 1) l
theorem split1_iff (l : Bs) (ws : List Bs) : split1 l = some ws ↔ ws ≠ [] ∧ (∀ w ∈ ws, okw w = true) ∧ l = blanks ws := by
  constructor
  · exact splitF_of _ _ _
  · rintro ⟨h1, h2, rfl⟩
    exact splitF_blanks ws _ h1 h2 (by have := blanks_length ws h2; omega)
theorem splitF_more (f : Nat) (l : Bs) (h : l.length ≤ f) : splitF f l = split1 l := by
  cases h1 : split1 l with
  | some ws =>
    obtain ⟨a, b, c⟩ := (split1_iff l ws).1 h1
    have := blanks_length ws b
    rw [← c] at this
    rw [c]; exact splitF_blanks ws f a b (by omega)
  | none =>
    cases h2 : splitF f l with
    | none => rfl
    | some ws => rw [(split1_iff l ws).2 (splitF_of _ _ _ h2)] at h1; cases h1
theorem split1_none {l : Bs} (h : word1 l = none) : split1 l = none := by rw [split1, splitF, h]
theorem split1_last {l w : Bs} (h : word1 l = some w) (h1 : l.drop w.length = []) : split1 l = some [w] := by rw [split1, splitF, h]; simp only [h1]
theorem split1_bad {l w : Bs} {c : UInt8} {r : Bs} (h : word1 l = some w) (h1 : l.drop w.length = c :: r) (h2 : ¬ (c = 32 ∧ r ≠ [])) : split1 l = none := by
  rw [split1, splitF, h]; simp only [h1]; rw [if_neg h2]
theorem split1_more {l w : Bs} {r : Bs} (h : word1 l = some w) (h1 : l.drop w.length = 32 :: r) (h2 : r ≠ []) : split1 l = (split1 r).map (w :: ·) := by
  have hl : r.length < l.length := by
    have := congrArg List.length h1
    simp only [List.length_drop, List.length_cons] at this; omega
  rw [split1, splitF, h]; simp only [h1]; rw [if_pos ⟨trivial, h2⟩, splitF_more _ _ (by omega)]
def splitW (l : Bs) : Option (List Bs) := if l = [] then some [] else split1 l
/-- the reference's cut -/
def cut : Bs → Bs → Bool → Option (List Bs)
  | [], w, _ => if okw w then some [w] else none
  | c :: r, w, i => if c = 32 ∧ i = false then (if okw w then (cut r [] i).map (w :: ·) else none) else cut r (w ++ [c]) (if c = 34 then !i else i)
theorem cut_of : ∀ l w i ws, cut l w i = some ws → ws ≠ [] ∧ (∀ w ∈ ws, okw w = true) ∧ w ++ l = blanks ws
  | [], w, i, ws, h => by
    rw [cut] at h
    split at h
    · rename_i hw
      simp only [Option.some.injEq] at h
      subst h
      exact ⟨by simp, by simpa using hw, by rw [blanks_one, List.append_nil]⟩
    · cases h
  | c :: r, w, i, ws, h => by
    rw [cut] at h
    split at h
    · rename_i hc
      split at h
      · rename_i hw
        obtain ⟨ws', h1, rfl⟩ := Option.map_eq_some_iff.1 h
        obtain ⟨h2, h3, h4⟩ := cut_of r [] i ws' h1
        refine ⟨by simp, by simpa using ⟨hw, h3⟩, ?_⟩
        match ws', h2 with
        | v :: ws', _ => rw [blanks_cons, ← h4, hc.1]; rfl
      · cases h
    · obtain ⟨h1, h2, h3⟩ := cut_of r (w ++ [c]) _ ws h
      exact ⟨h1, h2, by rw [← h3]; simp⟩
theorem cut_in : ∀ (m r w : Bs), 34 ∉ m → cut (m ++ r) w true = cut r (w ++ m) true
  | [], r, w, _ => by simp
  | c :: m, r, w, h => by
    have h1 : c ≠ 34 := by rintro rfl; simp at h
    rw [List.cons_append, cut, if_neg (by simp), if_neg h1, cut_in m r _ (fun e => h (List.mem_cons_of_mem _ e))]
    simp
theorem cut_out : ∀ (m r w : Bs), 34 ∉ m → 32 ∉ m → cut (m ++ r) w false = cut r (w ++ m) false
  | [], r, w, _, _ => by simp
  | c :: m, r, w, h, h' => by
    have h1 : c ≠ 34 := by rintro rfl; simp at h
    have h2 : c ≠ 32 := by rintro rfl; simp at h'
    rw [List.cons_append, cut, if_neg (by simp [h2]), if_neg h1, cut_out m r _ (fun e => h (List.mem_cons_of_mem _ e)) (fun e => h' (List.mem_cons_of_mem _ e))]
    simp
theorem cut_word {w : Bs} (r : Bs) (h : okw w = true) : cut (w ++ r) [] false = cut r w false := by
  by_cases hu : (unq w).isSome = true
  · obtain ⟨t, ht⟩ := Option.isSome_iff_exists.1 hu
    have hw := (unq_iff _ _).1 ht
    have e : w ++ r = 34 :: (mid t ++ (34 :: r)) := by rw [hw]; simp [quoteL]
    rw [e, cut, if_neg (by simp), if_pos rfl]
    show cut (mid t ++ (34 :: r)) [34] true = _
    rw [cut_in _ _ _ (mid_no34 t), cut, if_neg (by simp), if_pos rfl, hw]
    simp [quoteL]
  · have hp : plainL w = true := by
      simp only [okw, Bool.or_eq_true] at h
      rcases h with h | h; exact absurd h hu; exact h
    rw [cut_out _ _ _ (plain_34 hp) (plain_32 hp)]; rfl
theorem cut_blanks : ∀ (ws : List Bs), ws ≠ [] → (∀ w ∈ ws, okw w = true) → cut (blanks ws) [] false = some ws
  | [], h, _ => absurd rfl h
  | [w], _, h => by
    have hw := h w (by simp)
    have := cut_word [] hw
    rw [List.append_nil] at this
    rw [blanks_one, this, cut, if_pos hw]
  | w :: v :: ws, _, h => by
    have hw := h w (by simp)
    rw [blanks_cons, cut_word _ hw, cut, if_pos ⟨rfl, rfl⟩, if_pos hw, cut_blanks (v :: ws) (by simp) fun x hx => h x (List.mem_cons_of_mem _ hx)]
    rfl
theorem cut_eq (l : Bs) : cut l [] false = split1 l := by
  cases h : split1 l with
  | some ws =>
    obtain ⟨h1, h2, h3⟩ := (split1_iff _ _).1 h
    rw [h3]; exact cut_blanks ws h1 h2
  | none =>
    cases h2 : cut l [] false with
    | none => rfl
    | some ws =>
      obtain ⟨a, b, c⟩ := cut_of _ _ _ _ h2
      rw [List.nil_append] at c
      rw [(split1_iff l ws).2 ⟨a, b, c⟩] at h; cases h
/-- with an empty word between, ahead or behind, a line is none -/
theorem split1_blank (pre post : List Bs) (h : ∀ w ∈ pre, okw w = true) : split1 (blanks (pre ++ [] :: post)) = none := by
  rw [← cut_eq]
  have h0 : okw [] = false := by decide
  have key : ∀ post : List Bs, post ≠ [] → cut (blanks ([] :: post)) [] false = none := by
    intro post hp
    match post, hp with
    | v :: post, _ => rw [blanks_cons, List.nil_append, cut, if_pos ⟨rfl, rfl⟩, h0]; rfl
  have key2 : ∀ post : List Bs, cut (blanks ([] :: post)) [] false = none := by
    intro post
    cases post with
    | nil => rw [blanks_one, cut, h0]; rfl
    | cons v post => exact key _ (by simp)
  induction pre with
  | nil => rw [List.nil_append]; exact key2 post
  | cons w pre ih =>
    have hw := h w (by simp)
    have e : blanks ((w :: pre) ++ [] :: post) = w ++ 32 :: blanks (pre ++ [] :: post) := by
      cases pre with
      | nil => exact blanks_cons _ _ _
      | cons v pre => exact blanks_cons _ _ _
    rw [e, cut_word _ hw, cut, if_pos ⟨rfl, rfl⟩, if_pos hw]
    rw [ih fun x hx => h x (List.mem_cons_of_mem _ hx)]; rfl
end Go.Proofs.YtphiahlodjblcaaDoor.QuotePlain
